/- DERIVED. The ring with one writer (package solo) among threads: Write. -/
import Derived.Test.YtlcplealnbekeaaGh
import Derived.Test.YtlcplealnbekeaaGi
import Derived.Test.YtlcplealnbekeaaGg
import Derived.Test.YtlcplealnbekeaaGd
set_option linter.unusedVariables false
set_option maxHeartbeats 4000000
set_option maxRecDepth 100000
namespace Go.Proofs.Ytlcplealnbekeaa
open Go.RowKit Go.Turn Go.Tame Go.Conc
def soB (I:Ids) (b:Nat):Prop:=b=I.so\/b=I.rb\/b=I.gb\/b=I.nb\/b=I.pb
structure SBd (k:Nat) (S:SoloSt):Prop where
 n0:-9223372036854775808<=S.next
 n1:S.next<=9223372036854775807
 c0:-9223372036854775808<=S.cursor
 c1:S.cursor<=9223372036854775806
 p0:∀ j,j<k->-9223372036854775808<=S.place j
 p1:∀ j,j<k->S.place j<=9223372036854775806
structure SAt (I:Ids) (S:SoloSt) (w:World):Prop where
 s:SoloAt w I S
 n:∀ b,soB I b->∃ c t,w.heap[b]?=some (.cells c t (0,0))
 b:SBd I.k S
theorem NumsAt.same {w w':World}{b k:Nat}{f:Nat->Int}(H:NumsAt w b k f) (h:w'.heap[b]?=w.heap[b]?) (hc:∃ c t,w.heap[b]?=some (.cells c t (0,0))):NumsAt w' b k f:=
 ⟨λi hi=>(World.cell?_of_block (w:=w) (a:=⟨b,i,none⟩) h).trans (H.cell i hi),λi=>(World.frozen?_of_block (w:=w) (a:=⟨b,i,none⟩) h).trans (H.free i),by obtain⟨c,t,e⟩:=hc;exact aB (h.trans e)⟩
theorem SAt.law (I:Ids) (S:SoloSt) (w w':World) (h:SAt I S w) (hs:∀ b,soB I b->w'.heap[b]?=w.heap[b]?):SAt I S w':=by
 have h1:=hs I.so (.inl rfl);have h2:=hs I.rb (.inr (.inl rfl));have h3:=hs I.gb (.inr (.inr (.inl rfl)));have h4:=hs I.nb (.inr (.inr (.inr (.inl rfl))));have h5:=hs I.pb (.inr (.inr (.inr (.inr rfl))));have hr:RAt I.rb I.gb I.n (S.st,S.va) w':=RAt.law (S.st,S.va) w w' ⟨h.s.ring,h.n _ (.inr (.inl rfl)),h.n _ (.inr (.inr (.inl rfl)))⟩ (λb hb=>by rcases hb with rfl | rfl <;> assumption)
 exact ⟨⟨h1.trans h.s.solo,hr.r,h.s.nums.same h4 (h.n _ (.inr (.inr (.inr (.inl rfl))))),h.s.places.same h5 (h.n _ (.inr (.inr (.inr (.inr rfl))))),h.s.most,h.s.d1,h.s.d2,h.s.d3⟩,
  λb hb=>by obtain⟨c,t,e⟩:=h.n b hb;exact⟨c,t,(hs b hb).trans e⟩,h.b⟩
def jP (I:Ids):Inner:={ A:=SoloSt,At:=SAt I,BI:=soB I,at_:=SAt.law I }
theorem SAt.c7 {I:Ids}{S:SoloSt}{y:World}(h:SAt I S y):y.cell? ⟨I.so,0,none⟩=some (.pointer (some ⟨I.rb,0,none⟩))/\y.cell? ⟨I.so,1,none⟩=some (.int .i64 S.cursor)/\y.cell? ⟨I.so,2,none⟩=some (.slice (some ⟨I.nb,0,none⟩) I.k I.k)/\y.cell? ⟨I.so,3,none⟩=some (.int .i64 S.next)/\y.cell? ⟨I.so,4,none⟩=some (.int .i64 S.cached)/\y.cell? ⟨I.so,5,none⟩=some (.int .i64 S.published)/\y.cell? ⟨I.so,6,none⟩=some (.slice (some ⟨I.pb,0,none⟩) I.k I.k)/\Hid (SoloAt y I S):=
 ⟨h.s.solo.cell 0,h.s.solo.cell 1,h.s.solo.cell 2,h.s.solo.cell 3,h.s.solo.cell 4,h.s.solo.cell 5,h.s.solo.cell 6,qd h.s⟩
abbrev OpsB.solo (B:OpsB) (I:Ids) (good:OpI->Prop):OpsD:=B.on (jP I) good
abbrev SSt:Type:=SoloSt × (Nat->List Ans)
section
variable {B:OpsB}{I:Ids}{good:OpI->Prop}
theorem iR {s:(B.solo I good).St}{H:Nat->Prop}{w:World}(h:RepO (B.solo I good) s H w) {d i:Nat}{v:Value}{S':SoloSt}(hp:soB I d) (hn:SoloAt (w.setCell ⟨d,i,none⟩ v) I S') (hb:SBd I.k S'):RepO (B.solo I good) (S',s.2) H (w.setCell ⟨d,i,none⟩ v)/\Held H w H (w.setCell ⟨d,i,none⟩ v):=by
 have ha:SAt I s.1 w:=h.at_;have hn':SAt I S' (w.setCell ⟨d,i,none⟩ v):=⟨hn,λb hb=>set_near (ha.n b hb),hb⟩;refine⟨h.inner (a':=S') hn' (λb _ hbi=>Below.heap_setCell _ _ _ _ (λe=>hbi (e▸hp))) (λb hb=>?_) (λ_ _ h=>h),held_in w (h.bi d hp) _⟩;obtain⟨c,t,e⟩:=hn'.n b hb;exact⟨c,t,_,e,by decide⟩
def soloL:RLens SoloSt:=⟨λS=>(S.st,S.va),λr S=>{ S with st:=r.1,va:=r.2 }⟩
theorem solo_ring:RingIn (B.solo I good) soloL I.rb I.gb I.n where
 at_:=fun s H w h=>by
  have ha:SAt I s.1 w:=h.at_;exact⟨ha.s.ring,ha.n _ (.inr (.inl rfl)),ha.n _ (.inr (.inr (.inl rfl)))⟩
 stamp:=fun s H w h i hi x=>by
  have ha:SAt I s.1 w:=h.at_;refine iR (S':={ s.1 with st:=uI s.1.st i x }) h (.inr (.inr (.inl rfl))) ⟨ha.s.solo.far ha.s.d1.2.1 _,ha.s.ring.setStamp hi x,ha.s.nums.far (λe=>ha.s.d3.1 e.symm) _,ha.s.places.far (λe=>ha.s.d3.2.1 e.symm) _,ha.s.most,ha.s.d1,ha.s.d2,ha.s.d3⟩ ⟨ha.b.1,ha.b.2,ha.b.3,ha.b.4,ha.b.5,ha.b.6⟩
 value:=fun s H w h i hi x=>by
  have ha:SAt I s.1 w:=h.at_;refine iR (S':={ s.1 with va:=uI s.1.va i x }) h (.inr (.inr (.inl rfl))) ⟨ha.s.solo.far ha.s.d1.2.1 _,ha.s.ring.setValue hi x,ha.s.nums.far (λe=>ha.s.d3.1 e.symm) _,ha.s.places.far (λe=>ha.s.d3.2.1 e.symm) _,ha.s.most,ha.s.d1,ha.s.d2,ha.s.d3⟩ ⟨ha.b.1,ha.b.2,ha.b.3,ha.b.4,ha.b.5,ha.b.6⟩
theorem fX {s:(B.solo I good).St}{H:Nat->Prop}{w:World}(h:RepO (B.solo I good) s H w) {i:Nat}{v:Value}{S':SoloSt}(hc:(aT I s.1).setIfInBounds i v=aT I S') (e1:S'.num=s.1.num) (e2:S'.place=s.1.place) (e3:S'.st=s.1.st) (e4:S'.va=s.1.va) (hb:SBd I.k S'):RepO (B.solo I good) (S',s.2) H (w.setCell ⟨I.so,i,none⟩ v)/\Held H w H (w.setCell ⟨I.so,i,none⟩ v):=by
 have ha:SAt I s.1 w:=h.at_;exact iR h (.inl rfl) (ha.s.own hc e1 e2 e3 e4) hb
theorem nG {s:(B.solo I good).St}{H:Nat->Prop}{w:World}(h:RepO (B.solo I good) s H w) {j:Nat}(hj:j<I.k) (x:Int):RepO (B.solo I good) ({ s.1 with num:=uI s.1.num j x },s.2) H (w.setCell ⟨I.nb,j,none⟩ (.int .i64 x))/\Held H w H (w.setCell ⟨I.nb,j,none⟩ (.int .i64 x)):=by
 have ha:SAt I s.1 w:=h.at_;exact iR h (.inr (.inr (.inr (.inl rfl)))) (ha.s.setNum j hj x) ⟨ha.b.1,ha.b.2,ha.b.3,ha.b.4,ha.b.5,ha.b.6⟩
theorem jU {s:(B.solo I good).St}{H:Nat->Prop}{w:World}(h:RepO (B.solo I good) s H w) {j:Nat}(hj:j<I.k) (x:Int) (h0:-9223372036854775808<=x) (h1:x<=9223372036854775806):RepO (B.solo I good) ({ s.1 with place:=uI s.1.place j x },s.2) H (w.setCell ⟨I.pb,j,none⟩ (.int .i64 x))/\Held H w H (w.setCell ⟨I.pb,j,none⟩ (.int .i64 x)):=by
 have ha:SAt I s.1 w:=h.at_;refine iR h (.inr (.inr (.inr (.inr rfl)))) (ha.s.setPlace j hj x) ⟨ha.b.1,ha.b.2,ha.b.3,ha.b.4,λi hi=>?_,λi hi=>?_⟩
 ·simp only [uI];split
  ·exact h0
  ·exact ha.b.5 i hi
 ·simp only [uI];split
  ·exact h1
  ·exact ha.b.6 i hi
end
theorem solo_step {D:OpsD}{L:Lg Try.prog (Tree D.St D.St)}{Cap:(Nat->Prop)->World->Prop}{sb:Nat}(hre:∀ H w τ n,Cap H w->Cap H (w.re τ n)) (hcap:∀ H w H' w',Cap H w->Held H w H' w'->Cap H' w') (hS:qT D L Cap sb) (s:D.St) (H:Nat->Prop) (k:D.St->Tree D.St D.St) (w:World) (hr:RepO D s H w) (hc:Cap H w) :
  Ccalls L 38 #[.iface 141 (.pointer (some ⟨sb,0,none⟩))] (.yield s k) w λu t' w'=>u=.tuple #[]/\∃ s' H',t'=k s'/\(RepO D s' H' w'/\Cap H' w')/\Held H w H' w':=by
 intro c mid hR;rw[show Frame.enter Try.prog 38 #[.iface 141 (.pointer (some ⟨sb,0,none⟩))] .normal=Frame.at { (default:Frame) with fn:=38,kind:=.normal } ⟨#[.iface 141 (.pointer (some ⟨sb,0,none⟩))]++Array.replicate (Try.f38.ntmps-1) undef,[]⟩ [.code (Try.f38.body.getD .skip)] from by simp[Frame.enter,Frame.at,Try.func38];rfl];simp only[Try.f38,Option.getD_some,Nat.reduceSub,Array.replicate_succ,Array.replicate_zero,List.push_toArray,List.append_toArray,List.nil_append,List.cons_append];refine Lg.move _ (λ_ _=>step_seq) (λh=>h) ?_;have HR:=qd hR;have Hr:=qd hr;clear hR hr;refine Lg.code λK hK y τ n hy=>?_;go_wp2;refine hK _ _ (λ_=>rfl) ?_;clear hK K;subst hy;refine Lg.move _ (λ_ _=>step_cond rfl) (λh=>h) ?_;refine Lg.move _ (λ_ _=>step_region) (λh=>h) ?_;refine Lg.pre 0 1 1 (by simp) λK hK z τ3 n3 hz=>?_;subst hz;have hr:RepO D s H z:=Hr.out.re.re;have hc:Cap H z:=hcap _ _ _ _ hc (re_held.2 (re_held.2 (Held.refl _ _)));have hm:=λwx=>kT 269 ⟨sb,0,none⟩ wx;go_wp2;refine hK _ _ (λ_=>rfl) ?_;clear hK K;refine Lg.call (i:=1) (rest:=[]) (f:=93) (args:=#[.pointer (some ⟨sb,0,none⟩)]) rfl rfl (λy=>?_) (hS s H k z hr hc) ?_
 ·go_simp
 rintro vv t' w' ⟨rfl,s',H',rfl,⟨hr',hc'⟩,hh⟩;rw[Frame.finish_at];walk_nrm;refine Lg.move _ (λ_ _=>step_region_end) (λh=>h) ?_;refine Lg.move _ (λ_ _=>step_end) (λh=>h) ?_;exact Lg.leave rfl Try.func38 rfl (λ_ _ _ _=>by simp[results,Try.f38]) (HR.out _ _ _ ⟨rfl,s',H',rfl,⟨hr',hc'⟩,re_held.2 (re_held.2 hh)⟩)
theorem solo_sstep {D:OpsD}{L:Lg Try.prog (Tree D.St D.St)}{Cap:(Nat->Prop)->World->Prop}{sb:Nat}(hre:∀ H w τ n,Cap H w->Cap H (w.re τ n)) (hcap:iL Cap) (hS:qT D L Cap sb):dC D L Cap 38 (.iface 141 (.pointer (some ⟨sb,0,none⟩))):=
 λH0 w0 s H k w h=>(solo_step hre hcap hS s H k w h.rep (hcap _ _ _ _ h.cap0 h.held)).mono λv t' w' ⟨e,s',H',e2,h2,h3⟩=>⟨e,s',H',e2,h2.1,h.cap0,h.held.trans h3⟩
def bL (S:SoloSt) (q:Int):Bool:=decide (0<=q) && decide (q<S.next) && decide (S.published<q)
theorem aE (w:World) (I:Ids) (S:SoloSt) (H:SoloAt w I S) (q:Int):Calls Try.prog 57 #[.pointer (some ⟨I.so,0,none⟩),.int .i64 q] w λe w'=>e=.returned (.bool (bL S q))/\w=w':=by
 have hc3:=H.solo.cell 3;have hc5:=H.solo.cell 5;have hn:=H.ring.pos;simp only[aT] at hc3 hc5;have HH:=qd H;clear H
 by_cases h0:0<=q
 ·have d0:decide (0<=q)=true:=decide_eq_true h0
  by_cases h1:q<S.next
  ·have d1:decide (q<S.next)=true:=decide_eq_true h1
   rw[show bL S q=decide (S.published<q) from by simp only[bL,d0,d1,Bool.true_and]];clear h0 h1
   go_enter Try.func57,Try.ntmps57
   go_wp2_with (go_at_call 55;refine(aH _ _ _ HH.out).mono ?_;rintro e w' ⟨rfl,rfl⟩)
   go_ret;exact⟨rfl,rfl⟩
  ·have d1:decide (q<S.next)=false:=decide_eq_false h1
   rw[show bL S q=false from by simp only[bL,d1,Bool.and_false,Bool.false_and]];clear h0 h1
   go_enter Try.func57,Try.ntmps57
   go_wp2_with (go_at_call 55;refine(aH _ _ _ HH.out).mono ?_;rintro e w' ⟨rfl,rfl⟩)
   go_ret;exact⟨rfl,rfl⟩
 ·have d0:decide (0<=q)=false:=decide_eq_false h0
  rw[show bL S q=false from by simp only[bL,d0,Bool.false_and]];clear h0
  go_enter Try.func57,Try.ntmps57
  go_wp2_with (go_at_call 55;refine(aH _ _ _ HH.out).mono ?_;rintro e w' ⟨rfl,rfl⟩)
  go_ret;exact⟨rfl,rfl⟩
def fG:Nat->Nat->Int->SSt->(Int->SSt->Tree SSt SSt)->Tree SSt SSt
 | 0,_,n,s,k=>k n s
 | m+1,j,n,s,k=>.yield s λs'=>fG m (j+1) (if s'.1.num j<n then s'.1.num j else n) s' k
abbrev frL (f:Nat->Value):Array Value:=#[f 0,f 1,f 2,f 3,f 4,f 5,f 6,f 7,f 8,f 9,f 10,f 11,f 12,f 13,f 14,f 15,f 16,f 17,f 18,f 19,f 20,f 21,f 22,f 23,f 24,f 25,f 26,f 27]
theorem solo_leastT {B:OpsB}{I:Ids}{good:OpI->Prop}{L:Lg Try.prog (Tree SSt SSt)}{Cap:(Nat->Prop)->World->Prop}{V:Value}(hk:iL Cap) (hS:dC (B.solo I good) L Cap 63 V) (hS2:dC (B.solo I good) L Cap 38 V) (H0:Nat->Prop) (w0:World) (s:SSt) (H:Nat->Prop) (w:World) (hn:Now (B.solo I good) Cap H0 w0 s H w) (k:Int->SSt->Tree SSt SSt):Ccalls L 56 #[.pointer (some ⟨I.so,0,none⟩),V] (fG I.k 0 4611686018427387904 s k) w λu t' w'=>∃ m s' H',u=.int .i64 m/\t'=k m s'/\Now (B.solo I good) Cap H0 w0 s' H' w':=by
 have hk64:I.k<=64:=(show SAt I s.1 w from hn.rep.at_).s.most;intro c mid hR;have HR:=qd hR;have HN:=qd hn;clear hR hn;rw[show Frame.enter Try.prog 56 #[.pointer (some ⟨I.so,0,none⟩),V] .normal=Frame.at { (default:Frame) with fn:=56,kind:=.normal } ⟨#[.pointer (some ⟨I.so,0,none⟩),V]++Array.replicate (Try.f56.ntmps-2) undef,[]⟩ [.code (Try.f56.body.getD .skip)] from by simp[Frame.enter,Frame.at,Try.func56];rfl];simp only[Try.f56,Option.getD_some,Nat.reduceSub,Array.replicate_succ,Array.replicate_zero,List.push_toArray,List.append_toArray,List.nil_append,List.cons_append]
 repeat (first
  | (with_reducible first | refine Lg.aW _ ?_ | refine Lg.aO _ ?_ | refine Lg.aL _ ?_ | refine Lg.aG _ ?_ | refine Lg.aN _ ?_)
  | ((with_reducible refine Lg.aI _ ?_ ?_);exact rfl)
  | ((with_reducible refine Lg.aJ _ ?_ ?_);exact rfl)
  | ((with_reducible apply Lg.aP);exact rfl)
  | (with_reducible refine Lg.aM _ ?_
     intro K hK y τ n' hy;subst hy;replace HN:=qd (HN.out.re hk);obtain⟨c0,c1,c2,c3,c4,c5,c6,HS⟩:=SAt.c7 (show SAt I _ y from HN.out.rep.at_)
     go_wp2_with ((first |(go_at_call 55;refine(aH _ _ _ HS.out).mono ?_) |(go_at_call 37;refine(aC _ _ _ HS.out).mono ?_) |(go_at_call 39;refine(aD _ _ _ c1).mono ?_) |(go_at_call 57;refine(aE _ _ _ HS.out _).mono ?_));rintro e w' ⟨rfl,hw'⟩;subst hw')
     refine hK _ _ (λ_=>rfl) ?_;clear hK K c0 c1 c2 c3 c4 c5 c6 HS))
 refine Lg.bP frL (R:=λf=>f 0=.pointer (some ⟨I.so,0,none⟩)/\f 1=V/\f 5=.int .i64 4611686018427387904/\f 11=.int .i64 I.k/\f 12=.int .i64 0) ?_ (by rfl) ⟨rfl,rfl,rfl,rfl,rfl⟩;rintro f1 ⟨n0,n1,n5,n11,n12⟩;refine Lg.eZ frL (λf t w=>∃ j:Nat,j<=I.k/\∃ n s' H',f 0=.pointer (some ⟨I.so,0,none⟩)/\f 1=V/\f 5=.int .i64 n/\f 11=.int .i64 I.k/\f 12=.int .i64 j/\t=fG (I.k-j) j n s' k/\Now (B.solo I good) Cap H0 w0 s' H' w) (λf _ _=>I.k-(intOf (f 12)).toNat) ⟨0,Nat.zero_le _,_,s,H,n0,n1,n5,n11,n12,rfl,HN.out⟩ ?_;clear HN n0 n1 n5 n11 n12 f1 s H;rintro f2 t w2 ⟨j,hj,n,s,H,k0,k1,k5,k11,k12,rfl,hn⟩ hnext;have HX:=qd hnext;have HN:=qd hn;clear hnext hn;simp only[frL,k0,k1,k5,k11,k12]
 by_cases hlt:j<I.k
 ·have hd:decide (j<I.k)=true:=decide_eq_true hlt
  repeat (first
   | (with_reducible first | refine Lg.aW _ ?_ | refine Lg.aO _ ?_ | refine Lg.aL _ ?_ | refine Lg.aG _ ?_ | refine Lg.aN _ ?_)
   | ((with_reducible refine Lg.aI _ ?_ ?_);exact rfl)
   | ((with_reducible refine Lg.aJ _ ?_ ?_);exact rfl)
   | ((with_reducible apply Lg.aP);exact rfl)
   | (with_reducible refine Lg.aM _ ?_
      intro K hK y τ n' hy;subst hy;replace HN:=qd (HN.out.re hk);obtain⟨c0,c1,c2,c3,c4,c5,c6,HS⟩:=SAt.c7 (show SAt I _ y from HN.out.rep.at_)
      go_wp2_with ((first |(go_at_call 55;refine(aH _ _ _ HS.out).mono ?_) |(go_at_call 37;refine(aC _ _ _ HS.out).mono ?_) |(go_at_call 39;refine(aD _ _ _ c1).mono ?_) |(go_at_call 57;refine(aE _ _ _ HS.out _).mono ?_));rintro e w' ⟨rfl,hw'⟩;subst hw')
      refine hK _ _ (λ_=>rfl) ?_;clear hK K c0 c1 c2 c3 c4 c5 c6 HS))
  rw[show fG (I.k-j) j n s k=.yield s λs'=>fG (I.k-(j+1)) (j+1) (if s'.1.num j<n then s'.1.num j else n) s' k from by rw[show I.k-j=(I.k-(j+1))+1 from by omega];rfl]
  with_reducible refine Lg.bJ _ ?_
  refine Lg.pre 0 1 1 (by simp) λK hK z τ n' hz=>?_;subst hz;go_wp2;refine hK _ _ (λ_=>rfl) ?_;clear hK K;refine Lg.call (i:=1) (rest:=[]) (f:=38) (args:=#[V]) rfl rfl (λy=>by go_simp) (hS2 _ _ _ _ _ _ (HN.out.re hk)) ?_;rintro vv t' w' ⟨rfl,s,H,rfl,hn⟩;clear HN;rw[Frame.finish_at];walk_nrm
  with_reducible refine Lg.aN _ ?_
  have HN:=qd hn;clear hn;obtain⟨X,hX⟩:∃ X,(if s.1.num j<n then s.1.num j else n)=X:=⟨_,rfl⟩;rw[hX];refine Lg.aM _ λK hK y τ n' hy=>?_;subst hy;replace HN:=qd (HN.out.re hk);obtain⟨c0,c1,c2,c3,c4,c5,c6,HS⟩:=SAt.c7 (show SAt I _ y from HN.out.rep.at_);have cj:=HS.out.nums.cell j hlt
  go_wp2_with (go_at_call 39;refine(aD _ _ _ cj).mono ?_;rintro e w' ⟨rfl,hw'⟩;subst hw')
  refine hK _ _ (λ_=>rfl) ?_;clear cj;clear hK K c0 c1 c2 c3 c4 c5 c6 HS
  repeat (first
   | (with_reducible first | refine Lg.aW _ ?_ | refine Lg.aO _ ?_ | refine Lg.aL _ ?_ | refine Lg.aG _ ?_ | refine Lg.aN _ ?_)
   | ((with_reducible refine Lg.aI _ ?_ ?_);exact rfl)
   | ((with_reducible refine Lg.aJ _ ?_ ?_);exact rfl)
   | ((with_reducible apply Lg.aP);exact rfl)
   | (with_reducible refine Lg.aM _ ?_
      intro K hK y τ n' hy;subst hy;replace HN:=qd (HN.out.re hk);obtain⟨c0,c1,c2,c3,c4,c5,c6,HS⟩:=SAt.c7 (show SAt I _ y from HN.out.rep.at_)
      go_wp2_with ((first |(go_at_call 55;refine(aH _ _ _ HS.out).mono ?_) |(go_at_call 37;refine(aC _ _ _ HS.out).mono ?_) |(go_at_call 39;refine(aD _ _ _ c1).mono ?_) |(go_at_call 57;refine(aE _ _ _ HS.out _).mono ?_));rintro e w' ⟨rfl,hw'⟩;subst hw')
      refine hK _ _ (λ_=>rfl) ?_;clear hK K c0 c1 c2 c3 c4 c5 c6 HS))
  refine Lg.bP frL (R:=λf=>f 0=.pointer (some ⟨I.so,0,none⟩)/\f 1=V/\f 5=.int .i64 X/\f 11=.int .i64 I.k/\f 12=.int .i64 ((j+1:Nat):Int)) ?_ (by rfl) ⟨rfl,rfl,rfl,rfl,by simp⟩;rintro f' ⟨p0,p1,p5,p11,p12⟩;exact HX.out f' _ _ ⟨j+1,by omega,_,s,H,p0,p1,p5,p11,p12,rfl,HN.out⟩ (by rw[p12,k12];simp only[intOf];omega)
 ·have hd:decide (j<I.k)=false:=decide_eq_false hlt
  repeat (first
   | (with_reducible first | refine Lg.aW _ ?_ | refine Lg.aO _ ?_ | refine Lg.aL _ ?_ | refine Lg.aG _ ?_ | refine Lg.aN _ ?_)
   | ((with_reducible refine Lg.aI _ ?_ ?_);exact rfl)
   | ((with_reducible refine Lg.aJ _ ?_ ?_);exact rfl)
   | ((with_reducible apply Lg.aP);exact rfl)
   | (with_reducible refine Lg.aM _ ?_
      intro K hK y τ n' hy;subst hy;replace HN:=qd (HN.out.re hk);obtain⟨c0,c1,c2,c3,c4,c5,c6,HS⟩:=SAt.c7 (show SAt I _ y from HN.out.rep.at_)
      go_wp2_with ((first |(go_at_call 55;refine(aH _ _ _ HS.out).mono ?_) |(go_at_call 37;refine(aC _ _ _ HS.out).mono ?_) |(go_at_call 39;refine(aD _ _ _ c1).mono ?_) |(go_at_call 57;refine(aE _ _ _ HS.out _).mono ?_));rintro e w' ⟨rfl,hw'⟩;subst hw')
      refine hK _ _ (λ_=>rfl) ?_;clear hK K c0 c1 c2 c3 c4 c5 c6 HS))
  obtain rfl:j=I.k:=by omega
  rw[show fG (I.k-I.k) I.k n s k=k n s from by rw[Nat.sub_self];rfl]
  with_reducible refine Lg.bO _ ?_
  exact Lg.leave rfl Try.func56 rfl (v:=.int .i64 n) (λ_ _ _ _=>by simp[results,Try.f56]) (HR.out _ _ _ ⟨_,_,H,rfl,rfl,HN.out⟩)
def jA (n w:Int) (s:SSt) (k:Int->Int->SSt->Tree SSt SSt):Tree SSt SSt:=
 if s.1.cached<w then k 0 3 s else k s.1.next 0 ({ s.1 with next:=wrap64 (s.1.next+n) },s.2)
def oO (I:Ids) (n:Int) (s:SSt):Int:=wrap64 (wrap64 (wrap64 (s.1.next+n)-1)-I.n)
def iJ (I:Ids) (n:Int) (s:SSt) (k:Int->Int->SSt->Tree SSt SSt):Tree SSt SSt:=
 if n<1 then k 0 1 s else if (I.n:Int)<n then k 0 1 s else if 4611686018427387904<wrap64 (s.1.next+n) then k 0 8 s else
  if s.1.cached<oO I n s then fG I.k 0 4611686018427387904 s λm s'=>jA n (oO I n s) ({ s'.1 with cached:=m },s'.2) k
  else jA n (oO I n s) s k
theorem bd_next {k:Nat}{S:SoloSt}(h:SBd k S) (x:Int):SBd k { S with next:=wrap64 x }:=
 ⟨by show _<=wrap64 x;simp only[wrap64];omega,by show wrap64 x<=_;simp only[wrap64];omega,h.c0,h.c1,h.p0,h.p1⟩
theorem lU {B:OpsB}{I:Ids}{good:OpI->Prop}{L:Lg Try.prog (Tree SSt SSt)}{Cap:(Nat->Prop)->World->Prop}{V:Value}(hk:iL Cap) (hS:dC (B.solo I good) L Cap 63 V) (hS2:dC (B.solo I good) L Cap 38 V) (H0:Nat->Prop) (w0:World) (s:SSt) (H:Nat->Prop) (w:World) (hn:Now (B.solo I good) Cap H0 w0 s H w) (n:Int) (k:Int->Int->SSt->Tree SSt SSt):Ccalls L 34 #[.pointer (some ⟨I.so,0,none⟩),V,.int .i64 n] (iJ I n s k) w λu t' w'=>∃ q e s' H',u=.tuple #[.int .i64 q,.int .i64 e]/\t'=k q e s'/\Now (B.solo I good) Cap H0 w0 s' H' w':=by
 have hb:=(show SAt I s.1 w from hn.rep.at_).b;have hn16:=(show SAt I s.1 w from hn.rep.at_).s.ring.most;obtain⟨b0,b1⟩:-9223372036854775808<=s.1.next/\s.1.next<=9223372036854775807:=⟨hb.n0,hb.n1⟩;clear hb;intro c mid hR;have HR:=qd hR;have HN:=qd hn;clear hR hn;rw[show Frame.enter Try.prog 34 #[.pointer (some ⟨I.so,0,none⟩),V,.int .i64 n] .normal=Frame.at { (default:Frame) with fn:=34,kind:=.normal } ⟨#[.pointer (some ⟨I.so,0,none⟩),V,.int .i64 n]++Array.replicate (Try.f34.ntmps-3) undef,[]⟩ [.code (Try.f34.body.getD .skip)] from by simp[Frame.enter,Frame.at,Try.func34];rfl];simp only[Try.f34,Option.getD_some,Nat.reduceSub,Array.replicate_succ,Array.replicate_zero,List.push_toArray,List.append_toArray,List.nil_append,List.cons_append];unfold iJ
 by_cases h1:n<1
 ·have d1:decide (n<1)=true:=decide_eq_true h1
  rw[if_pos h1];clear h1
  repeat (first
   | (with_reducible first | refine Lg.aW _ ?_ | refine Lg.aO _ ?_ | refine Lg.aL _ ?_ | refine Lg.aG _ ?_ | refine Lg.aN _ ?_)
   | ((with_reducible refine Lg.aI _ ?_ ?_);exact rfl)
   | ((with_reducible refine Lg.aJ _ ?_ ?_);exact rfl)
   | ((with_reducible apply Lg.aP);exact rfl)
   | (with_reducible refine Lg.aM _ ?_
      intro K hK y τ n' hy;subst hy;replace HN:=qd (HN.out.re hk);obtain⟨c0,c1,c2,c3,c4,c5,c6,HS⟩:=SAt.c7 (show SAt I _ y from HN.out.rep.at_)
      go_wp2_with ((first |(go_at_call 55;refine(aH _ _ _ HS.out).mono ?_) |(go_at_call 37;refine(aC _ _ _ HS.out).mono ?_) |(go_at_call 39;refine(aD _ _ _ c1).mono ?_) |(go_at_call 57;refine(aE _ _ _ HS.out _).mono ?_));rintro e w' ⟨rfl,hw'⟩;subst hw')
      refine hK _ _ (λ_=>rfl) ?_;clear hK K c0 c1 c2 c3 c4 c5 c6 HS))
  with_reducible refine Lg.bO _ ?_
  exact Lg.leave rfl Try.func34 rfl (v:=.tuple #[.int .i64 0,.int .i64 1]) (λ_ _ _ _=>by simp[results,Try.f34]) (HR.out _ _ _ ⟨_,_,_,H,rfl,rfl,HN.out⟩)
 have d1:decide (n<1)=false:=decide_eq_false h1;rw[if_neg h1]
 by_cases h2:(I.n:Int)<n
 ·have d2:decide ((I.n:Int)<n)=true:=decide_eq_true h2
  rw[if_pos h2];clear h1 h2
  repeat (first
   | (with_reducible first | refine Lg.aW _ ?_ | refine Lg.aO _ ?_ | refine Lg.aL _ ?_ | refine Lg.aG _ ?_ | refine Lg.aN _ ?_)
   | ((with_reducible refine Lg.aI _ ?_ ?_);exact rfl)
   | ((with_reducible refine Lg.aJ _ ?_ ?_);exact rfl)
   | ((with_reducible apply Lg.aP);exact rfl)
   | (with_reducible refine Lg.aM _ ?_
      intro K hK y τ n' hy;subst hy;replace HN:=qd (HN.out.re hk);obtain⟨c0,c1,c2,c3,c4,c5,c6,HS⟩:=SAt.c7 (show SAt I _ y from HN.out.rep.at_)
      go_wp2_with ((first |(go_at_call 55;refine(aH _ _ _ HS.out).mono ?_) |(go_at_call 37;refine(aC _ _ _ HS.out).mono ?_) |(go_at_call 39;refine(aD _ _ _ c1).mono ?_) |(go_at_call 57;refine(aE _ _ _ HS.out _).mono ?_));rintro e w' ⟨rfl,hw'⟩;subst hw')
      refine hK _ _ (λ_=>rfl) ?_;clear hK K c0 c1 c2 c3 c4 c5 c6 HS))
  with_reducible refine Lg.bO _ ?_
  exact Lg.leave rfl Try.func34 rfl (v:=.tuple #[.int .i64 0,.int .i64 1]) (λ_ _ _ _=>by simp[results,Try.f34]) (HR.out _ _ _ ⟨_,_,_,H,rfl,rfl,HN.out⟩)
 have d2:decide ((I.n:Int)<n)=false:=decide_eq_false h2;rw[if_neg h2]
 by_cases h3:4611686018427387904<wrap64 (s.1.next+n)
 ·have d3:decide (4611686018427387904<wrap64 (s.1.next+n))=true:=decide_eq_true h3
  rw[if_pos h3];clear h3
  repeat (first
   | (with_reducible first | refine Lg.aW _ ?_ | refine Lg.aO _ ?_ | refine Lg.aL _ ?_ | refine Lg.aG _ ?_ | refine Lg.aN _ ?_)
   | ((with_reducible refine Lg.aI _ ?_ ?_);exact rfl)
   | ((with_reducible refine Lg.aJ _ ?_ ?_);exact rfl)
   | ((with_reducible apply Lg.aP);exact rfl)
   | (with_reducible refine Lg.aM _ ?_
      intro K hK y τ n' hy;subst hy;replace HN:=qd (HN.out.re hk);obtain⟨c0,c1,c2,c3,c4,c5,c6,HS⟩:=SAt.c7 (show SAt I _ y from HN.out.rep.at_)
      go_wp2_with ((first |(go_at_call 55;refine(aH _ _ _ HS.out).mono ?_) |(go_at_call 37;refine(aC _ _ _ HS.out).mono ?_) |(go_at_call 39;refine(aD _ _ _ c1).mono ?_) |(go_at_call 57;refine(aE _ _ _ HS.out _).mono ?_));rintro e w' ⟨rfl,hw'⟩;subst hw')
      refine hK _ _ (λ_=>rfl) ?_;clear hK K c0 c1 c2 c3 c4 c5 c6 HS))
  with_reducible refine Lg.bO _ ?_
  exact Lg.leave rfl Try.func34 rfl (v:=.tuple #[.int .i64 0,.int .i64 8]) (λ_ _ _ _=>by simp[results,Try.f34]) (HR.out _ _ _ ⟨_,_,_,H,rfl,rfl,HN.out⟩)
 have d3:decide (4611686018427387904<wrap64 (s.1.next+n))=false:=decide_eq_false h3;rw[if_neg h3];clear h3;obtain⟨W,hW⟩:∃ W,oO I n s=W:=⟨_,rfl⟩;have hW':wrap64 (wrap64 (wrap64 (s.1.next+n)-1)-I.n)=W:=hW;rw[hW]
 by_cases h4:s.1.cached<W
 ·rw [if_pos h4]
  have d4:decide (s.1.cached<W)=true:=decide_eq_true h4;clear h4 hW
  repeat (first
   | (with_reducible first | refine Lg.aW _ ?_ | refine Lg.aO _ ?_ | refine Lg.aL _ ?_ | refine Lg.aG _ ?_ | refine Lg.aN _ ?_)
   | ((with_reducible refine Lg.aI _ ?_ ?_);exact rfl)
   | ((with_reducible refine Lg.aJ _ ?_ ?_);exact rfl)
   | ((with_reducible apply Lg.aP);exact rfl)
   | (with_reducible refine Lg.aM _ ?_
      intro K hK y τ n' hy;subst hy;replace HN:=qd (HN.out.re hk);obtain⟨c0,c1,c2,c3,c4,c5,c6,HS⟩:=SAt.c7 (show SAt I _ y from HN.out.rep.at_)
      go_wp2_with ((first |(go_at_call 55;refine(aH _ _ _ HS.out).mono ?_) |(go_at_call 37;refine(aC _ _ _ HS.out).mono ?_) |(go_at_call 39;refine(aD _ _ _ c1).mono ?_) |(go_at_call 57;refine(aE _ _ _ HS.out _).mono ?_));rintro e w' ⟨rfl,hw'⟩;subst hw')
      refine hK _ _ (λ_=>rfl) ?_;clear hK K c0 c1 c2 c3 c4 c5 c6 HS))
  clear d4 d3 d1 d2 b0 b1
  with_reducible refine Lg.bJ _ ?_
  refine Lg.pre 0 3 4 (by simp) λK hK y τ n' hz=>?_;subst hz;replace HN:=qd (HN.out.re hk);obtain⟨c0,c1,c2,c3,c4,c5,c6,HS⟩:=SAt.c7 (show SAt I _ y from HN.out.rep.at_);simp only[zC];go_wp2;refine hK _ _ (λ_=>rfl) ?_;clear hK K c0 c1 c2 c3 c4 c5 c6 HS;refine Lg.call (i:=3) (rest:=[4,5,6]) (f:=56) (args:=#[.pointer (some ⟨I.so,0,none⟩),V]) rfl rfl (λy=>by go_simp) (solo_leastT hk hS hS2 H0 w0 s H _ HN.out _) ?_;rintro vv t' w' ⟨m,s,H,rfl,rfl,hn⟩;clear HN;have HN:=qd hn;clear hn;rw[Frame.finish_at];walk_nrm;refine(show L.T _ (Frame.at _ ⟨_,[]⟩ (.inRegion _ (List.range' 4 (3+0))::_)) (c::mid) w' from ?_);refine Lg.pre 4 3 0 (by simp) λK hK y τ n' hz=>?_;subst hz;replace HN:=qd (HN.out.re hk);obtain⟨c0,c1,c2,c3,c4,c5,c6,HS⟩:=SAt.c7 (show SAt I _ y from HN.out.rep.at_);have z0:=HS.out.solo.frozen 4;simp only[zC];go_wp2;refine hK _ _ (λ_=>rfl) ?_;clear hK K c0 c1 c2 c3 c4 c5 c6 HS;refine Lg.aN _ ?_;clear z0;replace HN:=qd (HN.out.to hk (fX (i:=4) (v:=.int .i64 m) (S':={ s.1 with cached:=m }) HN.out.rep (by simp[aT]) rfl rfl rfl rfl ⟨(show SAt I _ _ from HN.out.rep.at_).b.1,(show SAt I _ _ from HN.out.rep.at_).b.2,(show SAt I _ _ from HN.out.rep.at_).b.3,(show SAt I _ _ from HN.out.rep.at_).b.4,(show SAt I _ _ from HN.out.rep.at_).b.5,(show SAt I _ _ from HN.out.rep.at_).b.6⟩));generalize World.setCell _ _ _=y' at HN ⊢;have HN2:Hid (Now (B.solo I good) Cap H0 w0 (({ s.1 with cached:=m },s.2):SSt) H _):=HN;clear HN;obtain⟨s2,hs⟩:∃ s2:SSt,s2=({ s.1 with cached:=m },s.2):=⟨_,rfl⟩;rw[<-hs] at HN2 ⊢;obtain rfl:m=s2.1.cached:=by rw[hs]
  clear hs;rename SSt=>s;have HN:=HN2;clear HN2
  by_cases h5:s.1.cached<W
  ·have d5:decide (s.1.cached<W)=true:=decide_eq_true h5
   rw[show jA n W s k=k 0 3 s from if_pos h5];clear h5
   repeat (first
    | (with_reducible first | refine Lg.aW _ ?_ | refine Lg.aO _ ?_ | refine Lg.aL _ ?_ | refine Lg.aG _ ?_ | refine Lg.aN _ ?_)
    | ((with_reducible refine Lg.aI _ ?_ ?_);exact rfl)
    | ((with_reducible refine Lg.aJ _ ?_ ?_);exact rfl)
    | ((with_reducible apply Lg.aP);exact rfl)
    | (with_reducible refine Lg.aM _ ?_
       intro K hK y τ n' hy;subst hy;replace HN:=qd (HN.out.re hk);obtain⟨c0,c1,c2,c3,c4,c5,c6,HS⟩:=SAt.c7 (show SAt I _ y from HN.out.rep.at_)
       go_wp2_with ((first |(go_at_call 55;refine(aH _ _ _ HS.out).mono ?_) |(go_at_call 37;refine(aC _ _ _ HS.out).mono ?_) |(go_at_call 39;refine(aD _ _ _ c1).mono ?_) |(go_at_call 57;refine(aE _ _ _ HS.out _).mono ?_));rintro e w' ⟨rfl,hw'⟩;subst hw')
       refine hK _ _ (λ_=>rfl) ?_;clear hK K c0 c1 c2 c3 c4 c5 c6 HS))
   with_reducible refine Lg.bO _ ?_
   exact Lg.leave rfl Try.func34 rfl (v:=.tuple #[.int .i64 0,.int .i64 3]) (λ_ _ _ _=>by simp[results,Try.f34]) (HR.out _ _ _ ⟨_,_,_,H,rfl,rfl,HN.out⟩)
  ·have d5:decide (s.1.cached<W)=false:=decide_eq_false h5
   rw[show jA n W s k=k s.1.next 0 ({ s.1 with next:=wrap64 (s.1.next+n) },s.2) from if_neg h5];clear h5;obtain⟨b0,b1⟩:-9223372036854775808<=s.1.next/\s.1.next<=9223372036854775807:=⟨(show SAt I _ _ from HN.out.rep.at_).b.n0,(show SAt I _ _ from HN.out.rep.at_).b.n1⟩
   repeat (first
    | (with_reducible first | refine Lg.aW _ ?_ | refine Lg.aO _ ?_ | refine Lg.aL _ ?_ | refine Lg.aG _ ?_ | refine Lg.aN _ ?_)
    | ((with_reducible refine Lg.aI _ ?_ ?_);exact rfl)
    | ((with_reducible refine Lg.aJ _ ?_ ?_);exact rfl)
    | ((with_reducible apply Lg.aP);exact rfl)
    | (with_reducible refine Lg.aM _ ?_
       intro K hK y τ n' hy;subst hy;replace HN:=qd (HN.out.re hk);obtain⟨c0,c1,c2,c3,c4,c5,c6,HS⟩:=SAt.c7 (show SAt I _ y from HN.out.rep.at_)
       go_wp2_with ((first |(go_at_call 55;refine(aH _ _ _ HS.out).mono ?_) |(go_at_call 37;refine(aC _ _ _ HS.out).mono ?_) |(go_at_call 39;refine(aD _ _ _ c1).mono ?_) |(go_at_call 57;refine(aE _ _ _ HS.out _).mono ?_));rintro e w' ⟨rfl,hw'⟩;subst hw')
       refine hK _ _ (λ_=>rfl) ?_;clear hK K c0 c1 c2 c3 c4 c5 c6 HS))
   with_reducible refine Lg.aM _ ?_
   intro K hK y τ n' hy;subst hy;replace HN:=qd (HN.out.re hk);obtain⟨c0,c1,c2,c3,c4,c5,c6,HS⟩:=SAt.c7 (show SAt I _ y from HN.out.rep.at_);have z0:=HS.out.solo.frozen 3
   go_wp2_with (go_at_call 33;refine(aZ _ _ _ _ c1 z0).mono ?_;rintro e w' ⟨rfl,hw'⟩;subst hw')
   refine hK _ _ (λ_=>rfl) ?_;clear z0;clear hK K c0 c1 c2 c3 c4 c5 c6 HS;replace HN:=qd (HN.out.to hk (fX (i:=3) (v:=.int .i64 (wrap64 (s.1.next+n))) (S':={ s.1 with next:=wrap64 (s.1.next+n) }) HN.out.rep (by simp[aT]) rfl rfl rfl rfl (bd_next (show SAt I _ _ from HN.out.rep.at_).b _)));generalize World.setCell _ _ _=y' at HN ⊢
   repeat (first
    | (with_reducible first | refine Lg.aW _ ?_ | refine Lg.aO _ ?_ | refine Lg.aL _ ?_ | refine Lg.aG _ ?_ | refine Lg.aN _ ?_)
    | ((with_reducible refine Lg.aI _ ?_ ?_);exact rfl)
    | ((with_reducible refine Lg.aJ _ ?_ ?_);exact rfl)
    | ((with_reducible apply Lg.aP);exact rfl)
    | (with_reducible refine Lg.aM _ ?_
       intro K hK y τ n' hy;subst hy;replace HN:=qd (HN.out.re hk);obtain⟨c0,c1,c2,c3,c4,c5,c6,HS⟩:=SAt.c7 (show SAt I _ y from HN.out.rep.at_)
       go_wp2_with ((first |(go_at_call 55;refine(aH _ _ _ HS.out).mono ?_) |(go_at_call 37;refine(aC _ _ _ HS.out).mono ?_) |(go_at_call 39;refine(aD _ _ _ c1).mono ?_) |(go_at_call 57;refine(aE _ _ _ HS.out _).mono ?_));rintro e w' ⟨rfl,hw'⟩;subst hw')
       refine hK _ _ (λ_=>rfl) ?_;clear hK K c0 c1 c2 c3 c4 c5 c6 HS))
   with_reducible refine Lg.bO _ ?_
   exact Lg.leave rfl Try.func34 rfl (v:=.tuple #[.int .i64 s.1.next,.int .i64 0]) (λ_ _ _ _=>by simp[results,Try.f34]) (HR.out _ _ _ ⟨_,_,_,H,rfl,rfl,HN.out⟩)
 ·rw [if_neg h4,show jA n W s k=k s.1.next 0 ({ s.1 with next:=wrap64 (s.1.next+n) },s.2) from if_neg h4]
  have d4:decide (s.1.cached<W)=false:=decide_eq_false h4;clear h4 hW b0 b1;obtain⟨b0,b1⟩:-9223372036854775808<=s.1.next/\s.1.next<=9223372036854775807:=⟨(show SAt I _ _ from HN.out.rep.at_).b.n0,(show SAt I _ _ from HN.out.rep.at_).b.n1⟩
  repeat (first
   | (with_reducible first | refine Lg.aW _ ?_ | refine Lg.aO _ ?_ | refine Lg.aL _ ?_ | refine Lg.aG _ ?_ | refine Lg.aN _ ?_)
   | ((with_reducible refine Lg.aI _ ?_ ?_);exact rfl)
   | ((with_reducible refine Lg.aJ _ ?_ ?_);exact rfl)
   | ((with_reducible apply Lg.aP);exact rfl)
   | (with_reducible refine Lg.aM _ ?_
      intro K hK y τ n' hy;subst hy;replace HN:=qd (HN.out.re hk);obtain⟨c0,c1,c2,c3,c4,c5,c6,HS⟩:=SAt.c7 (show SAt I _ y from HN.out.rep.at_)
      go_wp2_with ((first |(go_at_call 55;refine(aH _ _ _ HS.out).mono ?_) |(go_at_call 37;refine(aC _ _ _ HS.out).mono ?_) |(go_at_call 39;refine(aD _ _ _ c1).mono ?_) |(go_at_call 57;refine(aE _ _ _ HS.out _).mono ?_));rintro e w' ⟨rfl,hw'⟩;subst hw')
      refine hK _ _ (λ_=>rfl) ?_;clear hK K c0 c1 c2 c3 c4 c5 c6 HS))
  with_reducible refine Lg.aM _ ?_
  intro K hK y τ n' hy;subst hy;replace HN:=qd (HN.out.re hk);obtain⟨c0,c1,c2,c3,c4,c5,c6,HS⟩:=SAt.c7 (show SAt I _ y from HN.out.rep.at_);have z0:=HS.out.solo.frozen 3
  go_wp2_with (go_at_call 33;refine(aZ _ _ _ _ c1 z0).mono ?_;rintro e w' ⟨rfl,hw'⟩;subst hw')
  refine hK _ _ (λ_=>rfl) ?_;clear z0;clear hK K c0 c1 c2 c3 c4 c5 c6 HS;replace HN:=qd (HN.out.to hk (fX (i:=3) (v:=.int .i64 (wrap64 (s.1.next+n))) (S':={ s.1 with next:=wrap64 (s.1.next+n) }) HN.out.rep (by simp[aT]) rfl rfl rfl rfl (bd_next (show SAt I _ _ from HN.out.rep.at_).b _)));generalize World.setCell _ _ _=y' at HN ⊢
  repeat (first
   | (with_reducible first | refine Lg.aW _ ?_ | refine Lg.aO _ ?_ | refine Lg.aL _ ?_ | refine Lg.aG _ ?_ | refine Lg.aN _ ?_)
   | ((with_reducible refine Lg.aI _ ?_ ?_);exact rfl)
   | ((with_reducible refine Lg.aJ _ ?_ ?_);exact rfl)
   | ((with_reducible apply Lg.aP);exact rfl)
   | (with_reducible refine Lg.aM _ ?_
      intro K hK y τ n' hy;subst hy;replace HN:=qd (HN.out.re hk);obtain⟨c0,c1,c2,c3,c4,c5,c6,HS⟩:=SAt.c7 (show SAt I _ y from HN.out.rep.at_)
      go_wp2_with ((first |(go_at_call 55;refine(aH _ _ _ HS.out).mono ?_) |(go_at_call 37;refine(aC _ _ _ HS.out).mono ?_) |(go_at_call 39;refine(aD _ _ _ c1).mono ?_) |(go_at_call 57;refine(aE _ _ _ HS.out _).mono ?_));rintro e w' ⟨rfl,hw'⟩;subst hw')
      refine hK _ _ (λ_=>rfl) ?_;clear hK K c0 c1 c2 c3 c4 c5 c6 HS))
  with_reducible refine Lg.bO _ ?_
  exact Lg.leave rfl Try.func34 rfl (v:=.tuple #[.int .i64 s.1.next,.int .i64 0]) (λ_ _ _ _=>by simp[results,Try.f34]) (HR.out _ _ _ ⟨_,_,_,H,rfl,rfl,HN.out⟩)
def InB (q:Int):Prop:=0<=q/\q<4611686018427387904
instance (q:Int):Decidable (InB q):=inferInstanceAs (Decidable (_/\_))
theorem bad_at (a:Addr) (sa:Option Addr) (n c:Nat) (q:Int) (w:World) (h:w.cell? a=some (.slice sa n c)) (hq:¬InB q):oY (some a) q w:=by
 by_cases h0:q<0
 ·exact bad_low a sa n c q w h h0
 ·exact bad_high a sa n c q w h (by unfold InB at hq;omega)
def putG {A R:Type}(l:RLens A) (n:Nat) (q v:Int) (s:A × R) (k:Int->A × R->Tree (A × R) (A × R)):Tree (A × R) (A × R):=if InB q then putT l n q v s (k 0) else k 1 s
def getG {A R:Type}(l:RLens A) (n:Nat) (q:Int) (s:A × R) (k:Int->Int->A × R->Tree (A × R) (A × R)):Tree (A × R) (A × R):=if InB q then getT l n q s k else k 0 1 s
theorem put_any {B:OpsB}{I:Ids}{good:OpI->Prop}{L:Lg Try.prog (Tree SSt SSt)}{Cap:(Nat->Prop)->World->Prop}{V:Value}(hk:iL Cap) (hS:dC (B.solo I good) L Cap 63 V) (hS2:dC (B.solo I good) L Cap 38 V) (H0:Nat->Prop) (w0:World) (s:SSt) (H:Nat->Prop) (w:World) (hn:Now (B.solo I good) Cap H0 w0 s H w) (q v:Int) (k:Int->SSt->Tree SSt SSt):Ccalls L 58 #[.pointer (some ⟨I.rb,0,none⟩),V,.int .i64 q,.int .i64 v] (putG soloL I.n q v s k) w λu t' w'=>∃ e s' H',u=.int .i64 e/\t'=k e s'/\Now (B.solo I good) Cap H0 w0 s' H' w':=by
 by_cases hq:InB q
 ·rw [show putG soloL I.n q v s k=putT soloL I.n q v s (k 0) from if_pos hq]
  exact(slots_put solo_ring hk hS (show SAt I _ _ from hn.rep.at_).s.ring.pos (show SAt I _ _ from hn.rep.at_).s.ring.most q v hq.1 hq.2 H0 w0 s H _ w hn).mono λu t' w' ⟨e,s',H',h1,h2⟩=>⟨0,s',H',e,h1,h2⟩
 ·rw [show putG soloL I.n q v s k=k 1 s from if_neg hq]
  refine jD λy τ n' hy=>?_;subst hy;have hn:=hn.re hk;have hb:=bad_at ⟨I.rb,0,none⟩ _ _ _ q y (solo_ring.at_ _ _ _ hn.rep).r.ring hq;exact(put_bad hb V v).mono λe w' ⟨h1,h2⟩=>⟨_,h1,1,s,H,rfl,rfl,h2▸hn⟩
theorem get_any {B:OpsB}{I:Ids}{good:OpI->Prop}{L:Lg Try.prog (Tree SSt SSt)}{Cap:(Nat->Prop)->World->Prop}{V:Value}(hk:iL Cap) (hS:dC (B.solo I good) L Cap 63 V) (hS2:dC (B.solo I good) L Cap 38 V) (H0:Nat->Prop) (w0:World) (s:SSt) (H:Nat->Prop) (w:World) (hn:Now (B.solo I good) Cap H0 w0 s H w) (q:Int) (k:Int->Int->SSt->Tree SSt SSt):Ccalls L 40 #[.pointer (some ⟨I.rb,0,none⟩),V,.int .i64 q] (getG soloL I.n q s k) w λu t' w'=>∃ x e s' H',u=.tuple #[.int .i64 x,.int .i64 e]/\t'=k x e s'/\Now (B.solo I good) Cap H0 w0 s' H' w':=by
 by_cases hq:InB q
 ·rw [show getG soloL I.n q s k=getT soloL I.n q s k from if_pos hq]
  exact slots_get solo_ring hk hS (show SAt I _ _ from hn.rep.at_).s.ring.pos (show SAt I _ _ from hn.rep.at_).s.ring.most q hq.1 hq.2 H0 w0 s H _ w hn
 ·rw [show getG soloL I.n q s k=k 0 1 s from if_neg hq]
  refine jD λy τ n' hy=>?_;subst hy;have hn:=hn.re hk;have hb:=bad_at ⟨I.rb,0,none⟩ _ _ _ q y (solo_ring.at_ _ _ _ hn.rep).r.ring hq;exact(get_bad hb V).mono λe w' ⟨h1,h2⟩=>⟨_,h1,0,1,s,H,rfl,rfl,h2▸hn⟩
def iQ (I:Ids) (q v:Int) (s:SSt) (k:Int->SSt->Tree SSt SSt):Tree SSt SSt:=if bL s.1 q=true then putG soloL I.n q v s k else k 1 s
theorem pM {B:OpsB}{I:Ids}{good:OpI->Prop}{L:Lg Try.prog (Tree SSt SSt)}{Cap:(Nat->Prop)->World->Prop}{V:Value}(hk:iL Cap) (hS:dC (B.solo I good) L Cap 63 V) (hS2:dC (B.solo I good) L Cap 38 V) (H0:Nat->Prop) (w0:World) (s:SSt) (H:Nat->Prop) (w:World) (hn:Now (B.solo I good) Cap H0 w0 s H w) (q v:Int) (k:Int->SSt->Tree SSt SSt):Ccalls L 35 #[.pointer (some ⟨I.so,0,none⟩),V,.int .i64 q,.int .i64 v] (iQ I q v s k) w λu t' w'=>∃ e s' H',u=.int .i64 e/\t'=k e s'/\Now (B.solo I good) Cap H0 w0 s' H' w':=by
 intro c mid hR;have HR:=qd hR;have HN:=qd hn;clear hR hn;rw[show Frame.enter Try.prog 35 #[.pointer (some ⟨I.so,0,none⟩),V,.int .i64 q,.int .i64 v] .normal=Frame.at { (default:Frame) with fn:=35,kind:=.normal } ⟨#[.pointer (some ⟨I.so,0,none⟩),V,.int .i64 q,.int .i64 v]++Array.replicate (Try.f35.ntmps-4) undef,[]⟩ [.code (Try.f35.body.getD .skip)] from by simp[Frame.enter,Frame.at,Try.func35];rfl];simp only[Try.f35,Option.getD_some,Nat.reduceSub,Array.replicate_succ,Array.replicate_zero,List.push_toArray,List.append_toArray,List.nil_append,List.cons_append];unfold iQ;cases hb:bL s.1 q with
 | false =>
   rw[if_neg (by simp)]
   repeat (first
    | (with_reducible first | refine Lg.aW _ ?_ | refine Lg.aO _ ?_ | refine Lg.aL _ ?_ | refine Lg.aG _ ?_ | refine Lg.aN _ ?_)
    | ((with_reducible refine Lg.aI _ ?_ ?_);exact rfl)
    | ((with_reducible refine Lg.aJ _ ?_ ?_);exact rfl)
    | ((with_reducible apply Lg.aP);exact rfl)
    | (with_reducible refine Lg.aM _ ?_
       intro K hK y τ n' hy;subst hy;replace HN:=qd (HN.out.re hk);obtain⟨c0,c1,c2,c3,c4,c5,c6,HS⟩:=SAt.c7 (show SAt I _ y from HN.out.rep.at_)
       go_wp2_with ((first |(go_at_call 55;refine(aH _ _ _ HS.out).mono ?_) |(go_at_call 37;refine(aC _ _ _ HS.out).mono ?_) |(go_at_call 39;refine(aD _ _ _ c1).mono ?_) |(go_at_call 57;refine(aE _ _ _ HS.out _).mono ?_));rintro e w' ⟨rfl,hw'⟩;subst hw')
       refine hK _ _ (λ_=>rfl) ?_;clear hK K c0 c1 c2 c3 c4 c5 c6 HS))
   with_reducible refine Lg.bO _ ?_
   exact Lg.leave rfl Try.func35 rfl (v:=.int .i64 1) (λ_ _ _ _=>by simp[results,Try.f35]) (HR.out _ _ _ ⟨_,_,H,rfl,rfl,HN.out⟩)
 | true =>
   rw[if_pos rfl]
   repeat (first
    | (with_reducible first | refine Lg.aW _ ?_ | refine Lg.aO _ ?_ | refine Lg.aL _ ?_ | refine Lg.aG _ ?_ | refine Lg.aN _ ?_)
    | ((with_reducible refine Lg.aI _ ?_ ?_);exact rfl)
    | ((with_reducible refine Lg.aJ _ ?_ ?_);exact rfl)
    | ((with_reducible apply Lg.aP);exact rfl)
    | (with_reducible refine Lg.aM _ ?_
       intro K hK y τ n' hy;subst hy;replace HN:=qd (HN.out.re hk);obtain⟨c0,c1,c2,c3,c4,c5,c6,HS⟩:=SAt.c7 (show SAt I _ y from HN.out.rep.at_)
       go_wp2_with ((first |(go_at_call 55;refine(aH _ _ _ HS.out).mono ?_) |(go_at_call 37;refine(aC _ _ _ HS.out).mono ?_) |(go_at_call 39;refine(aD _ _ _ c1).mono ?_) |(go_at_call 57;refine(aE _ _ _ HS.out _).mono ?_));rintro e w' ⟨rfl,hw'⟩;subst hw')
       refine hK _ _ (λ_=>rfl) ?_;clear hK K c0 c1 c2 c3 c4 c5 c6 HS))
   with_reducible refine Lg.bJ _ ?_
   refine Lg.pre 0 7 2 (by simp) λK hK y τ n' hz=>?_;subst hz;replace HN:=qd (HN.out.re hk);obtain⟨c0,c1,c2,c3,c4,c5,c6,HS⟩:=SAt.c7 (show SAt I _ y from HN.out.rep.at_);simp only[zC];go_wp2;refine hK _ _ (λ_=>rfl) ?_;clear hK K c0 c1 c2 c3 c4 c5 c6 HS;refine Lg.call (i:=7) (rest:=[8]) (f:=58) (args:=#[.pointer (some ⟨I.rb,0,none⟩),V,.int .i64 q,.int .i64 v]) rfl rfl (λy=>by go_simp) (put_any hk hS hS2 H0 w0 s H _ HN.out q v _) ?_;rintro vv t' w' ⟨e,s,H,rfl,rfl,hn⟩;clear HN;have HN:=qd hn;clear hn;rw[Frame.finish_at];walk_nrm;refine(show L.T _ (Frame.at _ ⟨_,[]⟩ (.inRegion _ (List.range' 8 (1+0))::_)) (c::mid) w' from ?_);refine Lg.pre 8 1 0 (by simp) λK hK y τ n' hz=>?_;subst hz;replace HN:=qd (HN.out.re hk);obtain⟨c0,c1,c2,c3,c4,c5,c6,HS⟩:=SAt.c7 (show SAt I _ y from HN.out.rep.at_)
   skip
   simp only[zC];go_wp2;refine hK _ _ (λ_=>rfl) ?_;clear hK K c0 c1 c2 c3 c4 c5 c6 HS;refine Lg.aN _ ?_
   with_reducible refine Lg.bO _ ?_
   exact Lg.leave rfl Try.func35 rfl (v:=.int .i64 e) (λ_ _ _ _=>by simp[results,Try.f35]) (HR.out _ _ _ ⟨_,_,H,rfl,rfl,HN.out⟩)
def eO (q:Int) (s:SSt) (k:Int->SSt->Tree SSt SSt):Tree SSt SSt:=if bL s.1 q=true then .yield s λs'=>k 0 ({ s'.1 with cursor:=q,published:=q },s'.2) else k 1 s
theorem pN {B:OpsB}{I:Ids}{good:OpI->Prop}{L:Lg Try.prog (Tree SSt SSt)}{Cap:(Nat->Prop)->World->Prop}{V:Value}(hk:iL Cap) (hS:dC (B.solo I good) L Cap 63 V) (hS2:dC (B.solo I good) L Cap 38 V) (H0:Nat->Prop) (w0:World) (s:SSt) (H:Nat->Prop) (w:World) (hn:Now (B.solo I good) Cap H0 w0 s H w) (q:Int) (hq:-9223372036854775808<=q) (k:Int->SSt->Tree SSt SSt):Ccalls L 36 #[.pointer (some ⟨I.so,0,none⟩),V,.int .i64 q] (eO q s k) w λu t' w'=>∃ e s' H',u=.int .i64 e/\t'=k e s'/\Now (B.solo I good) Cap H0 w0 s' H' w':=by
 intro c mid hR;have HR:=qd hR;have HN:=qd hn;clear hR hn;rw[show Frame.enter Try.prog 36 #[.pointer (some ⟨I.so,0,none⟩),V,.int .i64 q] .normal=Frame.at { (default:Frame) with fn:=36,kind:=.normal } ⟨#[.pointer (some ⟨I.so,0,none⟩),V,.int .i64 q]++Array.replicate (Try.f36.ntmps-3) undef,[]⟩ [.code (Try.f36.body.getD .skip)] from by simp[Frame.enter,Frame.at,Try.func36];rfl];simp only[Try.f36,Option.getD_some,Nat.reduceSub,Array.replicate_succ,Array.replicate_zero,List.push_toArray,List.append_toArray,List.nil_append,List.cons_append];unfold eO;cases hb:bL s.1 q with
 | false =>
   rw[if_neg (by simp)]
   repeat (first
    | (with_reducible first | refine Lg.aW _ ?_ | refine Lg.aO _ ?_ | refine Lg.aL _ ?_ | refine Lg.aG _ ?_ | refine Lg.aN _ ?_)
    | ((with_reducible refine Lg.aI _ ?_ ?_);exact rfl)
    | ((with_reducible refine Lg.aJ _ ?_ ?_);exact rfl)
    | ((with_reducible apply Lg.aP);exact rfl)
    | (with_reducible refine Lg.aM _ ?_
       intro K hK y τ n' hy;subst hy;replace HN:=qd (HN.out.re hk);obtain⟨c0,c1,c2,c3,c4,c5,c6,HS⟩:=SAt.c7 (show SAt I _ y from HN.out.rep.at_)
       go_wp2_with ((first |(go_at_call 55;refine(aH _ _ _ HS.out).mono ?_) |(go_at_call 37;refine(aC _ _ _ HS.out).mono ?_) |(go_at_call 39;refine(aD _ _ _ c1).mono ?_) |(go_at_call 57;refine(aE _ _ _ HS.out _).mono ?_));rintro e w' ⟨rfl,hw'⟩;subst hw')
       refine hK _ _ (λ_=>rfl) ?_;clear hK K c0 c1 c2 c3 c4 c5 c6 HS))
   with_reducible refine Lg.bO _ ?_
   exact Lg.leave rfl Try.func36 rfl (v:=.int .i64 1) (λ_ _ _ _=>by simp[results,Try.f36]) (HR.out _ _ _ ⟨_,_,H,rfl,rfl,HN.out⟩)
 | true =>
   rw[if_pos rfl]
   have hq1:q<=9223372036854775806:=by
    have h1:=(show SAt I _ _ from HN.out.rep.at_).b.n1;simp only[bL,Bool.and_eq_true,decide_eq_true_eq] at hb
    omega
   repeat (first
    | (with_reducible first | refine Lg.aW _ ?_ | refine Lg.aO _ ?_ | refine Lg.aL _ ?_ | refine Lg.aG _ ?_ | refine Lg.aN _ ?_)
    | ((with_reducible refine Lg.aI _ ?_ ?_);exact rfl)
    | ((with_reducible refine Lg.aJ _ ?_ ?_);exact rfl)
    | ((with_reducible apply Lg.aP);exact rfl)
    | (with_reducible refine Lg.aM _ ?_
       intro K hK y τ n' hy;subst hy;replace HN:=qd (HN.out.re hk);obtain⟨c0,c1,c2,c3,c4,c5,c6,HS⟩:=SAt.c7 (show SAt I _ y from HN.out.rep.at_)
       go_wp2_with ((first |(go_at_call 55;refine(aH _ _ _ HS.out).mono ?_) |(go_at_call 37;refine(aC _ _ _ HS.out).mono ?_) |(go_at_call 39;refine(aD _ _ _ c1).mono ?_) |(go_at_call 57;refine(aE _ _ _ HS.out _).mono ?_));rintro e w' ⟨rfl,hw'⟩;subst hw')
       refine hK _ _ (λ_=>rfl) ?_;clear hK K c0 c1 c2 c3 c4 c5 c6 HS))
   with_reducible refine Lg.bJ _ ?_
   refine Lg.pre 0 1 1 (by simp) λK hK z τ n' hz=>?_;subst hz;go_wp2;refine hK _ _ (λ_=>rfl) ?_;clear hK K;refine Lg.call (i:=1) (rest:=[]) (f:=38) (args:=#[V]) rfl rfl (λy=>by go_simp) (hS2 _ _ _ _ _ _ (HN.out.re hk)) ?_;rintro vv t' w' ⟨rfl,s,H,rfl,hn⟩;clear HN;rw[Frame.finish_at];walk_nrm
   with_reducible refine Lg.aN _ ?_
   have HN:=qd hn;clear hn
   repeat (first
    | (with_reducible first | refine Lg.aW _ ?_ | refine Lg.aO _ ?_ | refine Lg.aL _ ?_ | refine Lg.aG _ ?_ | refine Lg.aN _ ?_)
    | ((with_reducible refine Lg.aI _ ?_ ?_);exact rfl)
    | ((with_reducible refine Lg.aJ _ ?_ ?_);exact rfl)
    | ((with_reducible apply Lg.aP);exact rfl)
    | (with_reducible refine Lg.aM _ ?_
       intro K hK y τ n' hy;subst hy;replace HN:=qd (HN.out.re hk);obtain⟨c0,c1,c2,c3,c4,c5,c6,HS⟩:=SAt.c7 (show SAt I _ y from HN.out.rep.at_)
       go_wp2_with ((first |(go_at_call 55;refine(aH _ _ _ HS.out).mono ?_) |(go_at_call 37;refine(aC _ _ _ HS.out).mono ?_) |(go_at_call 39;refine(aD _ _ _ c1).mono ?_) |(go_at_call 57;refine(aE _ _ _ HS.out _).mono ?_));rintro e w' ⟨rfl,hw'⟩;subst hw')
       refine hK _ _ (λ_=>rfl) ?_;clear hK K c0 c1 c2 c3 c4 c5 c6 HS))
   with_reducible refine Lg.aM _ ?_
   intro K hK y τ n' hy;subst hy;replace HN:=qd (HN.out.re hk);obtain⟨c0,c1,c2,c3,c4,c5,c6,HS⟩:=SAt.c7 (show SAt I _ y from HN.out.rep.at_);have z0:=HS.out.solo.frozen 1
   go_wp2_with (go_at_call 33;refine(aZ _ _ _ _ c1 z0).mono ?_;rintro e w' ⟨rfl,hw'⟩;subst hw')
   refine hK _ _ (λ_=>rfl) ?_;clear z0;clear hK K c0 c1 c2 c3 c4 c5 c6 HS;replace HN:=qd (HN.out.to hk (fX (i:=1) (v:=.int .i64 q) (S':={ s.1 with cursor:=q }) HN.out.rep (by simp[aT]) rfl rfl rfl rfl (⟨(show SAt I _ _ from HN.out.rep.at_).b.1,(show SAt I _ _ from HN.out.rep.at_).b.2,hq,hq1,(show SAt I _ _ from HN.out.rep.at_).b.5,(show SAt I _ _ from HN.out.rep.at_).b.6⟩)));generalize World.setCell _ _ _=y' at HN ⊢
   repeat (first
    | (with_reducible first | refine Lg.aW _ ?_ | refine Lg.aO _ ?_ | refine Lg.aL _ ?_ | refine Lg.aG _ ?_ | refine Lg.aN _ ?_)
    | ((with_reducible refine Lg.aI _ ?_ ?_);exact rfl)
    | ((with_reducible refine Lg.aJ _ ?_ ?_);exact rfl)
    | ((with_reducible apply Lg.aP);exact rfl)
    | (with_reducible refine Lg.aM _ ?_
       intro K hK y τ n' hy;subst hy;replace HN:=qd (HN.out.re hk);obtain⟨c0,c1,c2,c3,c4,c5,c6,HS⟩:=SAt.c7 (show SAt I _ y from HN.out.rep.at_)
       go_wp2_with ((first |(go_at_call 55;refine(aH _ _ _ HS.out).mono ?_) |(go_at_call 37;refine(aC _ _ _ HS.out).mono ?_) |(go_at_call 39;refine(aD _ _ _ c1).mono ?_) |(go_at_call 57;refine(aE _ _ _ HS.out _).mono ?_));rintro e w' ⟨rfl,hw'⟩;subst hw')
       refine hK _ _ (λ_=>rfl) ?_;clear hK K c0 c1 c2 c3 c4 c5 c6 HS))
   with_reducible refine Lg.aM _ ?_
   intro K hK y τ n' hy;subst hy;replace HN:=qd (HN.out.re hk);obtain⟨c0,c1,c2,c3,c4,c5,c6,HS⟩:=SAt.c7 (show SAt I _ y from HN.out.rep.at_);have z0:=HS.out.solo.frozen 5
   go_wp2_with (go_at_call 33;refine(aZ _ _ _ _ c1 z0).mono ?_;rintro e w' ⟨rfl,hw'⟩;subst hw')
   refine hK _ _ (λ_=>rfl) ?_;clear z0;clear hK K c0 c1 c2 c3 c4 c5 c6 HS;replace HN:=qd (HN.out.to hk (fX (i:=5) (v:=.int .i64 q) (S':={ s.1 with cursor:=q,published:=q }) HN.out.rep (by simp[aT]) rfl rfl rfl rfl (⟨(show SAt I _ _ from HN.out.rep.at_).b.1,(show SAt I _ _ from HN.out.rep.at_).b.2,hq,hq1,(show SAt I _ _ from HN.out.rep.at_).b.5,(show SAt I _ _ from HN.out.rep.at_).b.6⟩)));generalize World.setCell _ _ _=y' at HN ⊢
   repeat (first
    | (with_reducible first | refine Lg.aW _ ?_ | refine Lg.aO _ ?_ | refine Lg.aL _ ?_ | refine Lg.aG _ ?_ | refine Lg.aN _ ?_)
    | ((with_reducible refine Lg.aI _ ?_ ?_);exact rfl)
    | ((with_reducible refine Lg.aJ _ ?_ ?_);exact rfl)
    | ((with_reducible apply Lg.aP);exact rfl)
    | (with_reducible refine Lg.aM _ ?_
       intro K hK y τ n' hy;subst hy;replace HN:=qd (HN.out.re hk);obtain⟨c0,c1,c2,c3,c4,c5,c6,HS⟩:=SAt.c7 (show SAt I _ y from HN.out.rep.at_)
       go_wp2_with ((first |(go_at_call 55;refine(aH _ _ _ HS.out).mono ?_) |(go_at_call 37;refine(aC _ _ _ HS.out).mono ?_) |(go_at_call 39;refine(aD _ _ _ c1).mono ?_) |(go_at_call 57;refine(aE _ _ _ HS.out _).mono ?_));rintro e w' ⟨rfl,hw'⟩;subst hw')
       refine hK _ _ (λ_=>rfl) ?_;clear hK K c0 c1 c2 c3 c4 c5 c6 HS))
   with_reducible refine Lg.bO _ ?_
   exact Lg.leave rfl Try.func36 rfl (v:=.int .i64 0) (λ_ _ _ _=>by simp[results,Try.f36]) (HR.out _ _ _ ⟨_,_,H,rfl,rfl,HN.out⟩)
theorem OutRow.cell {D:OpsD}{w0 w:World}{H:Nat->Prop}{v:Value}{ls:List Int}(h:OutRow D w0 H w v ls) {i:Nat}(hi:i<ls.length):∃ g c,v=.slice (some ⟨g,0,none⟩) ls.length c/\w.cell? ⟨g,i,none⟩=some (.int .i64 ls[i]):=by
 obtain⟨h1,h2⟩:=h.own
 rcases h2 with⟨_,e⟩ | ⟨g,cap,cur,e,_,k,_,_,hsz,ht⟩
 ·omega
 ·refine ⟨g,cap,e,?_⟩
  rw[cell_of_row w g i cur _ _ k];have:(cur.toList.take (ls.length*1))[i]?=(ls.map (Value.int .i64))[i]?:=by rw[ht]
  rw[List.getElem?_take,if_pos (by omega),List.getElem?_map,List.getElem?_eq_getElem hi] at this
  simpa using this
theorem OutRow.slice {D:OpsD}{w0 w:World}{H:Nat->Prop}{v:Value}{ls:List Int}(h:OutRow D w0 H w v ls):∃ A c,v=.slice A ls.length c/\ls.length<=c/\c<=maxLen:=by
 rcases h.own.2 with⟨e,h0⟩ | ⟨g,cap,cur,e,_,_,h3,h4,_⟩
 ·exact ⟨none,0,by rw[e,h0],by omega,by simp⟩
 ·exact ⟨_,cap,e,h3,h4⟩
def fH (I:Ids) (q:Int):List Int->Nat->SSt->(SSt->Tree SSt SSt)->Tree SSt SSt
 | [],_,s,k=>k s
 | v::vs,j,s,k=>iQ I (wrap64 (q+j)) v s λ_ s'=>fH I q vs (j+1) s' k
def gE (I:Ids) (vs:List Int) (s:SSt) (k:Int->Int->SSt->Tree SSt SSt):Tree SSt SSt:=
 iJ I vs.length s λq e s=>if e=0 then fH I q vs 0 s λs=>eO (wrap64 (wrap64 (q+vs.length)-1)) s λ_ s=>k q 0 s else k 0 e s
abbrev frW (f:Nat->Value):Array Value:=#[f 0,f 1,f 2,f 3,f 4,f 5,f 6,f 7,f 8,f 9,f 10,f 11,f 12,f 13,f 14,f 15,f 16,f 17,f 18,f 19,f 20,f 21,f 22,f 23,f 24,f 25,f 26,f 27,f 28,f 29,f 30,f 31,f 32,f 33,f 34,f 35,f 36,f 37,f 38,f 39,f 40,f 41,f 42,f 43,f 44,f 45,f 46]
theorem solo_writeT {B:OpsB}{I:Ids}{good:OpI->Prop}{L:Lg Try.prog (Tree SSt SSt)}{Cap:(Nat->Prop)->World->Prop}{V:Value}(hk:iL Cap) (hS:dC (B.solo I good) L Cap 63 V) (hS2:dC (B.solo I good) L Cap 38 V) (H0:Nat->Prop) (w0:World) (s:SSt) (H:Nat->Prop) (w:World) (hn:Now (B.solo I good) Cap H0 w0 s H w) (v:Value) (vs:List Int) (hout:OutRow (B.solo I good) w0 H w v vs) (k:Int->Int->SSt->Tree SSt SSt):Ccalls L 13 #[.pointer (some ⟨I.so,0,none⟩),V,v] (gE I vs s k) w λu t' w'=>∃ q e s' H',u=.tuple #[.int .i64 q,.int .i64 e]/\t'=k q e s'/\Now (B.solo I good) Cap H0 w0 s' H' w':=by
 obtain⟨A,ca,rfl,hl1,hl2⟩:=hout.slice;unfold maxLen at hl2;intro c mid hR;have HR:=qd hR;have HN:=qd hn;clear hR hn;rw[show Frame.enter Try.prog 13 #[.pointer (some ⟨I.so,0,none⟩),V,.slice A vs.length ca] .normal=Frame.at { (default:Frame) with fn:=13,kind:=.normal } ⟨#[.pointer (some ⟨I.so,0,none⟩),V,.slice A vs.length ca]++Array.replicate (Try.f13.ntmps-3) undef,[]⟩ [.code (Try.f13.body.getD .skip)] from by simp[Frame.enter,Frame.at,Try.func13];rfl];simp only[Try.f13,Option.getD_some,Nat.reduceSub,Array.replicate_succ,Array.replicate_zero,List.push_toArray,List.append_toArray,List.nil_append,List.cons_append];have HO:=qd hout;clear hout;unfold gE
 repeat (first
  | (with_reducible first | refine Lg.aW _ ?_ | refine Lg.aO _ ?_ | refine Lg.aL _ ?_ | refine Lg.aG _ ?_ | refine Lg.aN _ ?_)
  | ((with_reducible refine Lg.aI _ ?_ ?_);exact rfl)
  | ((with_reducible refine Lg.aJ _ ?_ ?_);exact rfl)
  | ((with_reducible apply Lg.aP);exact rfl)
  | (with_reducible refine Lg.aM _ ?_
     intro K hK y τ n' hy;subst hy;replace HN:=qd (HN.out.re hk);replace HO:=qd HO.out.re;obtain⟨c0,c1,c2,c3,c4,c5,c6,HS⟩:=SAt.c7 (show SAt I _ y from HN.out.rep.at_)
     go_wp2_with ((first |(go_at_call 55;refine(aH _ _ _ HS.out).mono ?_) |(go_at_call 37;refine(aC _ _ _ HS.out).mono ?_) |(go_at_call 39;refine(aD _ _ _ c1).mono ?_) |(go_at_call 57;refine(aE _ _ _ HS.out _).mono ?_));rintro e w' ⟨rfl,hw'⟩;subst hw')
     refine hK _ _ (λ_=>rfl) ?_;clear hK K c0 c1 c2 c3 c4 c5 c6 HS))
 with_reducible refine Lg.bJ _ ?_
 refine Lg.pre 0 4 6 (by simp) λK hK y τ n' hz=>?_;subst hz;replace HN:=qd (HN.out.re hk);replace HO:=qd HO.out.re;obtain⟨c0,c1,c2,c3,c4,c5,c6,HS⟩:=SAt.c7 (show SAt I _ y from HN.out.rep.at_);simp only[zC];go_wp2;refine hK _ _ (λ_=>rfl) ?_;clear hK K c0 c1 c2 c3 c4 c5 c6 HS;refine Lg.call (i:=4) (rest:=[5,6,7,8,9]) (f:=34) (args:=#[.pointer (some ⟨I.so,0,none⟩),V,.int .i64 vs.length]) rfl rfl (λy=>by go_simp) (lU hk hS hS2 H y s H _ (HN.out.here hk) vs.length _) ?_;rintro vv t' w' ⟨q,e,s,H,rfl,rfl,hn'⟩;have hout:=HO.out.held hn'.held;have hn:=HN.out.on hn';clear HN HO hn';have HN:=qd hn;have HO:=qd hout;clear hn hout;rw[Frame.finish_at];walk_nrm;refine(show L.T _ (Frame.at _ ⟨_,[]⟩ (.inRegion _ (List.range' 5 (5+0))::_)) (c::mid) w' from ?_);refine Lg.pre 5 5 0 (by simp) λK hK y τ n' hz=>?_;subst hz;replace HN:=qd (HN.out.re hk);replace HO:=qd HO.out.re;obtain⟨c0,c1,c2,c3,c4,c5,c6,HS⟩:=SAt.c7 (show SAt I _ y from HN.out.rep.at_)
 skip
 simp only[zC];go_wp2;refine hK _ _ (λ_=>rfl) ?_;clear hK K c0 c1 c2 c3 c4 c5 c6 HS;refine Lg.aN _ ?_
 by_cases he:e=0
 ·subst he
  rw[if_pos rfl]
  repeat (first
   | (with_reducible first | refine Lg.aW _ ?_ | refine Lg.aO _ ?_ | refine Lg.aL _ ?_ | refine Lg.aG _ ?_ | refine Lg.aN _ ?_)
   | ((with_reducible refine Lg.aI _ ?_ ?_);exact rfl)
   | ((with_reducible refine Lg.aJ _ ?_ ?_);exact rfl)
   | ((with_reducible apply Lg.aP);exact rfl)
   | (with_reducible refine Lg.aM _ ?_
      intro K hK y τ n' hy;subst hy;replace HN:=qd (HN.out.re hk);replace HO:=qd HO.out.re;obtain⟨c0,c1,c2,c3,c4,c5,c6,HS⟩:=SAt.c7 (show SAt I _ y from HN.out.rep.at_)
      go_wp2_with ((first |(go_at_call 55;refine(aH _ _ _ HS.out).mono ?_) |(go_at_call 37;refine(aC _ _ _ HS.out).mono ?_) |(go_at_call 39;refine(aD _ _ _ c1).mono ?_) |(go_at_call 57;refine(aE _ _ _ HS.out _).mono ?_));rintro e w' ⟨rfl,hw'⟩;subst hw')
      refine hK _ _ (λ_=>rfl) ?_;clear hK K c0 c1 c2 c3 c4 c5 c6 HS))
  refine Lg.bP frW (R:=λf=>f 0=.pointer (some ⟨I.so,0,none⟩)/\f 1=V/\f 2=.slice A vs.length ca/\f 8=.int .i64 q/\f 23=.slice A vs.length ca/\f 24=.int .i64 vs.length/\f 25=.int .i64 0) ?_ (by rfl) ⟨rfl,rfl,rfl,rfl,rfl,rfl,rfl⟩;rintro f1 ⟨n0,n1,n2,n8,n23,n24,n25⟩;refine Lg.eZ frW (λf t w=>∃ j:Nat,j<=vs.length/\∃ s' H',f 0=.pointer (some ⟨I.so,0,none⟩)/\f 1=V/\f 2=.slice A vs.length ca/\f 8=.int .i64 q/\f 23=.slice A vs.length ca/\f 24=.int .i64 vs.length/\f 25=.int .i64 j/\t=fH I q (vs.drop j) j s' (λs=>eO (wrap64 (wrap64 (q+vs.length)-1)) s λ_ s=>k q 0 s)/\Now (B.solo I good) Cap H0 w0 s' H' w/\OutRow (B.solo I good) w0 H' w (.slice A vs.length ca) vs) (λf _ _=>vs.length-(intOf (f 25)).toNat) ⟨0,Nat.zero_le _,s,H,n0,n1,n2,n8,n23,n24,n25,rfl,HN.out,HO.out⟩ ?_;clear HN HO n0 n1 n2 n8 n23 n24 n25 f1 s H;rintro f2 t w2 ⟨j,hj,s,H,k0,k1,k2,k8,k23,k24,k25,rfl,hn,hout⟩ hnext;have HX:=qd hnext;have HN:=qd hn;have HO:=qd hout;clear hnext hn hout;simp only[frW,k0,k1,k2,k8,k23,k24,k25]
  by_cases hlt:j<vs.length
  ·obtain ⟨g,c',hsl,hcell⟩:=HO.out.cell hlt
   simp only[Value.slice.injEq] at hsl;obtain⟨rfl,-,rfl⟩:=hsl;have hd:decide (j<vs.length)=true:=decide_eq_true hlt;rw[show fH I q (vs.drop j) j s (λs=>eO (wrap64 (wrap64 (q+vs.length)-1)) s λ_ s=>k q 0 s)=iQ I (wrap64 (q+j)) vs[j] s (λ_ s'=>fH I q (vs.drop (j+1)) (j+1) s' (λs=>eO (wrap64 (wrap64 (q+vs.length)-1)) s λ_ s=>k q 0 s)) from by rw[List.drop_eq_getElem_cons hlt];rfl];clear hcell;obtain⟨x,hx⟩:∃ x,vs[j]=x:=⟨_,rfl⟩;rw[hx]
   with_reducible refine Lg.aW _ ?_
   with_reducible refine Lg.aM _ ?_
   intro K hK y τ n' hy;subst hy;replace HN:=qd (HN.out.re hk);replace HO:=qd HO.out.re;obtain⟨c0,c1,c2,c3,c4,c5,c6,HS⟩:=SAt.c7 (show SAt I _ y from HN.out.rep.at_)
   go_wp2_with ((first |(go_at_call 55;refine(aH _ _ _ HS.out).mono ?_) |(go_at_call 37;refine(aC _ _ _ HS.out).mono ?_) |(go_at_call 39;refine(aD _ _ _ c1).mono ?_) |(go_at_call 57;refine(aE _ _ _ HS.out _).mono ?_));rintro e w' ⟨rfl,hw'⟩;subst hw')
   refine hK _ _ (λ_=>rfl) ?_;clear hK K c0 c1 c2 c3 c4 c5 c6 HS
   repeat (first
    | (with_reducible first | refine Lg.aW _ ?_ | refine Lg.aO _ ?_ | refine Lg.aL _ ?_ | refine Lg.aG _ ?_ | refine Lg.aN _ ?_)
    | ((with_reducible refine Lg.aI _ ?_ ?_);exact rfl)
    | ((with_reducible refine Lg.aJ _ ?_ ?_);exact rfl)
    | ((with_reducible apply Lg.aP);exact rfl))
   with_reducible refine Lg.aM _ ?_
   intro K hK y τ n' hy;subst hy;replace HN:=qd (HN.out.re hk);replace HO:=qd HO.out.re;obtain⟨g',c',hsl,hcell⟩:=HO.out.cell hlt;simp only[Value.slice.injEq,Option.some.injEq,Addr.mk.injEq,and_true,true_and] at hsl;obtain⟨rfl,rfl⟩:=hsl;rw[hx] at hcell;go_wp2;refine hK _ _ (λ_=>rfl) ?_;clear hK K hcell
   with_reducible refine Lg.bJ _ ?_
   refine Lg.pre 0 6 1 (by simp) λK hK y τ n' hz=>?_;subst hz;replace HN:=qd (HN.out.re hk);replace HO:=qd HO.out.re;obtain⟨c0,c1,c2,c3,c4,c5,c6,HS⟩:=SAt.c7 (show SAt I _ y from HN.out.rep.at_);simp only[zC];go_wp2;refine hK _ _ (λ_=>rfl) ?_;clear hK K c0 c1 c2 c3 c4 c5 c6 HS;refine Lg.call (i:=6) (rest:=[]) (f:=35) (args:=#[.pointer (some ⟨I.so,0,none⟩),V,.int .i64 (wrap64 (q+j)),.int .i64 x]) rfl rfl (λy=>by go_simp) (pM hk hS hS2 H y s H _ (HN.out.here hk) (wrap64 (q+j)) x _) ?_;rintro vv t' w' ⟨e,s,H,rfl,rfl,hn'⟩;have hout:=HO.out.held hn'.held;have hn:=HN.out.on hn';clear HN HO hn';have HN:=qd hn;have HO:=qd hout;clear hn hout;rw[Frame.finish_at];walk_nrm
   with_reducible refine Lg.aN _ ?_
   repeat (first
    | (with_reducible first | refine Lg.aW _ ?_ | refine Lg.aO _ ?_ | refine Lg.aL _ ?_ | refine Lg.aG _ ?_ | refine Lg.aN _ ?_)
    | ((with_reducible refine Lg.aI _ ?_ ?_);exact rfl)
    | ((with_reducible refine Lg.aJ _ ?_ ?_);exact rfl)
    | ((with_reducible apply Lg.aP);exact rfl)
    | (with_reducible refine Lg.aM _ ?_
       intro K hK y τ n' hy;subst hy;replace HN:=qd (HN.out.re hk);replace HO:=qd HO.out.re;obtain⟨c0,c1,c2,c3,c4,c5,c6,HS⟩:=SAt.c7 (show SAt I _ y from HN.out.rep.at_)
       go_wp2_with ((first |(go_at_call 55;refine(aH _ _ _ HS.out).mono ?_) |(go_at_call 37;refine(aC _ _ _ HS.out).mono ?_) |(go_at_call 39;refine(aD _ _ _ c1).mono ?_) |(go_at_call 57;refine(aE _ _ _ HS.out _).mono ?_));rintro e w' ⟨rfl,hw'⟩;subst hw')
       refine hK _ _ (λ_=>rfl) ?_;clear hK K c0 c1 c2 c3 c4 c5 c6 HS))
   refine Lg.bP frW (R:=λf=>f 0=.pointer (some ⟨I.so,0,none⟩)/\f 1=V/\f 2=.slice (some ⟨g,0,none⟩) vs.length ca/\f 8=.int .i64 q/\f 23=.slice (some ⟨g,0,none⟩) vs.length ca/\f 24=.int .i64 vs.length/\f 25=.int .i64 ((j+1:Nat):Int)) ?_ (by rfl) ⟨rfl,rfl,rfl,rfl,rfl,rfl,by simp⟩;rintro f' ⟨p0,p1,p2,p8,p23,p24,p25⟩;exact HX.out f' _ _ ⟨j+1,by omega,s,H,p0,p1,p2,p8,p23,p24,p25,rfl,HN.out,HO.out⟩ (by rw[p25,k25];simp only[intOf];omega)
  ·have hd:decide (j<vs.length)=false:=decide_eq_false hlt
   obtain rfl:j=vs.length:=by omega
   rw[show fH I q (vs.drop vs.length) vs.length s (λs=>eO (wrap64 (wrap64 (q+vs.length)-1)) s λ_ s=>k q 0 s)=eO (wrap64 (wrap64 (q+vs.length)-1)) s λ_ s=>k q 0 s from by rw[List.drop_length];rfl]
   repeat (first
    | (with_reducible first | refine Lg.aW _ ?_ | refine Lg.aO _ ?_ | refine Lg.aL _ ?_ | refine Lg.aG _ ?_ | refine Lg.aN _ ?_)
    | ((with_reducible refine Lg.aI _ ?_ ?_);exact rfl)
    | ((with_reducible refine Lg.aJ _ ?_ ?_);exact rfl)
    | ((with_reducible apply Lg.aP);exact rfl)
    | (with_reducible refine Lg.aM _ ?_
       intro K hK y τ n' hy;subst hy;replace HN:=qd (HN.out.re hk);replace HO:=qd HO.out.re;obtain⟨c0,c1,c2,c3,c4,c5,c6,HS⟩:=SAt.c7 (show SAt I _ y from HN.out.rep.at_)
       go_wp2_with ((first |(go_at_call 55;refine(aH _ _ _ HS.out).mono ?_) |(go_at_call 37;refine(aC _ _ _ HS.out).mono ?_) |(go_at_call 39;refine(aD _ _ _ c1).mono ?_) |(go_at_call 57;refine(aE _ _ _ HS.out _).mono ?_));rintro e w' ⟨rfl,hw'⟩;subst hw')
       refine hK _ _ (λ_=>rfl) ?_;clear hK K c0 c1 c2 c3 c4 c5 c6 HS))
   with_reducible refine Lg.bJ _ ?_
   refine Lg.pre 0 7 1 (by simp) λK hK y τ n' hz=>?_;subst hz;replace HN:=qd (HN.out.re hk);replace HO:=qd HO.out.re;obtain⟨c0,c1,c2,c3,c4,c5,c6,HS⟩:=SAt.c7 (show SAt I _ y from HN.out.rep.at_);simp only[zC];go_wp2;refine hK _ _ (λ_=>rfl) ?_;clear hK K c0 c1 c2 c3 c4 c5 c6 HS;refine Lg.call (i:=7) (rest:=[]) (f:=36) (args:=#[.pointer (some ⟨I.so,0,none⟩),V,.int .i64 (wrap64 (wrap64 (q+vs.length)-1))]) rfl rfl (λy=>by go_simp) (pN hk hS hS2 H y s H _ (HN.out.here hk) _ (by simp only[wrap64];omega) _) ?_;rintro vv t' w' ⟨e,s,H,rfl,rfl,hn'⟩;have hout:=HO.out.held hn'.held;have hn:=HN.out.on hn';clear HN HO hn';have HN:=qd hn;have HO:=qd hout;clear hn hout;rw[Frame.finish_at];walk_nrm
   with_reducible refine Lg.aN _ ?_
   repeat (first
    | (with_reducible first | refine Lg.aW _ ?_ | refine Lg.aO _ ?_ | refine Lg.aL _ ?_ | refine Lg.aG _ ?_ | refine Lg.aN _ ?_)
    | ((with_reducible refine Lg.aI _ ?_ ?_);exact rfl)
    | ((with_reducible refine Lg.aJ _ ?_ ?_);exact rfl)
    | ((with_reducible apply Lg.aP);exact rfl)
    | (with_reducible refine Lg.aM _ ?_
       intro K hK y τ n' hy;subst hy;replace HN:=qd (HN.out.re hk);replace HO:=qd HO.out.re;obtain⟨c0,c1,c2,c3,c4,c5,c6,HS⟩:=SAt.c7 (show SAt I _ y from HN.out.rep.at_)
       go_wp2_with ((first |(go_at_call 55;refine(aH _ _ _ HS.out).mono ?_) |(go_at_call 37;refine(aC _ _ _ HS.out).mono ?_) |(go_at_call 39;refine(aD _ _ _ c1).mono ?_) |(go_at_call 57;refine(aE _ _ _ HS.out _).mono ?_));rintro e w' ⟨rfl,hw'⟩;subst hw')
       refine hK _ _ (λ_=>rfl) ?_;clear hK K c0 c1 c2 c3 c4 c5 c6 HS))
   with_reducible refine Lg.bO _ ?_
   exact Lg.leave rfl Try.func13 rfl (v:=.tuple #[.int .i64 q,.int .i64 0]) (λ_ _ _ _=>by simp[results,Try.f13]) (HR.out _ _ _ ⟨_,_,_,H,rfl,rfl,HN.out⟩)
 ·rw [if_neg he]
  have hd:(e !=0)=true:=by simpa using he
  clear he
  repeat (first
   | (with_reducible first | refine Lg.aW _ ?_ | refine Lg.aO _ ?_ | refine Lg.aL _ ?_ | refine Lg.aG _ ?_ | refine Lg.aN _ ?_)
   | ((with_reducible refine Lg.aI _ ?_ ?_);exact rfl)
   | ((with_reducible refine Lg.aJ _ ?_ ?_);exact rfl)
   | ((with_reducible apply Lg.aP);exact rfl)
   | (with_reducible refine Lg.aM _ ?_
      intro K hK y τ n' hy;subst hy;replace HN:=qd (HN.out.re hk);replace HO:=qd HO.out.re;obtain⟨c0,c1,c2,c3,c4,c5,c6,HS⟩:=SAt.c7 (show SAt I _ y from HN.out.rep.at_)
      go_wp2_with ((first |(go_at_call 55;refine(aH _ _ _ HS.out).mono ?_) |(go_at_call 37;refine(aC _ _ _ HS.out).mono ?_) |(go_at_call 39;refine(aD _ _ _ c1).mono ?_) |(go_at_call 57;refine(aE _ _ _ HS.out _).mono ?_));rintro e w' ⟨rfl,hw'⟩;subst hw')
      refine hK _ _ (λ_=>rfl) ?_;clear hK K c0 c1 c2 c3 c4 c5 c6 HS))
  with_reducible refine Lg.bO _ ?_
  exact Lg.leave rfl Try.func13 rfl (v:=.tuple #[.int .i64 0,.int .i64 e]) (λ_ _ _ _=>by simp[results,Try.f13]) (HR.out _ _ _ ⟨_,_,_,H,rfl,rfl,HN.out⟩)
end Go.Proofs.Ytlcplealnbekeaa
