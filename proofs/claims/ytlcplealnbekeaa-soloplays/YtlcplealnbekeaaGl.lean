/- DERIVED. A run by a schedule on a ring with one writer (package solo: Play) at a size that can't be: nothing is done. -/
import Derived.Test.YtlcplealnbekeaaGk
import Derived.Test.YtlcplealnbekeaaGi
import Derived.Test.YtlcplealnbekeaaGh
set_option linter.unusedVariables false
set_option linter.unusedSectionVars false
set_option linter.unusedSimpArgs false
set_option maxHeartbeats 4000000
set_option maxRecDepth 100000
namespace Go.Proofs.Ytlcplealnbekeaa
open Go.RowKit Go.Turn Go.Tame Go.Conc
def I0 (n k:Nat):Ids:=⟨0,0,0,0,0,n,k⟩
theorem putsT_eq (I:Ids) (q:Int):∀ (vs:List Int) (j:Nat) (s:SSt) k,fH I q vs j s k=fH (I0 I.n I.k) q vs j s k
 | [],_,_,_=>rfl
 | v::vs,j,s,k=>by
   show iQ I _ v s _=iQ (I0 I.n I.k) _ v s _
   have:(λ(_:Int) s'=>fH I q vs (j+1) s' k)=λ(_:Int) s'=>fH (I0 I.n I.k) q vs (j+1) s' k:=by funext _ s';exact putsT_eq I q vs (j+1) s' k
   rw[this]
   rfl
theorem qR (I:Ids) (p:Int):∀ (m:Nat) (ls:List Int) (s:SSt) k,eK I p m ls s k=eK (I0 I.n I.k) p m ls s k
 | 0,_,_,_=>rfl
 | m+1,ls,s,k=>by
   show (if _ then _ else getG soloL I.n _ s _)=(if _ then _ else getG soloL I.n _ s _)
   congr 2
   funext v e s'
   rw[qR I p m (ls++[v]) s' k]
theorem doS_eq (I:Ids):doS I=doS (I0 I.n I.k):=by
 funext i o st k
 have h1:∀ vs s k,gE I vs s k=gE (I0 I.n I.k) vs s k:=λvs s k=>by
  unfold gE
  have : (λq e s=>if e=0 then fH I q vs 0 s λs=>eO (wrap64 (wrap64 (q+vs.length)-1)) s λ_ s=>k q 0 s else k 0 e s)=λq e s=>if e=0 then fH (I0 I.n I.k) q vs 0 s λs=>eO (wrap64 (wrap64 (q+vs.length)-1)) s λ_ s=>k q 0 s else k 0 e s:=by
   funext q e s
   rw[putsT_eq]
  rw[this]
  rfl
 have h2:∀ r m s k,eV I r m s k=eV (I0 I.n I.k) r m s k:=λr m s k=>by
  unfold eV;simp only[qR I]
  rfl
 show (if _ then kC I o st k else if _ then _ else if _ then kL I _ st _ else if _ then eV I _ _ st _ else _)=(if _ then kC (I0 I.n I.k) o st k else if _ then _ else if _ then kL (I0 I.n I.k) _ st _ else if _ then eV (I0 I.n I.k) _ _ st _ else _)
 have h3:kC I o st k=kC (I0 I.n I.k) o st k:=by
  unfold kC;rw[h1]
  rfl
 have h4:∀ r k,kL I r st k=kL (I0 I.n I.k) r st k:=λr k=>h2 r 1 st _;rw[h3,h4,h2]
 rfl
theorem solo_doS (B:OpsB) (I:Ids) (i:Nat):DoLaw (B.solo I SG) i (doS I i) 20 #[.pointer (some ⟨I.so,0,none⟩)] #[]:=by
 intro tb L Cap hre hk hst hcut o st H k w hgood hrep hcap;have hn:Now (B.solo I SG) Cap H w st H w:=⟨hrep,hcap,Held.refl _ _⟩;exact(solo_doT hk (slots_sstep hre hk hst) (solo_sstep hre hk hst) H w st H w hn hcut i o hgood k).mono λv t' w' ⟨a,s',H',lv,h1,h2,h3,h4⟩=>⟨a,s',H',lv,h2,h1,h3.rep,h3.held,h4.own,λb hb=>(h4.nh b hb).1⟩
theorem solo_enters (args:Array Value) (w:World):(callFunc 20 args).run Try.prog w=.ok (.enter 20 args) w:=by kernel_rfl
theorem solo_play (hP:Prog Try.prog) (Post:Value->World->Prop) (W0:World) (nn kk:Nat) (h0:0<nn) (h2:nn<=65536) (hk64:kk<=64) (hbt:(bits BinOp.and IntKind.i64 (nn:Int) ((nn:Int)-1) !=0)=false)
  (tA:Option Addr) (Tb To nt cp:Nat) (htA:0<nt->tA=some ⟨Tb,To,none⟩) (hnt:nt<=maxLen) (A:Nat->Option Addr) (len cap:Nat->Nat) (ops:Nat->List OpI) (sv:Value) (xs:List Int) (most:Int) (w0:World) (hW:W0.heap.size<=w0.heap.size)
  (hrows:RowsAt w0 Tb To (min nt 64) A len cap) (hin:OpsCells W0 SG w0 (min nt 64) A len ops) (hsch:SchI W0 sv xs (λb=>∃ i o,i<min nt 64/\A i=some ⟨b,o,none⟩) w0)
  (hSo:oV (brQ (doS (I0 nn kk)) ops) (min nt 64) (soloZero,λ_=>[])) :
  Ccalls (lgA hP Post W0) 8 #[.int .i64 nn,.int .i64 kk,.slice tA nt cp,sv,.int .i64 most] () w0 λv _ w'=>PlayG W0 (2+kk+nn+nn) (fE (I0 nn kk)) (bI (brQ (doS (I0 nn kk)) ops) (min nt 64) (cH most 1048576).toNat xs (soloZero,λ_=>[])) (min nt 64) w0 v w':=by
 have HSO:=qd hSo;clear hSo;intro c mid hR;have HR:=qd hR;clear hR;have hs:¬(lgA hP Post W0).strict:=λh=>h;rw[show Frame.enter Try.prog 8 #[.int .i64 nn,.int .i64 kk,.slice tA nt cp,sv,.int .i64 most] .normal=Frame.at { (default:Frame) with fn:=8,kind:=.normal } ⟨#[.int .i64 nn,.int .i64 kk,.slice tA nt cp,sv,.int .i64 most]++Array.replicate (Try.f8.ntmps-5) undef,[]⟩ [.code (Try.f8.body.getD .skip)] from by simp[Frame.enter,Frame.at,Try.func8];rfl];simp only[Try.f8,Option.getD_some,Nat.reduceSub,Array.replicate_succ,Array.replicate_zero,List.push_toArray,List.append_toArray,List.nil_append,List.cons_append];refine Lg.move _ (λ_ _=>step_seq) (λh=>h) ?_;refine Lg.code λK hK y τ n' hy=>?_;have hold:Old w0.heap.size w0 y:=by rw[hy];exact(Old.refl _ (y.re τ n')).re
 have hsz:y.heap.size=w0.heap.size:=by rw[hy];rfl
 clear hy;go_wp2;refine hK _ _ (λh=>absurd h hs) ?_;clear hK K;have hold1:=hold.new (show w0.heap.size<=y.heap.size by omega) (.cells #[.slice none 0 0,.slice none 0 0,.slice none 0 0,.bool false] 31);have hb8:=Blk.new y 31 #[.slice none 0 0,.slice none 0 0,.slice none 0 0,.bool false];have hsz1:(y.alloc (.cells #[.slice none 0 0,.slice none 0 0,.slice none 0 0,.bool false] 31)).heap.size=w0.heap.size+1:=by simp[hsz]
 rw[hsz] at hb8;generalize y.alloc (.cells #[.slice none 0 0,.slice none 0 0,.slice none 0 0,.bool false] 31)=w1 at hb8 hold1 hsz1 ⊢;obtain⟨b8,h8⟩:∃ b8,b8=w0.heap.size:=⟨_,rfl⟩;rw[<-h8] at hb8 ⊢;have HZ2:=qd h8;clear h8 hsz hold;refine Lg.move _ (λ_ _=>step_seq) (λh=>h) ?_;refine Lg.code λK hK z τ n' hz=>?_;subst hz;have hold1:=hold1.re;have hb8:Blk z b8 _ _:=hb8;have hsz1:z.heap.size=w0.heap.size+1:=hsz1;have HST:=qd (pO nn kk z h0 h2 hk64 hbt);have HOLD:=qd hold1;have HB8:=qd hb8;have HZ:=qd hsz1;clear hold1 hb8 hsz1
 go_wp2_with fail
 refine HST.out.mono ?_;rintro e w2 ⟨I,rfl,rfl,g1,g2,g3,g4,g5,rfl,hat0,B1,N0⟩;have hrat:SAt I soloZero w2:=⟨hat0,N0,by constructor <;> simp[soloZero]⟩;have N1:∀ b,soB I b->(∃ c t r,w2.heap[b]?=some (.cells c t r)/\r.2<big)/\z.heap.size<=b:=λb hb=>⟨by obtain⟨c,t,e⟩:=N0 b hb;exact⟨c,t,_,e,by decide⟩,by rcases hb with rfl | rfl | rfl | rfl | rfl <;> assumption⟩;have hold2:=HOLD.out.below B1 (by have:=HZ.out;omega);have hb8:Blk w2 b8 _ _:=HB8.out.below B1 HB8.out.lt;have hlb8:=HB8.out.lt;have hge0:=HZ.out;generalize z.heap.size=sb at *;have hge:∀ b,soB I b->w0.heap.size+1<=b:=λb hb=>by have:=(N1 b hb).2;omega
 have hin2:OpsIn W0 (jP I) SG soloZero w2 (min nt 64) A len ops:=hin.opsIn hold2 hrat (λb hb=>⟨(N1 b hb).1,by have:=hge b hb;omega⟩) λ_ h=>h;have hbW:∀ b,soB I b->W0.heap.size<=b:=λb hb=>by have:=hge b hb;omega
 have hrows2:=hrows.later hold2
 have hsch2:SchI W0 sv xs (λb=>soB I b\/∃ i o,i<min nt 64/\A i=some ⟨b,o,none⟩) w2:=hsch.later hold2 λb hb hz=>by
  rcases hz with e | hz
  ·have:=hge b e;omega
  ·exact hz
 have HIN:=qd hin2;have HRO:=qd hrows2;have HSC:=qd hsch2;have HO2:=qd hold2;have HB2:=qd hb8;have HGE:=qd hge;clear hin hin2 hrows hrows2 hsch hsch2 hold2 hb8 hrat N1 B1 HST HOLD HB8 HZ hge hge0;go_wp2;refine hK _ _ (λh=>absurd h hs) ?_;clear hK K;refine Lg.move _ (λ_ _=>step_seq) (λh=>h) ?_;refine Lg.move _ (λ_ _=>step_seq) (λh=>h) ?_;refine Lg.code λK hK y3 τ n' hy=>?_;subst hy;have hin2:OpsIn W0 (jP I) SG soloZero y3 (min nt 64) A len ops:=HIN.out.later (w0:=y3.re τ n') (Old.refl _ (y3.re τ n')).re;have hrows2:=HRO.out.later (w0:=y3.re τ n') (Old.refl _ (y3.re τ n')).re;have hsch2:=HSC.out.later (w0:=y3.re τ n') (Old.refl _ (y3.re τ n')).re (λ_ _ h=>h);have hold2:=HO2.out.re;have hb8:Blk y3 b8 _ _:=HB2.out;clear HIN HRO HSC HO2 HB2;have HIN:=qd hin2;have HRO:=qd hrows2;have HSC:=qd hsch2;have HO2:=qd hold2;have HB2:=qd hb8;clear hin2 hrows2 hsch2 hold2 hb8;go_wp2;refine hK _ _ (λh=>absurd h hs) ?_;clear hK K;refine Lg.aJ _ rfl ?_;refine Lg.aO _ ?_;refine Lg.move _ (λ_ _=>step_seq) (λh=>h) ?_;refine Lg.move _ (λ_ _=>step_region) (λh=>h) ?_;refine Lg.pre 0 5 3 (by simp) λK hK u τ n' hu=>?_;subst hu;have hin2:OpsIn W0 (jP I) SG soloZero u (min nt 64) A len ops:=HIN.out.later (w0:=u.re τ n') (Old.refl _ (u.re τ n')).re;have hrows2:=HRO.out.later (w0:=u.re τ n') (Old.refl _ (u.re τ n')).re;have hsch2:=HSC.out.later (w0:=u.re τ n') (Old.refl _ (u.re τ n')).re (λ_ _ h=>h);have hold2:=HO2.out.re;have hb8:Blk u b8 _ _:=HB2.out;have HIN2:=qd hin2;have HRO2:=qd hrows2;have HSC2:=qd hsch2;have HO:=qd hold2;have HB:=qd hb8;clear hin2 hrows2 hsch2 hold2 hb8 HIN HRO HSC HO2 HB2;simp only[zC];go_wp2;refine hK _ _ (λh=>absurd h hs) ?_;clear hK K;have hops:=ops_calls hP Post W0 (jP I) SG soloZero (doS I) tA Tb To nt cp htA hnt 20 #[.pointer (some ⟨I.so,0,none⟩)] #[] A len cap ops sv xs most u (by have:=HO.out.size;omega) hbW HRO2.out HIN2.out HSC2.out solo_enters (λB i _=>solo_doS B I i) (λB hn hB=>(show brT (B.on (jP I) SG) (doS I)=brQ (doS (I0 I.n I.k)) ops from (br_q (I:=jP I) (good:=SG) B (doS I)).trans (by rw[hB,doS_eq I];rfl))▸HSO.out);refine Lg.call (i:=5) (rest:=[6,7]) (f:=19) (args:=#[.slice tA nt cp,.func (.func 20) #[.pointer (some ⟨I.so,0,none⟩)] #[],sv,.int .i64 most]) rfl rfl (λy=>by go_simp) hops ?_;rintro vv t'' w4 hdone;have HOPS:=qd hdone;obtain⟨B,ov,hBn,hBo,hBa,hvv0,hov0,H,hrep,hH⟩:=hdone.ex;clear hdone hops;obtain⟨R,hR⟩:∃ R:Run SSt,R=bI (brQ (doS (I0 I.n I.k)) ops) (min nt 64) (cH most 1048576).toNat xs (soloZero,λ_=>[]):=⟨_,rfl⟩
 have eR:bI (brT (B.on (jP I) SG) (doS I)) (min nt 64) (cH most 1048576).toNat xs (soloZero,λ_=>[])=R:=by
  rw[hR];exact congrArg (λb=>bI b (min nt 64) (cH most 1048576).toNat xs (soloZero,λ_=>[])) ((br_q (I:=jP I) (good:=SG) B (doS I)).trans (by rw[hBo,doS_eq I];rfl))
 have key:∀ R':Run SSt,bI (brT (B.on (jP I) SG) (doS I)) (min nt 64) (cH most 1048576).toNat xs (soloZero,λ_=>[])=R'->vv=.agg #[.slice (some ⟨B.ab,0,none⟩) (min nt 64:Nat) (min nt 64:Nat),ov,.slice none 0 0,.bool (decide (0<R'.m.left (min nt 64)))]/\w4.ownsRow u.heap.size 3 1 ov R'.order.length (R'.order.map (Value.int .i64))/\AnsAll w4 B.ab B.n R'.m.s.2 (λb=>H b/\¬soB I b)/\SAt I R'.m.s.1 w4/\∀ b,soB I b->b<w4.heap.size:=by
  rintro _ rfl;exact⟨hvv0,hov0,hrep.answers,hrep.at_,λb hb=>by obtain⟨c,t,r,h1,_⟩:=hrep.near b (hrep.bi b hb);exact aB h1⟩
 obtain⟨hvv,hov,hans,hrat,hltB⟩:=key R eR;rw[<-hR] at HR;rw[hBn] at hans;obtain⟨stk,hst⟩:∃ stk:Bool,stk=decide (0<R.m.left (min nt 64)):=⟨_,rfl⟩;rw[<-hst] at hvv;clear key hrep eR hvv0 hov0 hBo;have HRR:=qd hR;clear hR;generalize min nt 64=n at *;obtain⟨oA,oc,rfl⟩:=aQ hov;obtain⟨oL,hoL⟩:∃ oL,oL=R.order.length:=⟨_,rfl⟩;rw[<-hoL] at hvv;obtain⟨ab,hab⟩:∃ ab,ab=B.ab:=⟨_,rfl⟩;rw[<-hab] at hvv hBa hans;subst hvv;have HX:=qd (And.intro hans (And.intro hrat (And.intro hov (And.intro hBa (And.intro hoL (And.intro hst (And.intro hH hltB)))))));have hb8:Blk w4 b8 _ _:=HOPS.out.near b8 _ _ (0,0) (.inr ⟨by decide,λz=>by have:=HGE.out _ z;have:=HZ2.out;omega⟩) HB.out;clear hans hrat hov hBa hoL hst hH hltB;have HB4:=qd hb8;clear hb8 hab;rw[Frame.finish_at];walk_nrm;refine(show (lgA hP Post W0).T _ (Frame.at _ ⟨_,[]⟩ (.inRegion _ (List.range' 6 (2+0))::_)) (c::mid) w4 from ?_);refine Lg.pre 6 2 0 (by simp) λK hK q τ2 n2 hq=>?_;simp only[zC];go_wp2;refine hK _ _ (λh=>absurd h hs) ?_;clear hK K;have hb4:Blk q b8 31 #[.slice none 0 0,.slice none 0 0,.slice none 0 0,.bool false]:=by have:=HB4.out;rw[hq] at this;exact this
 have hh:w4.heap=q.heap/\w4.os=q.os/\w4.output=q.output:=by rw[hq];exact⟨rfl,rfl,rfl⟩
 clear hq HB4;obtain⟨b10,h10⟩:∃ b10,b10=q.heap.size:=⟨_,rfl⟩;rw[<-h10]
 obtain ⟨w5,hw5,hb10,f1,f2,f3⟩:∃ w5,w5=(q.alloc (.cells #[.slice (some ⟨ab,0,none⟩) n n,.slice oA oL oc,.slice none 0 0,.bool stk] 31))/\Blk w5 b10 31 #[.slice (some ⟨ab,0,none⟩) n n,.slice oA oL oc,.slice none 0 0,.bool stk]/\(∀ b,b<w4.heap.size->w5.heap[b]?=w4.heap[b]?)/\w5.heap.size=w4.heap.size+1/\w5.os=w4.os/\w5.output=w4.output:=by
  refine⟨_,rfl,h10▸Blk.new q _ _,λb hb=>?_,?_,hh.2.1.symm,hh.2.2.symm⟩
  ·rw [hh.1] at hb ⊢;exact Below.heap_alloc _ _ _ hb
  ·rw [hh.1];simp
 rw[<-hw5];clear hw5;have hg10:w4.heap.size<=b10:=by rw[h10,hh.1];exact Nat.le_refl _
 have HG10:=qd hg10;have h84:b8<w4.heap.size:=by rw[hh.1];exact hb4.lt
 have hb8:Blk w5 b8 31 #[.slice none 0 0,.slice none 0 0,.slice none 0 0,.bool false]:=(f1 b8 h84).trans (by rw[hh.1];exact hb4);clear h10 hh hb4 hg10;refine Lg.move _ (λ_ _=>step_region_end) (λh=>h) ?_;refine Lg.move _ (λ_ _=>step_seq) (λh=>h) ?_;refine Lg.code λK hK p τ3 n3 hp=>?_;subst hp;have hb10:Blk p b10 _ _:=hb10;have hb8:Blk p b8 _ _:=hb8;have hrat5:SAt I R.m.s.1 p:=SAt.law I _ w4 p HX.out.2.1 λb hb=>f1 b (HX.out.2.2.2.2.2.2.2 b hb);have HF:=qd (And.intro f1 (And.intro f2 f3));have HB10:=qd hb10;have HB8:=qd hb8;have HRA:=qd hrat5;clear f1 f2 f3 hb10 hb8 hrat5
 go_wp2_with fail
 refine(solo_stateR p I _ HRA.out.s).mono ?_;rintro e w6 ⟨tv,rfl,ht,B6⟩;obtain⟨tA,tc,rfl⟩:=aQ ht;have hb10:Blk w6 b10 _ _:=HB10.out.below B6 HB10.out.lt;have c2:=hb10.cell 2;have z2:=hb10.frozen 2
 simp at c2
 have HT:=qd ht;have HB6:=qd B6;clear ht B6;have HBX:=qd hb10;clear hb10;go_wp2;refine hK _ _ (λh=>absurd h hs) ?_;clear hK K c2 z2;have hb8:Blk w6 b8 _ _:=HB8.out.below HB6.out HB8.out.lt;have hne:b8≠b10:=by have:=HG10.out;omega
 have hb10:=(HBX.out).set_ 2 (.slice tA (2+I.k+I.n+I.n) tc);have hb8:=hb8.far (p:=⟨b10,2,none⟩) hne (.slice tA (2+I.k+I.n+I.n) tc);simp only[zA] at hb10;obtain⟨w7,hw7,g1,g2,g3⟩:∃ w7,w7=w6.setCell ⟨b10,2,none⟩ (.slice tA (2+I.k+I.n+I.n) tc)/\(∀ b,b≠b10->w7.heap[b]?=w6.heap[b]?)/\w7.heap.size=w6.heap.size/\w7.os=w6.os/\w7.output=w6.output:=⟨_,rfl,λb hb=>Below.heap_setCell _ _ _ _ hb,by simp[World.setCell],rfl,rfl⟩;rw[<-hw7] at hb8 hb10 ⊢;clear hw7 HBX;refine Lg.move _ (λ_ _=>step_seq) (λh=>h) ?_;refine Lg.code λK hK v τ4 n4 hv=>?_;subst hv;have hb10:Blk v b10 _ _:=hb10;have hb8:Blk v b8 _ _:=hb8;have o0:=hb8.cell 0;have o1:=hb8.cell 1;have o2:=hb8.cell 2;have o3:=hb8.cell 3;have z0:=hb8.frozen 0;have z1:=hb8.frozen 1;have z2:=hb8.frozen 2;have z3:=hb8.frozen 3;have e0:=hb10.cell 0;have e1:=hb10.cell 1;have e2:=hb10.cell 2;have e3:=hb10.cell 3
 simp at o0 o1 o2 o3 e0 e1 e2 e3
 have HC8:=qd hb8;have HG:=qd (And.intro g1 (And.intro g2 g3));clear hb8 hb10 g1 g2 g3;go_wp2;refine hK _ _ (λh=>absurd h hs) ?_;clear hK K o0 o1 o2 o3 z0 z1 z2 z3 e0 e1 e2 e3;have hb8:=(((HC8.out.set_ 0 (.slice (some ⟨ab,0,none⟩) n n)).set_ 1 (.slice oA oL oc)).set_ 2 (.slice tA (2+I.k+I.n+I.n) tc)).set_ 3 (.bool stk);simp only[zA] at hb8
 obtain ⟨w9,hw9,k1,k2,k3⟩:∃ w9,w9=(((v.setCell ⟨b8,0,none⟩ (.slice (some ⟨ab,0,none⟩) n n)).setCell ⟨b8,1,none⟩ (.slice oA oL oc)).setCell ⟨b8,2,none⟩ (.slice tA (2+I.k+I.n+I.n) tc)).setCell ⟨b8,3,none⟩ (.bool stk)/\(∀ b,b≠b8->w9.heap[b]?=v.heap[b]?)/\w9.heap.size=v.heap.size/\w9.os=v.os/\w9.output=v.output:=
  ⟨_,rfl,λb hb=>by rw[Below.heap_setCell _ _ _ _ hb,Below.heap_setCell _ _ _ _ hb,Below.heap_setCell _ _ _ _ hb,Below.heap_setCell _ _ _ _ hb],by simp[World.setCell],rfl,rfl⟩
 rw[<-hw9] at hb8 ⊢;clear hw9 HC8;refine Lg.move _ (λ_ _=>step_ret) (λh=>h) ?_;refine Lg.leave rfl Try.func8 rfl (v:=.agg #[.slice (some ⟨ab,0,none⟩) n n,.slice oA oL oc,.slice tA (2+I.k+I.n+I.n) tc,.bool stk]) (λy τ n' hy=>?_) (HR.out _ _ _ ?_)
 ·have c0:y.cell? ⟨b8,0,none⟩=some (.slice (some ⟨ab,0,none⟩) n n):=by have:=hb8.cell 0;rw[hy] at this;exact this
  have c1:y.cell? ⟨b8,1,none⟩=some (.slice oA oL oc):=by have:=hb8.cell 1;rw[hy] at this;exact this
  have c2:y.cell? ⟨b8,2,none⟩=some (.slice tA (2+I.k+I.n+I.n) tc):=by have:=hb8.cell 2;rw[hy] at this;exact this
  have c3:y.cell? ⟨b8,3,none⟩=some (.bool stk):=by have:=hb8.cell 3;rw[hy] at this;exact this
  simp[results,Try.f8,go_sem,c0,c1,c2,c3]
 obtain⟨hans,hrat,hov,hBa,hoL,hst,hH,hltB⟩:=HX.out;obtain⟨f1,f2,f3⟩:=HF.out;obtain⟨g1,g2,g3⟩:=HG.out;have b6:=HB6.out;have hG:=HG10.out;have hge:=HGE.out;have h8:=HZ2.out;have hops:=HOPS.out;have ho:=HO.out;have soloZero:=ho.size;have s1:=hops.size;have s6:=b6.size;have f2:p.heap.size=w4.heap.size+1:=f2;have g2:v.heap.size=w6.heap.size:=g2;have l8:=HB.out.lt;subst hoL
 have far:∀ b,b<w4.heap.size->b≠b8->w9.heap[b]?=w4.heap[b]?:=λb h1 h2=>by
  rw[k1 b h2,show v.heap[b]?=w6.heap[b]? from g1 b (by omega),b6.block b (by omega)];exact f1 b h1
 have nbi:∀ b,b<w0.heap.size->¬soB I b:=λb hb e=>by have:=hge b e;omega
 have nb8:¬H b8:=hH b8 _ _ (0,0) (.inr ⟨by decide,λe=>by have:=hge _ e;omega⟩) HB.out
 have hlt:∀ b,H b/\¬soB I b->b<w4.heap.size:=λb hb=>by
  obtain⟨c,t,r,h1,_⟩:=hans.near b hb;exact aB h1
 refine⟨⟨ab,.slice oA R.order.length oc,.slice tA (2+I.k+I.n+I.n) tc,_,by omega,by rw[hst],?_,?_,hans.same λb hb=>far b (hlt b hb) (λe=>nb8 (e▸hb.1)),λb c t r hc hb hH2=>?_,λb hb hb2=>?_⟩,by omega,λb c t r hc hb=>?_,?_⟩
 ·refine eD (bT hov λb hb=>?_) (show w0.heap.size<=u.heap.size by omega)
  rcases hov.2 with⟨e,_⟩ | ⟨g',cp2,cur,e,hg2,hh2,_⟩
  ·rw [e] at hb;simp[Value.ownBlock] at hb
  ·rw [e] at hb
   simp only[Value.ownBlock,Option.some.injEq] at hb;subst hb;exact far _ (aB hh2) (by omega)
 ·refine eD (bT HT.out λb hb=>?_) (show w0.heap.size<=p.heap.size by omega)
  rcases HT.out.2 with⟨e,_⟩ | ⟨g',cp2,cur,e,hg2,hh2,_⟩
  ·rw [e] at hb;simp[Value.ownBlock] at hb
  ·rw [e] at hb
   simp only[Value.ownBlock,Option.some.injEq] at hb;subst hb;have:=HB10.out.lt;rw[k1 _ (by omega)];exact g1 _ (by omega)
 ·have hb0:=aB hb
  exact hH b c t r (hc.imp id λz=>⟨z,nbi b hb0⟩) ((ho.block b hb0).trans hb) hH2.1
 ·rcases HT.out.2 with⟨e,_⟩ | ⟨g',cp2,cur,e,hg2,hh2,_⟩
  ·rw [e] at hb;simp[Value.ownBlock] at hb
  ·rw [e] at hb
   simp only[Value.ownBlock,Option.some.injEq] at hb;subst hb;have:=hlt _ hb2
   omega
 ·have h1:=aB hb
  have h2:=hops.near b c t r (hc.imp id λz=>⟨z,nbi b h1⟩) ((ho.block b h1).trans hb);rw[far b (aB h2) (by omega)];exact h2
 ·exact ⟨k3.1.trans (g3.1.trans (b6.os.trans (f3.1.trans (hops.io.1.trans ho.io.1)))),k3.2.trans (g3.2.trans (b6.output.trans (f3.2.trans (hops.io.2.trans ho.io.2))))⟩
def noneI:Inner:={ A:=Unit,At:=λ_ _=>True,BI:=λ_=>False,at_:=λ_ _ _ h _=>h }
def doN (_:Nat):DoQ Unit:=λ_ st k=>k ⟨false,0,[]⟩ st
theorem doN_sound {n:Nat}{ops:Nat->List OpI}(hg:∀ i,i<n->∀ o∈ops i,SG o) (B:OpsB) (hn:B.n=n) (hB:B.ops=ops):oV (brT (B.on noneI SG) doN) n ((),λ_=>[]):=
 sound_of_ok (I:=noneI) (good:=SG) (a0:=()) hg B (λi o _ σ k h=>h _ σ rfl) hn hB
theorem solo_playB (hP:Prog Try.prog) (Post:Value->World->Prop) (W0:World) (a b:Int) (hbad:¬fits a\/b<0\/64<b)
  (tA:Option Addr) (Tb To nt cp:Nat) (htA:0<nt->tA=some ⟨Tb,To,none⟩) (hnt:nt<=maxLen) (A:Nat->Option Addr) (len cap:Nat->Nat) (ops:Nat->List OpI) (sv:Value) (xs:List Int) (most:Int) (w0:World) (hW:W0.heap.size<=w0.heap.size)
  (hrows:RowsAt w0 Tb To (min nt 64) A len cap) (hin:OpsCells W0 SG w0 (min nt 64) A len ops) (hsch:SchI W0 sv xs (λb=>∃ i o,i<min nt 64/\A i=some ⟨b,o,none⟩) w0) :
  Ccalls (lgA hP Post W0) 8 #[.int .i64 a,.int .i64 b,.slice tA nt cp,sv,.int .i64 most] () w0 λv _ w'=>PlayG W0 0 (λ_=>[]) (bI (brQ doN ops) (min nt 64) (cH most 1048576).toNat xs ((),λ_=>[])) (min nt 64) w0 v w':=by
 intro c mid hR;have HR:=qd hR;clear hR;have HBAD:=qd hbad;clear hbad;have hs:¬(lgA hP Post W0).strict:=λh=>h;rw[show Frame.enter Try.prog 8 #[.int .i64 a,.int .i64 b,.slice tA nt cp,sv,.int .i64 most] .normal=Frame.at { (default:Frame) with fn:=8,kind:=.normal } ⟨#[.int .i64 a,.int .i64 b,.slice tA nt cp,sv,.int .i64 most]++Array.replicate (Try.f8.ntmps-5) undef,[]⟩ [.code (Try.f8.body.getD .skip)] from by simp[Frame.enter,Frame.at,Try.func8];rfl];simp only[Try.f8,Option.getD_some,Nat.reduceSub,Array.replicate_succ,Array.replicate_zero,List.push_toArray,List.append_toArray,List.nil_append,List.cons_append];refine Lg.move _ (λ_ _=>step_seq) (λh=>h) ?_;refine Lg.code λK hK y τ n' hy=>?_;have hold:Old w0.heap.size w0 y:=by rw[hy];exact(Old.refl _ (y.re τ n')).re
 have hsz:y.heap.size=w0.heap.size:=by rw[hy];rfl
 clear hy;go_wp2;refine hK _ _ (λh=>absurd h hs) ?_;clear hK K;have hold1:=hold.new (show w0.heap.size<=y.heap.size by omega) (.cells #[.slice none 0 0,.slice none 0 0,.slice none 0 0,.bool false] 31);have hb8:=Blk.new y 31 #[.slice none 0 0,.slice none 0 0,.slice none 0 0,.bool false];have hsz1:(y.alloc (.cells #[.slice none 0 0,.slice none 0 0,.slice none 0 0,.bool false] 31)).heap.size=w0.heap.size+1:=by simp[hsz]
 rw[hsz] at hb8;generalize y.alloc (.cells #[.slice none 0 0,.slice none 0 0,.slice none 0 0,.bool false] 31)=w1 at hb8 hold1 hsz1 ⊢;obtain⟨b8,h8⟩:∃ b8,b8=w0.heap.size:=⟨_,rfl⟩;rw[<-h8] at hb8 ⊢;have HZ2:=qd h8;clear h8 hsz hold;refine Lg.move _ (λ_ _=>step_seq) (λh=>h) ?_;refine Lg.code λK hK z τ n' hz=>?_;subst hz;have hold1:=hold1.re;have hb8:Blk z b8 _ _:=hb8;have hsz1:z.heap.size=w0.heap.size+1:=hsz1;have HOLD:=qd hold1;have HB8:=qd hb8;have HZ:=qd hsz1;clear hold1 hb8 hsz1
 go_wp2_with fail
 refine(rD a b z HBAD.out).mono ?_;rintro e w2 ⟨rfl,bw2⟩;dsimp only;have hold2:=HOLD.out.below bw2 (by have:=HZ.out;omega);have hb8:Blk w2 b8 _ _:=HB8.out.below bw2 HB8.out.lt;have hin2:OpsIn W0 noneI SG () w2 (min nt 64) A len ops:=hin.opsIn hold2 trivial (λb hb=>hb.elim) λ_ h=>h;have hrows2:=hrows.later hold2;have hsch2:SchI W0 sv xs (λb=>noneI.BI b\/∃ i o,i<min nt 64/\A i=some ⟨b,o,none⟩) w2:=hsch.later hold2 λb hb hz=>hz.elim (λh=>h.elim) id;have HIN:=qd hin2;have HRO:=qd hrows2;have HSC:=qd hsch2;have HO2:=qd hold2;have HB2:=qd hb8;clear hin hin2 hrows hrows2 hsch hsch2 hold2 hb8 bw2 HOLD HB8 HZ;go_wp2;refine hK _ _ (λh=>absurd h hs) ?_;clear hK K;refine Lg.move _ (λ_ _=>step_seq) (λh=>h) ?_;refine Lg.move _ (λ_ _=>step_seq) (λh=>h) ?_;refine Lg.code λK hK y3 τ n' hy=>?_;subst hy;have hin2:OpsIn W0 noneI SG () y3 (min nt 64) A len ops:=HIN.out.later (w0:=y3.re τ n') (Old.refl _ (y3.re τ n')).re;have hrows2:=HRO.out.later (w0:=y3.re τ n') (Old.refl _ (y3.re τ n')).re;have hsch2:=HSC.out.later (w0:=y3.re τ n') (Old.refl _ (y3.re τ n')).re (λ_ _ h=>h);have hold2:=HO2.out.re;have hb8:Blk y3 b8 _ _:=HB2.out;clear HIN HRO HSC HO2 HB2;have HIN:=qd hin2;have HRO:=qd hrows2;have HSC:=qd hsch2;have HO2:=qd hold2;have HB2:=qd hb8;clear hin2 hrows2 hsch2 hold2 hb8;go_wp2;refine hK _ _ (λh=>absurd h hs) ?_;clear hK K;refine Lg.aI _ rfl ?_;refine Lg.move _ (λ_ _=>step_seq) (λh=>h) ?_;refine Lg.move _ (λ_ _=>step_region) (λh=>h) ?_;refine Lg.pre 0 3 2 (by simp) λK hK u τ n' hu=>?_;subst hu;have hin2:OpsIn W0 noneI SG () u (min nt 64) A len ops:=HIN.out.later (w0:=u.re τ n') (Old.refl _ (u.re τ n')).re;have hrows2:=HRO.out.later (w0:=u.re τ n') (Old.refl _ (u.re τ n')).re;have hsch2:=HSC.out.later (w0:=u.re τ n') (Old.refl _ (u.re τ n')).re (λ_ _ h=>h);have hold2:=HO2.out.re;have hb8:Blk u b8 _ _:=HB2.out;have HIN2:=qd hin2;have HRO2:=qd hrows2;have HSC2:=qd hsch2;have HO:=qd hold2;have HB:=qd hb8;clear hin2 hrows2 hsch2 hold2 hb8 HIN HRO HSC HO2 HB2;simp only[zC];go_wp2;refine hK _ _ (λh=>absurd h hs) ?_;clear hK K;have hops:=nR hP Post W0 noneI SG () doN tA Tb To nt cp htA hnt .nilFunc (λ_ h=>by cases h) A len cap ops sv xs most u (by have:=HO.out.size;omega) (λb h=>h.elim) HRO2.out HIN2.out HSC2.out (λB i _=>.nil rfl rfl) (λB hn hB=>doN_sound HIN2.out.good B hn hB);refine Lg.call (i:=3) (rest:=[4]) (f:=19) (args:=#[.slice tA nt cp,.nilFunc,sv,.int .i64 most]) rfl rfl (λy=>by go_simp) hops ?_;rintro vv t'' w4 hdone;have HOPS:=qd hdone;obtain⟨B,ov,hBn,hBo,hBa,hvv0,hov0,H,hrep,hH⟩:=hdone.ex;clear hdone hops;obtain⟨R,hR⟩:∃ R:Run (Unit × (Nat->List Ans)),R=bI (brQ doN ops) (min nt 64) (cH most 1048576).toNat xs ((),λ_=>[]):=⟨_,rfl⟩
 have eR:bI (brT (B.on noneI SG) doN) (min nt 64) (cH most 1048576).toNat xs ((),λ_=>[])=R:=by
  rw[hR];exact congrArg (λb=>bI b (min nt 64) (cH most 1048576).toNat xs ((),λ_=>[])) ((br_q (I:=noneI) (good:=SG) B doN).trans (by rw[hBo];rfl))
 have key:∀ R':Run (Unit × (Nat->List Ans)),bI (brT (B.on noneI SG) doN) (min nt 64) (cH most 1048576).toNat xs ((),λ_=>[])=R'->vv=.agg #[.slice (some ⟨B.ab,0,none⟩) (min nt 64:Nat) (min nt 64:Nat),ov,.slice none 0 0,.bool (decide (0<R'.m.left (min nt 64)))]/\w4.ownsRow u.heap.size 3 1 ov R'.order.length (R'.order.map (Value.int .i64))/\AnsAll w4 B.ab B.n R'.m.s.2 (λb=>H b/\¬noneI.BI b):=by
  rintro _ rfl;exact⟨hvv0,hov0,hrep.answers⟩
 obtain⟨hvv,hov,hans⟩:=key R eR;rw[<-hR] at HR;rw[hBn] at hans;obtain⟨stk,hst⟩:∃ stk:Bool,stk=decide (0<R.m.left (min nt 64)):=⟨_,rfl⟩;rw[<-hst] at hvv;clear key hrep eR hvv0 hov0 hBo;have HRR:=qd hR;clear hR;generalize min nt 64=n at *;obtain⟨oA,oc,rfl⟩:=aQ hov;obtain⟨oL,hoL⟩:∃ oL,oL=R.order.length:=⟨_,rfl⟩;rw[<-hoL] at hvv;obtain⟨ab,hab⟩:∃ ab,ab=B.ab:=⟨_,rfl⟩;rw[<-hab] at hvv hBa hans;subst hvv;have HX:=qd (And.intro hans (And.intro hov (And.intro hBa (And.intro hoL (And.intro hst hH)))));have hb8:Blk w4 b8 _ _:=HOPS.out.near b8 _ _ (0,0) (.inr ⟨by decide,λz=>z.elim⟩) HB.out;clear hans hov hBa hoL hst hH;have HB4:=qd hb8;clear hb8 hab;rw[Frame.finish_at];walk_nrm;refine(show (lgA hP Post W0).T _ (Frame.at _ ⟨_,[]⟩ (.inRegion _ (List.range' 4 (1+0))::_)) (c::mid) w4 from ?_);refine Lg.pre 4 1 0 (by simp) λK hK v τ2 n2 hv=>?_;subst hv;have hb8:Blk v b8 _ _:=HB4.out;clear HB4;have o0:=hb8.cell 0;have o1:=hb8.cell 1;have o2:=hb8.cell 2;have o3:=hb8.cell 3;have z0:=hb8.frozen 0;have z1:=hb8.frozen 1;have z2:=hb8.frozen 2;have z3:=hb8.frozen 3
 simp at o0 o1 o2 o3
 have HC8:=qd hb8;clear hb8;simp only[zC];go_wp2;refine hK _ _ (λh=>absurd h hs) ?_;clear hK K o0 o1 o2 o3 z0 z1 z2 z3;have hb8:=(((HC8.out.set_ 0 (.slice (some ⟨ab,0,none⟩) n n)).set_ 1 (.slice oA oL oc)).set_ 2 (.slice none 0 0)).set_ 3 (.bool stk);simp only[zA] at hb8
 obtain ⟨w9,hw9,k1,k2,k3⟩:∃ w9,w9=(((v.setCell ⟨b8,0,none⟩ (.slice (some ⟨ab,0,none⟩) n n)).setCell ⟨b8,1,none⟩ (.slice oA oL oc)).setCell ⟨b8,2,none⟩ (.slice none 0 0)).setCell ⟨b8,3,none⟩ (.bool stk)/\(∀ b,b≠b8->w9.heap[b]?=v.heap[b]?)/\w9.heap.size=v.heap.size/\w9.os=v.os/\w9.output=v.output:=
  ⟨_,rfl,λb hb=>by rw[Below.heap_setCell _ _ _ _ hb,Below.heap_setCell _ _ _ _ hb,Below.heap_setCell _ _ _ _ hb,Below.heap_setCell _ _ _ _ hb],by simp[World.setCell],rfl,rfl⟩
 rw[<-hw9] at hb8 ⊢;clear hw9 HC8;refine Lg.move _ (λ_ _=>step_region_end) (λh=>h) ?_;refine Lg.move _ (λ_ _=>step_ret) (λh=>h) ?_;refine Lg.leave rfl Try.func8 rfl (v:=.agg #[.slice (some ⟨ab,0,none⟩) n n,.slice oA oL oc,.slice none 0 0,.bool stk]) (λy τ n' hy=>?_) (HR.out _ _ _ ?_)
 ·have c0:y.cell? ⟨b8,0,none⟩=some (.slice (some ⟨ab,0,none⟩) n n):=by have:=hb8.cell 0;rw[hy] at this;exact this
  have c1:y.cell? ⟨b8,1,none⟩=some (.slice oA oL oc):=by have:=hb8.cell 1;rw[hy] at this;exact this
  have c2:y.cell? ⟨b8,2,none⟩=some (.slice none 0 0):=by have:=hb8.cell 2;rw[hy] at this;exact this
  have c3:y.cell? ⟨b8,3,none⟩=some (.bool stk):=by have:=hb8.cell 3;rw[hy] at this;exact this
  simp[results,Try.f8,go_sem,c0,c1,c2,c3]
 obtain⟨hans,hov,hBa,hoL,hst,hH⟩:=HX.out;have h8:=HZ2.out;have hops:=HOPS.out;have ho:=HO.out;have s0:=ho.size;have s1:u.heap.size<=v.heap.size:=hops.size;have l8:=HB.out.lt;subst hoL;have far:∀ b,b≠b8->w9.heap[b]?=v.heap[b]?:=λb h2=>k1 b h2;have nb8:¬H b8:=hH b8 _ _ (0,0) (.inr ⟨by decide,λe=>e.elim⟩) HB.out;refine⟨⟨ab,.slice oA R.order.length oc,.slice none 0 0,_,by omega,by rw[hst],?_,World.ownsRow_nil _ _ _ _,hans.same λb hb=>far b (λe=>nb8 (e▸hb.1)),λb c t r hc hb hH2=>?_,λb hb hb2=>?_⟩,by omega,λb c t r hc hb=>?_,?_⟩
 ·refine eD (bT hov λb hb=>far b ?_) (show w0.heap.size<=u.heap.size by omega)
  rcases hov.2 with⟨e,_⟩ | ⟨g',cp2,cur,e,hg2,hh2,_⟩
  ·rw [e] at hb;simp[Value.ownBlock] at hb
  ·rw [e] at hb
   simp only[Value.ownBlock,Option.some.injEq] at hb
   omega
 ·have hb0:=aB hb
  exact hH b c t r (hc.imp id λz=>⟨z,λe=>e.elim⟩) ((ho.block b hb0).trans hb) hH2.1
 ·simp [Value.ownBlock] at hb
 ·have h1:=aB hb
  have h2:=hops.near b c t r (hc.imp id λz=>⟨z,λe=>e.elim⟩) ((ho.block b h1).trans hb);rw[far b (by omega)];exact h2
 ·exact ⟨k3.1.trans (hops.io.1.trans ho.io.1),k3.2.trans (hops.io.2.trans ho.io.2)⟩
end Go.Proofs.Ytlcplealnbekeaa
