/- DERIVED. The document's machine of layer 12, walked: a run in which no operation does anything; Play at a size that can't be. -/
import Derived.Test.YtlcplealnbekeaaGm
import Derived.Test.YtlcplealnbekeaaGn
import Derived.Test.YtlcplealnbekeaaGi
import Derived.Test.YtlcplealnbekeaaGo
set_option linter.unusedVariables false
set_option linter.unusedSectionVars false
set_option linter.unusedSimpArgs false
set_option maxHeartbeats 4000000
set_option maxRecDepth 100000
namespace Go.Proofs.Ytlcplealnbekeaa
open Go.RowKit Go.Turn
open Go.ConcN (upd upd_ne upd_same)
theorem read50_ok {B mb:Nat}{tb:Nat->Nat}{st:RS}{V:Rt->Value}{w:World}{i:Nat}(h:Mems B (aY mb tb st V) w) (hB:B<=w.heap.size) (hi:i<st.n) (hok:st.Ok) {o:OpI}(ho:(st.ops i)[st.at_ i]?=some o) (ha:RS.At st i o) {r:Nat}(hr:i=r+1) (hp:st.pc i=50):Calls Try.prog 53 #[.pointer (some ⟨mb,0,none⟩),.pointer (some ⟨tb i,0,none⟩),.int .i64 r] w λx w'=>x=.returned (.tuple #[])/\SMem B mb tb (st.read i o) w'/\Below B w w':=by
 have hpc5:st.pc i=50\/st.pc i=51\/st.pc i=52\/st.pc i=53\/st.pc i=54:=by omega
 have hBt:B<=tb i:=(h.lt (r:=.th i) (gth hi) (b:=tb i) rfl).1;have hBm:B<=mb:=(h.lt (r:=.box) rfl (b:=mb) rfl).1;have hx:=hok.x i;have hat0:=(List.getElem?_eq_some_iff.1 ho).1;have hlen:=hok.len i hi;have hat:st.at_ i<65536:=by omega
 have hans:(st.ans i).length<65536:=by rw[hok.ans i hi];exact hat
 have s0:=hok.s0;have s1:=hok.s1
 obtain ⟨hrd,hN1,hN2,h50,h53,h54⟩:r<st.rd/\1<=st.N i 0/\st.N i 0<=2147483647/\(st.pc i=50->st.L i=[])/\(51<=st.pc i->st.pc i<=53->st.place r+1+(st.L i).length<=st.N i 4/\st.N i 4<4611686018427387904/\((st.L i).length:Int)<st.N i 0)/\(st.pc i=54->st.L i≠[]/\st.place r+(st.L i).length<4611686018427387904/\((st.L i).length:Int)<=st.N i 0):=by
  cases ha with
  | look q=>omega
  | put q=>omega
  | pub q=>omega
  | get _ q1 q2 _ q3 q4 q5 q6 q7=>exact⟨by omega,q3,q4,q5,by rw[show i-1=r by omega] at q6;exact q6,by rw[show i-1=r by omega] at q7;exact q7⟩
 obtain⟨p0,p1⟩:=hok.pl r hrd;obtain⟨sb,sc,hS,hsc,hsm⟩:=srow h s0;obtain⟨vb,vc,hV,hvc,hvm⟩:=vrow h s0;obtain⟨pb,pc_,hP,hpc,hpm⟩:=bS h (r:=.Pl) (e:=2) (sz:=1) (v:=V .Pl) (n:=st.rd) (f:=λj=>.int .i64 (st.place j)) rfl (by omega);obtain⟨nb,nc,hN,hnc,hnm⟩:=bS h (r:=.Nu) (e:=2) (sz:=1) (v:=V .Nu) (n:=st.rd) (f:=λj=>.int .i64 (st.num j)) rfl (by omega);obtain⟨lA,lc,hL⟩:=lrow h hi;have hSr:aY mb tb st V .S=some ⟨2,1,.slice (some ⟨sb,0,none⟩) st.size sc,st.size,λj=>.int .i64 (st.S j)⟩:=by rw[<-hS];rfl
 have hVr:aY mb tb st V .V=some ⟨2,1,.slice (some ⟨vb,0,none⟩) st.size vc,st.size,λj=>.int .i64 (st.V j)⟩:=by rw[<-hV];rfl
 have hPr:aY mb tb st V .Pl=some ⟨2,1,.slice (some ⟨pb,0,none⟩) st.rd pc_,st.rd,λj=>.int .i64 (st.place j)⟩:=by rw[<-hP];rfl
 have hNr:aY mb tb st V .Nu=some ⟨2,1,.slice (some ⟨nb,0,none⟩) st.rd nc,st.rd,λj=>.int .i64 (st.num j)⟩:=by rw[<-hN];rfl
 obtain⟨hBp,-⟩:=dT h hPr;obtain⟨hBn,-⟩:=dT h hNr;have hth:=gth (R:=bQ tb st V) (G:=bxF st V) (F:=tdF st V) (mb:=mb) (tb:=tb) hi;have hne1:¬tb i=mb:=λz=>cD h (r:=.box) (r':=.th i) rfl hth (by simp) (b:=mb) rfl (by rw[<-z];rfl);have hne2:¬mb=tb i:=λz=>hne1 z.symm;have npt:¬pb=tb i:=λz=>cD h hPr hth (by simp) (b:=pb) rfl (by rw[z];rfl);have npt':¬tb i=pb:=λz=>npt z.symm
 have hl31:((st.L i).length:Int)<=2147483647:=by
  rcases hpc5 with z | z | z | z | z
  ·rw [h50 z];decide
  ·have:=(h53 (by omega) (by omega)).2.2;omega
  ·have:=(h53 (by omega) (by omega)).2.2;omega
  ·have:=(h53 (by omega) (by omega)).2.2;omega
  ·have:=(h54 z).2.2;omega
 obtain⟨q,hq⟩:∃ q,q=st.place r+1+((st.L i).length:Int):=⟨_,rfl⟩;have q0:0<=q:=by omega
 have q1:q<4611686020574871552:=by omega
 obtain⟨k,hk⟩:∃ k:Nat,q%(st.size:Int)=k:=⟨(q%(st.size:Int)).toNat,by have:=Int.emod_nonneg q (show (st.size:Int)≠0 by omega);omega⟩;have hks:k<st.size:=by have:=Int.emod_lt_of_pos q (show (0:Int)<st.size by omega);omega
 obtain⟨l,hl⟩:∃ l,l=q / (st.size:Int):=⟨_,rfl⟩;have l0:0<=l:=by rw[hl];exact Int.ediv_nonneg q0 (by omega)
 have ll:l<=q:=by rw[hl];exact Int.ediv_le_self _ q0
 have HM:=qd (And.intro h (Below.refl B w));have HX:=qd hx;have HOK:=qd hok;have HO:=qd ho;have HA:=qd ha;have HR:=qd (And.intro hS (And.intro hV (And.intro hP (And.intro hN hL))));have HH:=qd (And.intro h50 (And.intro h53 h54));have HI:=qd (And.intro hr hq);obtain⟨sf,hsf⟩:∃ sf,sf=st.read i o:=⟨_,rfl⟩;rw[<-hsf];have hsf2:sf=st.read i o:=hsf;unfold RS.read at hsf2;dsimp only at hsf2;rw[show i-1=r by omega,<-hq,hk,<-hl] at hsf2;simp only[Int.toNat_natCast] at hsf2;have HF:=qd hsf2
 have ez:((st.size:Int)==0)=false:=by
  have:(st.size:Int)≠0:=by omega
  simpa using this
 have em:Int.tmod q (st.size:Int)=(k:Int):=by rw[Int.tmod_eq_emod_of_nonneg q0,hk]
 have ed:Int.tdiv q (st.size:Int)=l:=by rw[Int.tdiv_eq_ediv_of_nonneg q0,<-hl]
 have HQ:=qd (show st.place r+1+((st.L i).length:Int)=q from hq.symm);clear h hx ho ha hS hV hP hN hL hSr hVr hPr hNr hk hl hsf hsf2 hok hth h50 h53 h54 hr hq
 go_enter Try.func53,Try.ntmps53
 have m8:w.cell? ⟨mb,8,none⟩=some (.slice (some ⟨pb,0,none⟩) st.rd pc_):=by rw[bD HM.out.1 8 (by omega)];exact congrArg some HR.out.2.2.1
 have cP:w.cell? ⟨pb,r,none⟩=some (.int .i64 (st.place r)):=HM.out.1.cell (r:=.Pl) (e:=2) (sz:=1) (cap:=pc_) (n:=st.rd) (f:=λj=>.int .i64 (st.place j)) (by rw[<-HR.out.2.2.1];rfl) (by omega);have t11:w.cell? ⟨tb i,11,none⟩=some (.slice lA (st.L i).length lc):=by rw[aS HM.out.1 hi 11 (by omega)];exact congrArg some HR.out.2.2.2.2
 go_wp2;rename_i K0 hK0
 go_quiet (fail)
 rw[HQ.out];replace HM:=qd (And.intro (HM.out.1.drewN nq) (HM.out.2.trans (Below.drewN (Below.refl B _) nq)));generalize World.drewN _ nq=w1 at *;refine hK0 _ _ ?_;clear hK0 K0 m8 cP t11;have m0:=bD HM.out.1 0 (by omega)
 simp[bxF,RS.setN,RS.stand] at m0
 have t2:w1.cell? ⟨tb i,2,none⟩=some (.int .i64 50):=by rw[aS HM.out.1 hi 2 (by omega)];simp[tdF,hp]
 have HE:=qd (HF.out.trans (if_pos hp));have HP:=qd hp;clear hp hpc5;have m3:=bD HM.out.1 3 (by omega)
 simp[bxF,RS.setN,RS.stand] at m3
 go_wp2;rename_i K0 hK0;refine aR 8 (by kernel_rfl) (by kernel_rfl) (by kernel_rfl) (by kernel_rfl) ?_;simp only[idle,zB,Nat.reduceAdd]
 repeat (go_big_quiet_step (fail))
 refine wpQuiet_nil ?_;rintro _ ⟨nq,rfl⟩;refine aX (m:=8) rfl ?_;replace HM:=qd (And.intro (HM.out.1.drewN nq) (HM.out.2.trans (Below.drewN (Below.refl B _) nq)));generalize World.drewN _ nq=w2 at *;clear m0 m3;have t7:=aS HM.out.1 hi 7 (by omega)
 simp[tdF,RS.setN,RS.stand,upd] at t7
 have z7:=bC HM.out.1 hi 7;have u2:=aS HM.out.1 hi 2 (by omega);have z2:=bC HM.out.1 hi 2;simp only[tdF] at u2;go_wp2;clear t7 z7 u2 z2 t2;have hm0:=sPc (sN HM.out.1 hi 4 (by omega) st.cur) hi 51;have bw:=(HM.out.2.setCell (p:=⟨tb i,7,none⟩) hBt (.int .i64 st.cur)).setCell (p:=⟨tb i,2,none⟩) hBt (.int .i64 51);have HM5:Hid (Mems B (aY mb tb ((st.setN i 4 st.cur).stand i 51) V) ((w2.setCell ⟨tb i,7,none⟩ (.int .i64 st.cur)).setCell ⟨tb i,2,none⟩ (.int .i64 51))/\Below B w ((w2.setCell ⟨tb i,7,none⟩ (.int .i64 st.cur)).setCell ⟨tb i,2,none⟩ (.int .i64 51))):=qd (And.intro hm0 bw);clear HM hm0 bw;have HM:=HM5;clear HM5;generalize (w2.setCell ⟨tb i,7,none⟩ (.int .i64 st.cur)).setCell ⟨tb i,2,none⟩ (.int .i64 51)=w3 at *;have t7:=aS HM.out.1 hi 7 (by omega)
 simp[tdF,RS.setN,RS.stand,upd] at t7
 have m8:w3.cell? ⟨mb,8,none⟩=some (.slice (some ⟨pb,0,none⟩) st.rd pc_):=by rw[bD HM.out.1 8 (by omega)];exact congrArg some HR.out.2.2.1
 have cP:w3.cell? ⟨pb,r,none⟩=some (.int .i64 (st.place r)):=HM.out.1.cell (r:=.Pl) (e:=2) (sz:=1) (cap:=pc_) (n:=st.rd) (f:=λj=>.int .i64 (st.place j)) (by rw[<-HR.out.2.2.1];rfl) (by omega);rename_i K0 hK0
 by_cases c:st.cur<=st.place r
 ·have d1:decide (st.cur<=st.place r)=true:=decide_eq_true c
  have HE2:Hid (sf=((st.setN i 4 st.cur).stand i 51).end_ i ⟨false,4,[]⟩):=qd (by have e:=HE.out;rw[if_pos c] at e;exact e);clear c
  go_quiet (fail)
  replace HM:=qd (And.intro (HM.out.1.drewN nq) (HM.out.2.trans (Below.drewN (Below.refl B _) nq)));generalize World.drewN _ nq=w4 at *;refine hK0 _ _ ?_;clear hK0 K0 t7 m8 cP
  go_wp2_with fail
  refine(bN HM.out.1 (Nat.le_trans hB HM.out.2.size) hi hat hans ⟨false,4,[]⟩ nilS ⟨none,0,rfl⟩ (.inl ⟨rfl,rfl⟩)).mono ?_;rintro x w9 ⟨rfl,h2,b2⟩;have H2:=qd (And.intro h2 (HM.out.2.trans b2));clear h2 b2;go_wp2
  go_end0
  exact⟨rfl,HE2.out▸H2.out⟩
 ·have d1:decide (st.cur<=st.place r)=false:=decide_eq_false c
  have HE2:Hid (sf=(st.setN i 4 st.cur).stand i 51):=qd (by have e:=HE.out;rw[if_neg c] at e;exact e);clear c
  go_quiet (fail)
  replace HM:=qd (And.intro (HM.out.1.drewN nq) (HM.out.2.trans (Below.drewN (Below.refl B _) nq)));generalize World.drewN _ nq=w4 at *;refine hK0 _ _ ?_;clear hK0 K0 t7 m8 cP;go_wp2
  go_end0
  exact⟨rfl,⟨V,HE2.out▸HM.out.1⟩,HM.out.2⟩
end Go.Proofs.Ytlcplealnbekeaa
namespace Go.Proofs.Ytlcplealnbekeaa
open Go.RowKit Go.Turn
open Go.ConcN (upd upd_ne upd_same)
theorem RS.refused_N (m:RS) (i:Nat) (e:Int):(m.refused i e).N=m.N/\(m.refused i e).n=m.n:=by
 unfold RS.refused
 split <;> exact⟨rfl,rfl⟩
theorem read51_ok {B mb:Nat}{tb:Nat->Nat}{st:RS}{V:Rt->Value}{w:World}{i:Nat}(h:Mems B (aY mb tb st V) w) (hB:B<=w.heap.size) (hi:i<st.n) (hok:st.Ok) {o:OpI}(ho:(st.ops i)[st.at_ i]?=some o) (ha:RS.At st i o) {r:Nat}(hr:i=r+1) (hp:st.pc i=51):Calls Try.prog 53 #[.pointer (some ⟨mb,0,none⟩),.pointer (some ⟨tb i,0,none⟩),.int .i64 r] w λx w'=>x=.returned (.tuple #[])/\SMem B mb tb (st.read i o) w'/\Below B w w':=by
 have hpc5:st.pc i=50\/st.pc i=51\/st.pc i=52\/st.pc i=53\/st.pc i=54:=by omega
 have hBt:B<=tb i:=(h.lt (r:=.th i) (gth hi) (b:=tb i) rfl).1;have hBm:B<=mb:=(h.lt (r:=.box) rfl (b:=mb) rfl).1;have hx:=hok.x i;have hat0:=(List.getElem?_eq_some_iff.1 ho).1;have hlen:=hok.len i hi;have hat:st.at_ i<65536:=by omega
 have hans:(st.ans i).length<65536:=by rw[hok.ans i hi];exact hat
 have s0:=hok.s0;have s1:=hok.s1
 obtain ⟨hrd,hN1,hN2,h50,h53,h54⟩:r<st.rd/\1<=st.N i 0/\st.N i 0<=2147483647/\(st.pc i=50->st.L i=[])/\(51<=st.pc i->st.pc i<=53->st.place r+1+(st.L i).length<=st.N i 4/\st.N i 4<4611686018427387904/\((st.L i).length:Int)<st.N i 0)/\(st.pc i=54->st.L i≠[]/\st.place r+(st.L i).length<4611686018427387904/\((st.L i).length:Int)<=st.N i 0):=by
  cases ha with
  | look q=>omega
  | put q=>omega
  | pub q=>omega
  | get _ q1 q2 _ q3 q4 q5 q6 q7=>exact⟨by omega,q3,q4,q5,by rw[show i-1=r by omega] at q6;exact q6,by rw[show i-1=r by omega] at q7;exact q7⟩
 obtain⟨p0,p1⟩:=hok.pl r hrd;obtain⟨sb,sc,hS,hsc,hsm⟩:=srow h s0;obtain⟨vb,vc,hV,hvc,hvm⟩:=vrow h s0;obtain⟨pb,pc_,hP,hpc,hpm⟩:=bS h (r:=.Pl) (e:=2) (sz:=1) (v:=V .Pl) (n:=st.rd) (f:=λj=>.int .i64 (st.place j)) rfl (by omega);obtain⟨nb,nc,hN,hnc,hnm⟩:=bS h (r:=.Nu) (e:=2) (sz:=1) (v:=V .Nu) (n:=st.rd) (f:=λj=>.int .i64 (st.num j)) rfl (by omega);obtain⟨lA,lc,hL⟩:=lrow h hi;have hSr:aY mb tb st V .S=some ⟨2,1,.slice (some ⟨sb,0,none⟩) st.size sc,st.size,λj=>.int .i64 (st.S j)⟩:=by rw[<-hS];rfl
 have hVr:aY mb tb st V .V=some ⟨2,1,.slice (some ⟨vb,0,none⟩) st.size vc,st.size,λj=>.int .i64 (st.V j)⟩:=by rw[<-hV];rfl
 have hPr:aY mb tb st V .Pl=some ⟨2,1,.slice (some ⟨pb,0,none⟩) st.rd pc_,st.rd,λj=>.int .i64 (st.place j)⟩:=by rw[<-hP];rfl
 have hNr:aY mb tb st V .Nu=some ⟨2,1,.slice (some ⟨nb,0,none⟩) st.rd nc,st.rd,λj=>.int .i64 (st.num j)⟩:=by rw[<-hN];rfl
 obtain⟨hBp,-⟩:=dT h hPr;obtain⟨hBn,-⟩:=dT h hNr;have hth:=gth (R:=bQ tb st V) (G:=bxF st V) (F:=tdF st V) (mb:=mb) (tb:=tb) hi;have hne1:¬tb i=mb:=λz=>cD h (r:=.box) (r':=.th i) rfl hth (by simp) (b:=mb) rfl (by rw[<-z];rfl);have hne2:¬mb=tb i:=λz=>hne1 z.symm;have npt:¬pb=tb i:=λz=>cD h hPr hth (by simp) (b:=pb) rfl (by rw[z];rfl);have npt':¬tb i=pb:=λz=>npt z.symm
 have hl31:((st.L i).length:Int)<=2147483647:=by
  rcases hpc5 with z | z | z | z | z
  ·rw [h50 z];decide
  ·have:=(h53 (by omega) (by omega)).2.2;omega
  ·have:=(h53 (by omega) (by omega)).2.2;omega
  ·have:=(h53 (by omega) (by omega)).2.2;omega
  ·have:=(h54 z).2.2;omega
 obtain⟨q,hq⟩:∃ q,q=st.place r+1+((st.L i).length:Int):=⟨_,rfl⟩;have q0:0<=q:=by omega
 have q1:q<4611686020574871552:=by omega
 obtain⟨k,hk⟩:∃ k:Nat,q%(st.size:Int)=k:=⟨(q%(st.size:Int)).toNat,by have:=Int.emod_nonneg q (show (st.size:Int)≠0 by omega);omega⟩;have hks:k<st.size:=by have:=Int.emod_lt_of_pos q (show (0:Int)<st.size by omega);omega
 obtain⟨l,hl⟩:∃ l,l=q / (st.size:Int):=⟨_,rfl⟩;have l0:0<=l:=by rw[hl];exact Int.ediv_nonneg q0 (by omega)
 have ll:l<=q:=by rw[hl];exact Int.ediv_le_self _ q0
 have HM:=qd (And.intro h (Below.refl B w));have HX:=qd hx;have HOK:=qd hok;have HO:=qd ho;have HA:=qd ha;have HR:=qd (And.intro hS (And.intro hV (And.intro hP (And.intro hN hL))));have HH:=qd (And.intro h50 (And.intro h53 h54));have HI:=qd (And.intro hr hq);obtain⟨sf,hsf⟩:∃ sf,sf=st.read i o:=⟨_,rfl⟩;rw[<-hsf];have hsf2:sf=st.read i o:=hsf;unfold RS.read at hsf2;dsimp only at hsf2;rw[show i-1=r by omega,<-hq,hk,<-hl] at hsf2;simp only[Int.toNat_natCast] at hsf2;have HF:=qd hsf2
 have ez:((st.size:Int)==0)=false:=by
  have:(st.size:Int)≠0:=by omega
  simpa using this
 have em:Int.tmod q (st.size:Int)=(k:Int):=by rw[Int.tmod_eq_emod_of_nonneg q0,hk]
 have ed:Int.tdiv q (st.size:Int)=l:=by rw[Int.tdiv_eq_ediv_of_nonneg q0,<-hl]
 have HQ:=qd (show st.place r+1+((st.L i).length:Int)=q from hq.symm);clear h hx ho ha hS hV hP hN hL hSr hVr hPr hNr hk hl hsf hsf2 hok hth h50 h53 h54 hr hq
 go_enter Try.func53,Try.ntmps53
 have m8:w.cell? ⟨mb,8,none⟩=some (.slice (some ⟨pb,0,none⟩) st.rd pc_):=by rw[bD HM.out.1 8 (by omega)];exact congrArg some HR.out.2.2.1
 have cP:w.cell? ⟨pb,r,none⟩=some (.int .i64 (st.place r)):=HM.out.1.cell (r:=.Pl) (e:=2) (sz:=1) (cap:=pc_) (n:=st.rd) (f:=λj=>.int .i64 (st.place j)) (by rw[<-HR.out.2.2.1];rfl) (by omega);have t11:w.cell? ⟨tb i,11,none⟩=some (.slice lA (st.L i).length lc):=by rw[aS HM.out.1 hi 11 (by omega)];exact congrArg some HR.out.2.2.2.2
 go_wp2;rename_i K0 hK0
 go_quiet (fail)
 rw[HQ.out];replace HM:=qd (And.intro (HM.out.1.drewN nq) (HM.out.2.trans (Below.drewN (Below.refl B _) nq)));generalize World.drewN _ nq=w1 at *;refine hK0 _ _ ?_;clear hK0 K0 m8 cP t11;have m0:=bD HM.out.1 0 (by omega)
 simp[bxF,RS.setN,RS.stand] at m0
 have t2:w1.cell? ⟨tb i,2,none⟩=some (.int .i64 51):=by rw[aS HM.out.1 hi 2 (by omega)];simp[tdF,hp]
 have HE:=qd (HF.out.trans ((if_neg (by omega)).trans (if_pos hp)));have q62:q<4611686018427387904:=by have:=HH.out.2.1 (by omega) (by omega);have:=HI.out.2;omega
 clear hp hpc5;have m1:w1.cell? ⟨mb,1,none⟩=some (.slice (some ⟨sb,0,none⟩) st.size sc):=by rw[bD HM.out.1 1 (by omega)];exact congrArg some HR.out.1
 obtain⟨cS,zS⟩:=scell HM.out.1 HR.out.1 hks;go_wp2;rename_i K0 hK0;refine aR 11 (by kernel_rfl) (by kernel_rfl) (by kernel_rfl) (by kernel_rfl) ?_;simp only[idle,zB,Nat.reduceAdd]
 repeat (go_big_quiet_step (fail))
 refine wpQuiet_nil ?_;rintro _ ⟨nq,rfl⟩;refine aX (m:=11) rfl ?_;replace HM:=qd (And.intro (HM.out.1.drewN nq) (HM.out.2.trans (Below.drewN (Below.refl B _) nq)));generalize World.drewN _ nq=w2 at *;clear m0 m1 cS zS;have t8:=aS HM.out.1 hi 8 (by omega)
 simp[tdF,RS.setN,RS.stand,upd] at t8
 have z8:=bC HM.out.1 hi 8;have u2:=aS HM.out.1 hi 2 (by omega);have z2:=bC HM.out.1 hi 2;simp only[tdF] at u2;have hm0:=sPc (sN HM.out.1 hi 5 (by omega) (st.S k)) hi 52;have bw:=(HM.out.2.setCell (p:=⟨tb i,8,none⟩) hBt (.int .i64 (st.S k))).setCell (p:=⟨tb i,2,none⟩) hBt (.int .i64 52);have HM5:Hid (Mems B (aY mb tb ((st.setN i 5 (st.S k)).stand i 52) V) ((w2.setCell ⟨tb i,8,none⟩ (.int .i64 (st.S k))).setCell ⟨tb i,2,none⟩ (.int .i64 52))/\Below B w ((w2.setCell ⟨tb i,8,none⟩ (.int .i64 (st.S k))).setCell ⟨tb i,2,none⟩ (.int .i64 52))):=qd (And.intro hm0 bw);clear hm0 bw;clear HM;have HM:=HM5;clear HM5
 by_cases c1:st.S k<2*l
 ·have d1:decide (st.S k<2*l)=true:=decide_eq_true c1
  have d2:decide (2*l<st.S k)=false:=decide_eq_false (by omega);have HE2:Hid (sf=((st.setN i 5 (st.S k)).stand i 52).refused i 6):=qd (by have e:=HE.out;rw[if_pos c1] at e;exact e);clear c1
  go_wp2_with fail
  refine(iD HM.out.1 (Nat.le_trans hB HM.out.2.size) hi hat hans hl31 (6)).mono ?_;rintro x w9 ⟨rfl,⟨V2,h2⟩,b2⟩;have v8:=aS h2 (by rw[(RS.refused_N _ _ _).2];exact hi) 8 (by omega);simp only[tdF] at v8;rw[(RS.refused_N _ _ _).1] at v8
  simp[RS.setN,RS.stand,upd] at v8
  have H2:=qd (And.intro h2 (HM.out.2.trans b2));clear h2 b2;go_wp2
  go_end0
  exact⟨rfl,⟨V2,HE2.out▸H2.out.1⟩,H2.out.2⟩
 have d1:decide (st.S k<2*l)=false:=decide_eq_false c1
 by_cases c2:2*l<st.S k
 ·have d2:decide (2*l<st.S k)=true:=decide_eq_true c2
  have HE2:Hid (sf=((st.setN i 5 (st.S k)).stand i 52).refused i 10):=qd (by have e:=HE.out;rw[if_neg c1,if_pos c2] at e;exact e);clear c1 c2
  go_wp2_with fail
  refine(iD HM.out.1 (Nat.le_trans hB HM.out.2.size) hi hat hans hl31 (10)).mono ?_;rintro x w9 ⟨rfl,⟨V2,h2⟩,b2⟩;have v8:=aS h2 (by rw[(RS.refused_N _ _ _).2];exact hi) 8 (by omega);simp only[tdF] at v8;rw[(RS.refused_N _ _ _).1] at v8
  simp[RS.setN,RS.stand,upd] at v8
  have H2:=qd (And.intro h2 (HM.out.2.trans b2));clear h2 b2;go_wp2
  go_end0
  exact⟨rfl,⟨V2,HE2.out▸H2.out.1⟩,H2.out.2⟩
 ·have d2:decide (2*l<st.S k)=false:=decide_eq_false c2
  have HE2:Hid (sf=(st.setN i 5 (st.S k)).stand i 52):=qd (by have e:=HE.out;rw[if_neg c1,if_neg c2] at e;exact e);clear c1 c2;go_wp2
  go_end0
  exact⟨rfl,⟨V,HE2.out▸HM.out.1⟩,HM.out.2⟩
end Go.Proofs.Ytlcplealnbekeaa
namespace Go.Proofs.Ytlcplealnbekeaa
open Go.RowKit Go.Turn
open Go.ConcN (upd upd_ne upd_same)
theorem read52_ok {B mb:Nat}{tb:Nat->Nat}{st:RS}{V:Rt->Value}{w:World}{i:Nat}(h:Mems B (aY mb tb st V) w) (hB:B<=w.heap.size) (hi:i<st.n) (hok:st.Ok) {o:OpI}(ho:(st.ops i)[st.at_ i]?=some o) (ha:RS.At st i o) {r:Nat}(hr:i=r+1) (hp:st.pc i=52):Calls Try.prog 53 #[.pointer (some ⟨mb,0,none⟩),.pointer (some ⟨tb i,0,none⟩),.int .i64 r] w λx w'=>x=.returned (.tuple #[])/\SMem B mb tb (st.read i o) w'/\Below B w w':=by
 have hpc5:st.pc i=50\/st.pc i=51\/st.pc i=52\/st.pc i=53\/st.pc i=54:=by omega
 have hBt:B<=tb i:=(h.lt (r:=.th i) (gth hi) (b:=tb i) rfl).1;have hBm:B<=mb:=(h.lt (r:=.box) rfl (b:=mb) rfl).1;have hx:=hok.x i;have hat0:=(List.getElem?_eq_some_iff.1 ho).1;have hlen:=hok.len i hi;have hat:st.at_ i<65536:=by omega
 have hans:(st.ans i).length<65536:=by rw[hok.ans i hi];exact hat
 have s0:=hok.s0;have s1:=hok.s1
 obtain ⟨hrd,hN1,hN2,h50,h53,h54⟩:r<st.rd/\1<=st.N i 0/\st.N i 0<=2147483647/\(st.pc i=50->st.L i=[])/\(51<=st.pc i->st.pc i<=53->st.place r+1+(st.L i).length<=st.N i 4/\st.N i 4<4611686018427387904/\((st.L i).length:Int)<st.N i 0)/\(st.pc i=54->st.L i≠[]/\st.place r+(st.L i).length<4611686018427387904/\((st.L i).length:Int)<=st.N i 0):=by
  cases ha with
  | look q=>omega
  | put q=>omega
  | pub q=>omega
  | get _ q1 q2 _ q3 q4 q5 q6 q7=>exact⟨by omega,q3,q4,q5,by rw[show i-1=r by omega] at q6;exact q6,by rw[show i-1=r by omega] at q7;exact q7⟩
 obtain⟨p0,p1⟩:=hok.pl r hrd;obtain⟨sb,sc,hS,hsc,hsm⟩:=srow h s0;obtain⟨vb,vc,hV,hvc,hvm⟩:=vrow h s0;obtain⟨pb,pc_,hP,hpc,hpm⟩:=bS h (r:=.Pl) (e:=2) (sz:=1) (v:=V .Pl) (n:=st.rd) (f:=λj=>.int .i64 (st.place j)) rfl (by omega);obtain⟨nb,nc,hN,hnc,hnm⟩:=bS h (r:=.Nu) (e:=2) (sz:=1) (v:=V .Nu) (n:=st.rd) (f:=λj=>.int .i64 (st.num j)) rfl (by omega);obtain⟨lA,lc,hL⟩:=lrow h hi;have hSr:aY mb tb st V .S=some ⟨2,1,.slice (some ⟨sb,0,none⟩) st.size sc,st.size,λj=>.int .i64 (st.S j)⟩:=by rw[<-hS];rfl
 have hVr:aY mb tb st V .V=some ⟨2,1,.slice (some ⟨vb,0,none⟩) st.size vc,st.size,λj=>.int .i64 (st.V j)⟩:=by rw[<-hV];rfl
 have hPr:aY mb tb st V .Pl=some ⟨2,1,.slice (some ⟨pb,0,none⟩) st.rd pc_,st.rd,λj=>.int .i64 (st.place j)⟩:=by rw[<-hP];rfl
 have hNr:aY mb tb st V .Nu=some ⟨2,1,.slice (some ⟨nb,0,none⟩) st.rd nc,st.rd,λj=>.int .i64 (st.num j)⟩:=by rw[<-hN];rfl
 obtain⟨hBp,-⟩:=dT h hPr;obtain⟨hBn,-⟩:=dT h hNr;have hth:=gth (R:=bQ tb st V) (G:=bxF st V) (F:=tdF st V) (mb:=mb) (tb:=tb) hi;have hne1:¬tb i=mb:=λz=>cD h (r:=.box) (r':=.th i) rfl hth (by simp) (b:=mb) rfl (by rw[<-z];rfl);have hne2:¬mb=tb i:=λz=>hne1 z.symm;have npt:¬pb=tb i:=λz=>cD h hPr hth (by simp) (b:=pb) rfl (by rw[z];rfl);have npt':¬tb i=pb:=λz=>npt z.symm
 have hl31:((st.L i).length:Int)<=2147483647:=by
  rcases hpc5 with z | z | z | z | z
  ·rw [h50 z];decide
  ·have:=(h53 (by omega) (by omega)).2.2;omega
  ·have:=(h53 (by omega) (by omega)).2.2;omega
  ·have:=(h53 (by omega) (by omega)).2.2;omega
  ·have:=(h54 z).2.2;omega
 obtain⟨q,hq⟩:∃ q,q=st.place r+1+((st.L i).length:Int):=⟨_,rfl⟩;have q0:0<=q:=by omega
 have q1:q<4611686020574871552:=by omega
 obtain⟨k,hk⟩:∃ k:Nat,q%(st.size:Int)=k:=⟨(q%(st.size:Int)).toNat,by have:=Int.emod_nonneg q (show (st.size:Int)≠0 by omega);omega⟩;have hks:k<st.size:=by have:=Int.emod_lt_of_pos q (show (0:Int)<st.size by omega);omega
 obtain⟨l,hl⟩:∃ l,l=q / (st.size:Int):=⟨_,rfl⟩;have l0:0<=l:=by rw[hl];exact Int.ediv_nonneg q0 (by omega)
 have ll:l<=q:=by rw[hl];exact Int.ediv_le_self _ q0
 have HM:=qd (And.intro h (Below.refl B w));have HX:=qd hx;have HOK:=qd hok;have HO:=qd ho;have HA:=qd ha;have HR:=qd (And.intro hS (And.intro hV (And.intro hP (And.intro hN hL))));have HH:=qd (And.intro h50 (And.intro h53 h54));have HI:=qd (And.intro hr hq);obtain⟨sf,hsf⟩:∃ sf,sf=st.read i o:=⟨_,rfl⟩;rw[<-hsf];have hsf2:sf=st.read i o:=hsf;unfold RS.read at hsf2;dsimp only at hsf2;rw[show i-1=r by omega,<-hq,hk,<-hl] at hsf2;simp only[Int.toNat_natCast] at hsf2;have HF:=qd hsf2
 have ez:((st.size:Int)==0)=false:=by
  have:(st.size:Int)≠0:=by omega
  simpa using this
 have em:Int.tmod q (st.size:Int)=(k:Int):=by rw[Int.tmod_eq_emod_of_nonneg q0,hk]
 have ed:Int.tdiv q (st.size:Int)=l:=by rw[Int.tdiv_eq_ediv_of_nonneg q0,<-hl]
 have HQ:=qd (show st.place r+1+((st.L i).length:Int)=q from hq.symm);clear h hx ho ha hS hV hP hN hL hSr hVr hPr hNr hk hl hsf hsf2 hok hth h50 h53 h54 hr hq
 go_enter Try.func53,Try.ntmps53
 have m8:w.cell? ⟨mb,8,none⟩=some (.slice (some ⟨pb,0,none⟩) st.rd pc_):=by rw[bD HM.out.1 8 (by omega)];exact congrArg some HR.out.2.2.1
 have cP:w.cell? ⟨pb,r,none⟩=some (.int .i64 (st.place r)):=HM.out.1.cell (r:=.Pl) (e:=2) (sz:=1) (cap:=pc_) (n:=st.rd) (f:=λj=>.int .i64 (st.place j)) (by rw[<-HR.out.2.2.1];rfl) (by omega);have t11:w.cell? ⟨tb i,11,none⟩=some (.slice lA (st.L i).length lc):=by rw[aS HM.out.1 hi 11 (by omega)];exact congrArg some HR.out.2.2.2.2
 go_wp2;rename_i K0 hK0
 go_quiet (fail)
 rw[HQ.out];replace HM:=qd (And.intro (HM.out.1.drewN nq) (HM.out.2.trans (Below.drewN (Below.refl B _) nq)));generalize World.drewN _ nq=w1 at *;refine hK0 _ _ ?_;clear hK0 K0 m8 cP t11;have m0:=bD HM.out.1 0 (by omega)
 simp[bxF,RS.setN,RS.stand] at m0
 have t2:w1.cell? ⟨tb i,2,none⟩=some (.int .i64 52):=by rw[aS HM.out.1 hi 2 (by omega)];simp[tdF,hp]
 have HE:=qd (HF.out.trans ((if_neg (by omega)).trans ((if_neg (by omega)).trans (if_pos hp))));have q62:q<4611686018427387904:=by have:=HH.out.2.1 (by omega) (by omega);have:=HI.out.2;omega
 clear hp hpc5;have m2:w1.cell? ⟨mb,2,none⟩=some (.slice (some ⟨vb,0,none⟩) st.size vc):=by rw[bD HM.out.1 2 (by omega)];exact congrArg some HR.out.2.1
 obtain⟨cV,zV⟩:=vcell HM.out.1 HR.out.2.1 hks;go_wp2;rename_i K0 hK0;refine aR 11 (by kernel_rfl) (by kernel_rfl) (by kernel_rfl) (by kernel_rfl) ?_;simp only[idle,zB,Nat.reduceAdd]
 repeat (go_big_quiet_step (fail))
 refine wpQuiet_nil ?_;rintro _ ⟨nq,rfl⟩;refine aX (m:=11) rfl ?_;replace HM:=qd (And.intro (HM.out.1.drewN nq) (HM.out.2.trans (Below.drewN (Below.refl B _) nq)));generalize World.drewN _ nq=w2 at *;clear m0 m2 cV zV;have t6:=aS HM.out.1 hi 6 (by omega)
 simp[tdF,RS.setN,RS.stand,upd] at t6
 have z6:=bC HM.out.1 hi 6;have u2:=aS HM.out.1 hi 2 (by omega);have z2:=bC HM.out.1 hi 2;simp only[tdF] at u2;go_wp2
 go_end0
 refine⟨rfl,?_,(HM.out.2.setCell (p:=⟨tb i,6,none⟩) hBt _).setCell (p:=⟨tb i,2,none⟩) hBt _⟩;rw[HE.out];exact⟨V,sPc (sN HM.out.1 hi 3 (by omega) (st.V k)) hi 53⟩
end Go.Proofs.Ytlcplealnbekeaa
namespace Go.Proofs.Ytlcplealnbekeaa
open Go.RowKit Go.Turn
open Go.ConcN (upd upd_ne upd_same)
def RS.see (m:RS) (i:Nat) (x:Int):RS:={ m with L:=upd m.L i (m.L i++[x]) }
theorem cellsN_snoc (l:List Int) (x:Int):aK (l.length+1) (λj=>.int .i64 ((l++[x]).getD j 0))=aK l.length (λj=>.int .i64 (l.getD j 0))++[.int .i64 x]:=by
 rw[show ([.int .i64 x]:List Value)=aK 1 (λ_=>.int .i64 x) from rfl,dO];refine bU λj hj=>?_
 by_cases h:j<l.length
 ·rw [if_pos h,List.getD_eq_getElem?_getD,List.getElem?_append_left h,<-List.getD_eq_getElem?_getD]
 ·rw [if_neg h,show j=l.length by omega];simp
theorem see_rows {B mb:Nat}{tb:Nat->Nat}{st:RS}{V:Rt->Value}{i:Nat}{x w1:World}{vg:Value}{y:Int}(hm:Mems B (aY mb tb st V) x) (hi:i<st.n)
  (hown:w1.ownsRow B 2 1 vg ((st.L i).length+1) (aK (st.L i).length (λj=>.int .i64 ((st.L i).getD j 0))++[.int .i64 y])) (hg:x.grownBy w1 (V (.L i)).ownBlock) (hv:vg.ownBlock=(V (.L i)).ownBlock\/vg.ownBlock=some x.heap.size) :
  Mems B (bW st.n mb tb (bxF st V) (tdF st V) (λr=>if r=.L i then some (dL vg (st.L i++[y])) else bQ tb st V r)) w1:=by
 refine hm.app (r:=.L i) (d:=dL (V (.L i)) (st.L i)) (d':=dL vg (st.L i++[y])) (by simp only[aY,bW,bQ,if_pos hi]) (by simp[bW]) (λr hr=>?_) hg ?_ hv
 ·cases r with
  | box=>rfl
  | th j=>rfl
  | _=>simp only[aY,bW,if_neg hr]
 ·unfold Row.At dL
  simp only[List.length_append,List.length_singleton,Nat.mul_one];rw[cellsN_snoc];exact hown
theorem see_shut {B mb:Nat}{tb:Nat->Nat}{st:RS}{V:Rt->Value}{i:Nat}{x:World}{vg:Value}{y:Int}(hm:Mems B (bW st.n mb tb (bxF st V) (gO (tdF st V) i 11 vg) (λr=>if r=.L i then some (dL vg (st.L i++[y])) else bQ tb st V r)) x) :
  Mems B (aY mb tb (st.see i y) (λr=>if r=.L i then vg else V r)) x:=by
 refine gD (st':=st.see i y) hm rfl (λk hk=>?_) (λj k hj hk=>?_) λr _ _ d' hd=>?_
 ·rcases k with _ | _ | _ | _ | _ | _ | _ | _ | _ | _ | _ | k <;> first | omega | simp[bxF,RS.see]
 ·by_cases e:j=i
  ·subst e
   rcases k with _ | _ | _ | _ | _ | _ | _ | _ | _ | _ | _ | _ | _ | _ | k <;> first | omega | simp[gO,tdF,RS.see]
  ·rcases k with _ | _ | _ | _ | _ | _ | _ | _ | _ | _ | _ | _ | _ | _ | k <;> first | omega | simp[gO,tdF,RS.see,e]
 ·cases r with
  | L j =>
    by_cases hj:j<st.n
    ·have hd:=hd.symm.trans (if_pos hj)
     cases hd
     by_cases e:j=i
     ·subst e
      exact .inl ⟨_,by simp[dL,RS.see,upd_same],λ_ _=>rfl⟩
     ·exact .inl ⟨_,by simp[dL,RS.see,upd_ne _ _ e,e,bQ,hj],λ_ _=>rfl⟩
    ·exact absurd (hd.symm.trans (if_neg hj)) (by simp)
  | ans j =>
    by_cases hj:j<st.n
    ·have hd:=hd.symm.trans (if_pos hj)
     cases hd;have e3:=anF_eq (V:=V) (V':=λr=>if r=.L i then vg else V r) (i:=j) (λk=>by simp) (st.ans j);refine .inl ⟨cJ 3 (anF V j (st.ans j)),by simp[bQ,hj,RS.see],λk hk=>?_⟩
     show cJ 3 (anF V j (st.ans j)) k=cJ 3 (anF (λr=>if r=.L i then vg else V r) j (st.ans j)) k
     rw[e3]
    ·exact absurd (hd.symm.trans (if_neg hj)) (by simp)
  | _=>exact .inl ⟨d'.f,(if_neg (by simp)).trans ((show bQ tb st V _=bQ tb (st.see i y) (λr=>if r=.L i then vg else V r) _ from by simp[bQ,RS.see]).trans hd),λ_ _=>rfl⟩
theorem Try.infoNu:(Try.prog.info? 2).map (λi=>(i.zero,i.size,i.bytes))=some (some (.int .i64 0),1,8):=by kernel_rfl
theorem read53_ok {B mb:Nat}{tb:Nat->Nat}{st:RS}{V:Rt->Value}{w:World}{i:Nat}(h:Mems B (aY mb tb st V) w) (hB:B<=w.heap.size) (hi:i<st.n) (hok:st.Ok) {o:OpI}(ho:(st.ops i)[st.at_ i]?=some o) (ha:RS.At st i o) {r:Nat}(hr:i=r+1) (hp:st.pc i=53):Calls Try.prog 53 #[.pointer (some ⟨mb,0,none⟩),.pointer (some ⟨tb i,0,none⟩),.int .i64 r] w λx w'=>x=.returned (.tuple #[])/\SMem B mb tb (st.read i o) w'/\Below B w w':=by
 have hpc5:st.pc i=50\/st.pc i=51\/st.pc i=52\/st.pc i=53\/st.pc i=54:=by omega
 have hBt:B<=tb i:=(h.lt (r:=.th i) (gth hi) (b:=tb i) rfl).1;have hBm:B<=mb:=(h.lt (r:=.box) rfl (b:=mb) rfl).1;have hx:=hok.x i;have hat0:=(List.getElem?_eq_some_iff.1 ho).1;have hlen:=hok.len i hi;have hat:st.at_ i<65536:=by omega
 have hans:(st.ans i).length<65536:=by rw[hok.ans i hi];exact hat
 have s0:=hok.s0;have s1:=hok.s1
 obtain ⟨hrd,hN1,hN2,h50,h53,h54⟩:r<st.rd/\1<=st.N i 0/\st.N i 0<=2147483647/\(st.pc i=50->st.L i=[])/\(51<=st.pc i->st.pc i<=53->st.place r+1+(st.L i).length<=st.N i 4/\st.N i 4<4611686018427387904/\((st.L i).length:Int)<st.N i 0)/\(st.pc i=54->st.L i≠[]/\st.place r+(st.L i).length<4611686018427387904/\((st.L i).length:Int)<=st.N i 0):=by
  cases ha with
  | look q=>omega
  | put q=>omega
  | pub q=>omega
  | get _ q1 q2 _ q3 q4 q5 q6 q7=>exact⟨by omega,q3,q4,q5,by rw[show i-1=r by omega] at q6;exact q6,by rw[show i-1=r by omega] at q7;exact q7⟩
 obtain⟨p0,p1⟩:=hok.pl r hrd;obtain⟨sb,sc,hS,hsc,hsm⟩:=srow h s0;obtain⟨vb,vc,hV,hvc,hvm⟩:=vrow h s0;obtain⟨pb,pc_,hP,hpc,hpm⟩:=bS h (r:=.Pl) (e:=2) (sz:=1) (v:=V .Pl) (n:=st.rd) (f:=λj=>.int .i64 (st.place j)) rfl (by omega);obtain⟨nb,nc,hN,hnc,hnm⟩:=bS h (r:=.Nu) (e:=2) (sz:=1) (v:=V .Nu) (n:=st.rd) (f:=λj=>.int .i64 (st.num j)) rfl (by omega);obtain⟨lA,lc,hL⟩:=lrow h hi;have hSr:aY mb tb st V .S=some ⟨2,1,.slice (some ⟨sb,0,none⟩) st.size sc,st.size,λj=>.int .i64 (st.S j)⟩:=by rw[<-hS];rfl
 have hVr:aY mb tb st V .V=some ⟨2,1,.slice (some ⟨vb,0,none⟩) st.size vc,st.size,λj=>.int .i64 (st.V j)⟩:=by rw[<-hV];rfl
 have hPr:aY mb tb st V .Pl=some ⟨2,1,.slice (some ⟨pb,0,none⟩) st.rd pc_,st.rd,λj=>.int .i64 (st.place j)⟩:=by rw[<-hP];rfl
 have hNr:aY mb tb st V .Nu=some ⟨2,1,.slice (some ⟨nb,0,none⟩) st.rd nc,st.rd,λj=>.int .i64 (st.num j)⟩:=by rw[<-hN];rfl
 obtain⟨hBp,-⟩:=dT h hPr;obtain⟨hBn,-⟩:=dT h hNr;have hth:=gth (R:=bQ tb st V) (G:=bxF st V) (F:=tdF st V) (mb:=mb) (tb:=tb) hi;have hne1:¬tb i=mb:=λz=>cD h (r:=.box) (r':=.th i) rfl hth (by simp) (b:=mb) rfl (by rw[<-z];rfl);have hne2:¬mb=tb i:=λz=>hne1 z.symm;have npt:¬pb=tb i:=λz=>cD h hPr hth (by simp) (b:=pb) rfl (by rw[z];rfl);have npt':¬tb i=pb:=λz=>npt z.symm
 have hl31:((st.L i).length:Int)<=2147483647:=by
  rcases hpc5 with z | z | z | z | z
  ·rw [h50 z];decide
  ·have:=(h53 (by omega) (by omega)).2.2;omega
  ·have:=(h53 (by omega) (by omega)).2.2;omega
  ·have:=(h53 (by omega) (by omega)).2.2;omega
  ·have:=(h54 z).2.2;omega
 obtain⟨q,hq⟩:∃ q,q=st.place r+1+((st.L i).length:Int):=⟨_,rfl⟩;have q0:0<=q:=by omega
 have q1:q<4611686020574871552:=by omega
 obtain⟨k,hk⟩:∃ k:Nat,q%(st.size:Int)=k:=⟨(q%(st.size:Int)).toNat,by have:=Int.emod_nonneg q (show (st.size:Int)≠0 by omega);omega⟩;have hks:k<st.size:=by have:=Int.emod_lt_of_pos q (show (0:Int)<st.size by omega);omega
 obtain⟨l,hl⟩:∃ l,l=q / (st.size:Int):=⟨_,rfl⟩;have l0:0<=l:=by rw[hl];exact Int.ediv_nonneg q0 (by omega)
 have ll:l<=q:=by rw[hl];exact Int.ediv_le_self _ q0
 have HM:=qd (And.intro h (Below.refl B w));have HX:=qd hx;have HOK:=qd hok;have HO:=qd ho;have HA:=qd ha;have HR:=qd (And.intro hS (And.intro hV (And.intro hP (And.intro hN hL))));have HH:=qd (And.intro h50 (And.intro h53 h54));have HI:=qd (And.intro hr hq);obtain⟨sf,hsf⟩:∃ sf,sf=st.read i o:=⟨_,rfl⟩;rw[<-hsf];have hsf2:sf=st.read i o:=hsf;unfold RS.read at hsf2;dsimp only at hsf2;rw[show i-1=r by omega,<-hq,hk,<-hl] at hsf2;simp only[Int.toNat_natCast] at hsf2;have HF:=qd hsf2
 have ez:((st.size:Int)==0)=false:=by
  have:(st.size:Int)≠0:=by omega
  simpa using this
 have em:Int.tmod q (st.size:Int)=(k:Int):=by rw[Int.tmod_eq_emod_of_nonneg q0,hk]
 have ed:Int.tdiv q (st.size:Int)=l:=by rw[Int.tdiv_eq_ediv_of_nonneg q0,<-hl]
 have HQ:=qd (show st.place r+1+((st.L i).length:Int)=q from hq.symm);clear h hx ho ha hS hV hP hN hL hSr hVr hPr hNr hk hl hsf hsf2 hok hth h50 h53 h54 hr hq
 go_enter Try.func53,Try.ntmps53
 have m8:w.cell? ⟨mb,8,none⟩=some (.slice (some ⟨pb,0,none⟩) st.rd pc_):=by rw[bD HM.out.1 8 (by omega)];exact congrArg some HR.out.2.2.1
 have cP:w.cell? ⟨pb,r,none⟩=some (.int .i64 (st.place r)):=HM.out.1.cell (r:=.Pl) (e:=2) (sz:=1) (cap:=pc_) (n:=st.rd) (f:=λj=>.int .i64 (st.place j)) (by rw[<-HR.out.2.2.1];rfl) (by omega);have t11:w.cell? ⟨tb i,11,none⟩=some (.slice lA (st.L i).length lc):=by rw[aS HM.out.1 hi 11 (by omega)];exact congrArg some HR.out.2.2.2.2
 go_wp2;rename_i K0 hK0
 go_quiet (fail)
 rw[HQ.out];replace HM:=qd (And.intro (HM.out.1.drewN nq) (HM.out.2.trans (Below.drewN (Below.refl B _) nq)));generalize World.drewN _ nq=w1 at *;refine hK0 _ _ ?_;clear hK0 K0 m8 cP t11;have m0:=bD HM.out.1 0 (by omega)
 simp[bxF,RS.setN,RS.stand] at m0
 have t2:w1.cell? ⟨tb i,2,none⟩=some (.int .i64 53):=by rw[aS HM.out.1 hi 2 (by omega)];simp[tdF,hp]
 have HE:=qd (HF.out.trans ((if_neg (by omega)).trans ((if_neg (by omega)).trans ((if_neg (by omega)).trans (if_pos hp)))));have q62:q<4611686018427387904:=by have:=HH.out.2.1 (by omega) (by omega);have:=HI.out.2;omega
 have hlN:=(HH.out.2.1 (by omega) (by omega)).2.2;clear hp hpc5;have m1:w1.cell? ⟨mb,1,none⟩=some (.slice (some ⟨sb,0,none⟩) st.size sc):=by rw[bD HM.out.1 1 (by omega)];exact congrArg some HR.out.1
 obtain⟨cS,zS⟩:=scell HM.out.1 HR.out.1 hks;have t8:=aS HM.out.1 hi 8 (by omega);simp only[tdF] at t8
 by_cases c1:st.S k=st.N i 5
 ·have d1:(st.S k !=st.N i 5)=false:=by simpa using c1
  have HE2:=qd (HE.out.trans (if_neg (λz=>z c1)));clear c1 HE;go_wp2;rename_i K0 hK0
  go_quiet (fail)
  replace HM:=qd (And.intro (HM.out.1.drewN nq) (HM.out.2.trans (Below.drewN (Below.refl B _) nq)));generalize World.drewN _ nq=w2 at *;refine hK0 _ _ ?_;clear hK0 K0;clear m0 m1 cS zS t8 t2 d1;go_wp2;have t6:=aS HM.out.1 hi 6 (by omega);have t11:w2.cell? ⟨tb i,11,none⟩=some (.slice lA (st.L i).length lc):=by rw[aS HM.out.1 hi 11 (by omega)];exact congrArg some HR.out.2.2.2.2
  simp only[tdF] at t6;have hLr:aY mb tb st V (.L i)=some ⟨2,1,.slice lA (st.L i).length lc,(st.L i).length,λj=>.int .i64 ((st.L i).getD j 0)⟩:=by rw[<-HR.out.2.2.2.2];simp only[aY,bW,bQ,dL];exact if_pos hi
  have hown:=HM.out.1.at_ hLr;have htn:=cD HM.out.1 (gth (R:=bQ tb st V) (G:=bxF st V) (F:=tdF st V) (mb:=mb) (tb:=tb) hi) hLr (by simp) (b:=tb i) rfl
  have how2:w2.drew.ownsRow B 2 1 (.slice lA (st.L i).length lc) (st.L i).length (aK (st.L i).length (λj=>.int .i64 ((st.L i).getD j 0))):=by
   have h:=hown;unfold Row.At at h;simp only[Nat.mul_one] at h;exact h.drew
  have HOW:=qd how2;have HT0:=qd t6;have HT1:=qd t11;have HN0:Hid (¬(Value.slice lA (st.L i).length lc).ownBlock=some (tb i)):=qd htn;clear hown htn how2 hLr t6 t11;rename_i K0 hK0;refine bV (S:=Kept (λb=>(Value.slice lA (st.L i).length lc).ownBlock=some b) w2) 14 (by kernel_rfl) (by kernel_rfl) (by kernel_rfl) ?_;simp only[idle,zB,Nat.reduceAdd];have hk0:Kept (λb=>(Value.slice lA (st.L i).length lc).ownBlock=some b) w2 w2.drew:=Kept.drewN _ w2 1;have HS:=qd hk0;clear hk0
  iterate 10
   with_reducible first | refine rdL 0 14 140 ?_ | refine rdL 1 13 141 ?_ | refine rdL 2 12 142 ?_ | refine rdL 3 11 143 ?_ | refine rdL 4 10 144 ?_ | refine rdL 5 9 145 ?_ | refine rdL 6 8 146 ?_ | refine rdL 7 7 147 ?_ | refine rdL 8 6 148 ?_ | refine rdL 9 5 149 ?_
   refine⟨_,rfl,rfl,by kernel_rfl,by kernel_rfl,by kernel_rfl,(λc a w h=>h),rfl,HS.out,?_⟩;apply Exists.intro;refine⟨λwq hw=>?_,?_⟩
   ·have q0:=cY HT0.out hw HN0.out
    have q1:=cY HT1.out hw HN0.out;go_simp
    rfl
   simp only[Act.put,zA]
  clear HT0;have hkd:=HS.out;have hmd:=HM.out.1.drewN 1;have bwd:=HM.out.2.trans (Below.drewN (Below.refl B w2) 1);have hBd:B<=w2.drew.heap.size:=Nat.le_trans hB HM.out.2.size;change Mems B (aY mb tb st V) w2.drew at hmd;change Below B w w2.drew at bwd;clear HS HM HT1;have how2:=HOW.out;clear HOW;generalize World.drew w2=wd at *;refine cW (i:=10) (fuel:=4) (by kernel_rfl) rfl rfl λK' hK'=>?_;unfold Oper.wp;go_simp;have hk6:=hkd.trans (Kept.alloc (S:=λb=>(Value.slice lA (st.L i).length lc).ownBlock=some b) wd (.cells #[.int .i64 (st.N i 3)] 2));refine hK' _ _ hk6 ?_;clear hK' K'
  try simp only[Act.put,zA]
  obtain⟨i0,hi0,hz0,hz1,hz2⟩:=info_parts Try.infoNu;refine cW (i:=11) (fuel:=3) (by kernel_rfl) rfl rfl λK' hK'=>?_;refine wp_append_lies (P:=Try.prog) (wd.alloc (.cells #[.int .i64 (st.N i 3)] 2)) (.tmp 144) (.tmp 150) 29 rfl B 2 i0 (.int .i64 0) 1 8 Try.underlying29 hi0 hz0 hz1 hz2 rfl (by decide) (.slice lA (st.L i).length lc) (st.L i).length _ rfl (how2.alloc _) ⟨wd.heap.size,0,none⟩ 1 1 [.int .i64 (st.N i 3)] rfl rfl (World.news_of_block (cs:=#[.int .i64 (st.N i 3)]) (t:=2) (fr:=(0,0)) (Blk.new wd 2 #[.int .i64 (st.N i 3)])) (by simp[Value.oneCell']) (by omega) (by unfold maxLen;omega) (by omega) (by simp;omega) (wd.heap.size+1) (by simp) ?_;intro gg cap2 w3 hown hgrow hgat hgl
  have hm3:=see_rows (hmd.alloc (.cells #[.int .i64 (st.N i 3)] 2)) hi hown (by rw[HR.out.2.2.2.2];exact hgrow) (by
   rw[HR.out.2.2.2.2]
   rcases hgat with z | z
   ·exact .inl z.symm
   ·right; rw[z];simp[Value.ownBlock])
  have hkw:=hk6.trans (Kept.grown (S:=λb=>(Value.slice lA (st.L i).length lc).ownBlock=some b) hgrow (λk hk=>hk));have bw3:Below B w w3:=(bwd.alloc hBd _).grown hgrow (by simp;omega) (λk hk=>(how2.lt k hk).1);have t11:w3.cell? ⟨tb i,11,none⟩=some (.slice lA (st.L i).length lc):=by rw[oH hm3 hi 11 (by omega)];exact congrArg some HR.out.2.2.2.2
  have z11:=iG hm3 hi 11;have t2:=oH hm3 hi 2 (by omega);have z2:=iG hm3 hi 2;simp only[tdF] at t2;refine hK' _ _ hkw ?_;clear hK' K' hown hgrow hgat hgl hk6 how2 hmd bwd hkd hBd;have HKW:=qd hkw;have HM1:=qd (And.intro hm3 bw3);clear hkw hm3 bw3
  try simp only[Act.put,zA,List.getElem_toArray,List.getElem_cons_zero,List.getElem_cons_succ]
  refine cW (i:=12) (fuel:=2) (by kernel_rfl) rfl rfl λK' hK'=>?_;unfold Oper.wp;go_simp;refine hK' _ _ HKW.out ?_;clear hK' K'
  try simp only[Act.put,zA]
  refine cW (i:=13) (fuel:=1) (by kernel_rfl) rfl rfl λK' hK'=>?_;unfold Oper.wp;go_simp;refine hK' _ _ HKW.out ?_;clear hK' K'
  try simp only[Act.put,zA]
  refine cW (i:=14) (fuel:=0) (by kernel_rfl) rfl rfl λK' hK'=>?_;unfold Oper.wp;go_simp;refine hK' _ _ HKW.out ?_;clear hK' K'
  try simp only[Act.put,zA]
  clear HKW;refine wpAnyH_done (by kernel_rfl) ?_ _;simp only[Exit.then];refine aX (m:=14) rfl ?_;go_wp2;clear t11 z11 t2 z2;have hm4:=sPc (st:=st.see i (st.N i 3)) (see_shut (gset HM1.out.1 hi 11 (.slice (some ⟨gg,0,none⟩) ((st.L i).length+1) cap2))) hi 51;have bw4:=(HM1.out.2.setCell (p:=⟨tb i,11,none⟩) hBt (.slice (some ⟨gg,0,none⟩) ((st.L i).length+1) cap2)).setCell (p:=⟨tb i,2,none⟩) hBt (.int .i64 51);have HM:=qd (And.intro hm4 bw4);clear hm4 bw4 HM1;generalize (w3.setCell ⟨tb i,11,none⟩ (.slice (some ⟨gg,0,none⟩) ((st.L i).length+1) cap2)).setCell ⟨tb i,2,none⟩ (.int .i64 51)=w4 at *;rename_i K0 hK0;have t7:=aS HM.out.1 hi 7 (by omega)
  simp[tdF,RS.see,RS.stand] at t7
  have t11:=aS HM.out.1 hi 11 (by omega)
  simp[tdF] at t11
  have t3:=aS HM.out.1 hi 3 (by omega)
  simp[tdF,RS.see,RS.stand] at t3
  by_cases c2:q=st.N i 4
  ·have d2:(q==st.N i 4)=true:=by simpa using c2
   have HE3:Hid (sf=((st.see i (st.N i 3)).stand i 51).stand i 54):=qd (HE2.out.trans (if_pos (.inl c2)));clear c2 HE2
   go_quiet (fail)
   replace HM:=qd (And.intro (HM.out.1.drewN nq) (HM.out.2.trans (Below.drewN (Below.refl B _) nq)));generalize World.drewN _ nq=w5 at *;refine hK0 _ _ ?_;clear hK0 K0 t7 t11 t3;have t2:=aS HM.out.1 hi 2 (by omega);have z2:=bC HM.out.1 hi 2;simp only[tdF] at t2;go_wp2
   go_end0
   exact⟨rfl,HE3.out▸⟨_,sPc HM.out.1 hi 54⟩,HM.out.2.setCell (p:=⟨tb i,2,none⟩) hBt _⟩
  ·have d2:(q==st.N i 4)=false:=by simpa using c2
   by_cases c3:((st.L i).length:Int)+1=st.N i 0
   ·have d3:(((st.L i).length:Int)+1==st.N i 0)=true:=by simpa using c3
    have HE3:Hid (sf=((st.see i (st.N i 3)).stand i 51).stand i 54):=qd (HE2.out.trans (if_pos (.inr c3)));clear c2 c3 HE2
    go_quiet (fail)
    replace HM:=qd (And.intro (HM.out.1.drewN nq) (HM.out.2.trans (Below.drewN (Below.refl B _) nq)));generalize World.drewN _ nq=w5 at *;refine hK0 _ _ ?_;clear hK0 K0 t7 t11 t3;have t2:=aS HM.out.1 hi 2 (by omega);have z2:=bC HM.out.1 hi 2;simp only[tdF] at t2;go_wp2
    go_end0
    exact⟨rfl,HE3.out▸⟨_,sPc HM.out.1 hi 54⟩,HM.out.2.setCell (p:=⟨tb i,2,none⟩) hBt _⟩
   ·have d3:(((st.L i).length:Int)+1==st.N i 0)=false:=by simpa using c3
    have HE3:Hid (sf=(st.see i (st.N i 3)).stand i 51):=qd (HE2.out.trans (if_neg (λz=>z.elim c2 c3)));clear c2 c3 HE2
    go_quiet (fail)
    replace HM:=qd (And.intro (HM.out.1.drewN nq) (HM.out.2.trans (Below.drewN (Below.refl B _) nq)));generalize World.drewN _ nq=w5 at *;refine hK0 _ _ ?_;clear hK0 K0 t7 t11 t3;go_wp2
    go_end0
    exact⟨rfl,HE3.out▸⟨_,HM.out.1⟩,HM.out.2⟩
 ·have d1:(st.S k !=st.N i 5)=true:=by simpa using c1
  have HE2:=qd (HE.out.trans (if_pos c1));clear c1 HE;go_wp2;rename_i K0 hK0
  go_quiet (fail)
  replace HM:=qd (And.intro (HM.out.1.drewN nq) (HM.out.2.trans (Below.drewN (Below.refl B _) nq)));generalize World.drewN _ nq=w2 at *;refine hK0 _ _ ?_;clear hK0 K0;clear m0 m1 cS zS t8 t2
  go_wp2_with fail
  refine(iD HM.out.1 (Nat.le_trans hB HM.out.2.size) hi hat hans hl31 10).mono ?_;rintro x w9 ⟨rfl,h2,b2⟩;have H2:=qd (And.intro h2 (HM.out.2.trans b2));clear h2 b2;go_wp2
  try simp only[Exit.inBlock,Exit.then]
  refine bodyPost_ret (results_none rfl _ _ _) rfl ?_;exact⟨rfl,HE2.out▸H2.out⟩
end Go.Proofs.Ytlcplealnbekeaa
namespace Go.Proofs.Ytlcplealnbekeaa
open Go.RowKit Go.Turn
open Go.ConcN (upd upd_ne upd_same)
theorem Mems.far {ρ:Type} [DecidableEq ρ] {B:Nat}{R:ρ->Option Row}{w:World}(h:Mems B R w) {b:Nat}(hn:∀ r d,R r=some d->d.v.ownBlock≠some b) (k:Nat) (u:Value):Mems B R (w.setCell ⟨b,k,none⟩ u):=by
 obtain⟨lab,q⟩:=h.ex;refine⟨lab,λr d hr=>⟨(q r d hr).1.same λb' hb=>Below.heap_setCell _ _ _ _ λz=>?_,(q r d hr).2⟩⟩;exact hn r d hr (by rw[hb];exact congrArg some z)
theorem read54_ok {B mb:Nat}{tb:Nat->Nat}{st:RS}{V:Rt->Value}{w:World}{i:Nat}(h:Mems B (aY mb tb st V) w) (hB:B<=w.heap.size) (hi:i<st.n) (hok:st.Ok) {o:OpI}(ho:(st.ops i)[st.at_ i]?=some o) (ha:RS.At st i o) {r:Nat}(hr:i=r+1) (hp:st.pc i=54):Calls Try.prog 53 #[.pointer (some ⟨mb,0,none⟩),.pointer (some ⟨tb i,0,none⟩),.int .i64 r] w λx w'=>x=.returned (.tuple #[])/\SMem B mb tb (st.read i o) w'/\Below B w w':=by
 have hpc5:st.pc i=50\/st.pc i=51\/st.pc i=52\/st.pc i=53\/st.pc i=54:=by omega
 have hBt:B<=tb i:=(h.lt (r:=.th i) (gth hi) (b:=tb i) rfl).1;have hBm:B<=mb:=(h.lt (r:=.box) rfl (b:=mb) rfl).1;have hx:=hok.x i;have hat0:=(List.getElem?_eq_some_iff.1 ho).1;have hlen:=hok.len i hi;have hat:st.at_ i<65536:=by omega
 have hans:(st.ans i).length<65536:=by rw[hok.ans i hi];exact hat
 have s0:=hok.s0;have s1:=hok.s1
 obtain ⟨hrd,hN1,hN2,h50,h53,h54⟩:r<st.rd/\1<=st.N i 0/\st.N i 0<=2147483647/\(st.pc i=50->st.L i=[])/\(51<=st.pc i->st.pc i<=53->st.place r+1+(st.L i).length<=st.N i 4/\st.N i 4<4611686018427387904/\((st.L i).length:Int)<st.N i 0)/\(st.pc i=54->st.L i≠[]/\st.place r+(st.L i).length<4611686018427387904/\((st.L i).length:Int)<=st.N i 0):=by
  cases ha with
  | look q=>omega
  | put q=>omega
  | pub q=>omega
  | get _ q1 q2 _ q3 q4 q5 q6 q7=>exact⟨by omega,q3,q4,q5,by rw[show i-1=r by omega] at q6;exact q6,by rw[show i-1=r by omega] at q7;exact q7⟩
 obtain⟨p0,p1⟩:=hok.pl r hrd;obtain⟨sb,sc,hS,hsc,hsm⟩:=srow h s0;obtain⟨vb,vc,hV,hvc,hvm⟩:=vrow h s0;obtain⟨pb,pc_,hP,hpc,hpm⟩:=bS h (r:=.Pl) (e:=2) (sz:=1) (v:=V .Pl) (n:=st.rd) (f:=λj=>.int .i64 (st.place j)) rfl (by omega);obtain⟨nb,nc,hN,hnc,hnm⟩:=bS h (r:=.Nu) (e:=2) (sz:=1) (v:=V .Nu) (n:=st.rd) (f:=λj=>.int .i64 (st.num j)) rfl (by omega);obtain⟨lA,lc,hL⟩:=lrow h hi;have hSr:aY mb tb st V .S=some ⟨2,1,.slice (some ⟨sb,0,none⟩) st.size sc,st.size,λj=>.int .i64 (st.S j)⟩:=by rw[<-hS];rfl
 have hVr:aY mb tb st V .V=some ⟨2,1,.slice (some ⟨vb,0,none⟩) st.size vc,st.size,λj=>.int .i64 (st.V j)⟩:=by rw[<-hV];rfl
 have hPr:aY mb tb st V .Pl=some ⟨2,1,.slice (some ⟨pb,0,none⟩) st.rd pc_,st.rd,λj=>.int .i64 (st.place j)⟩:=by rw[<-hP];rfl
 have hNr:aY mb tb st V .Nu=some ⟨2,1,.slice (some ⟨nb,0,none⟩) st.rd nc,st.rd,λj=>.int .i64 (st.num j)⟩:=by rw[<-hN];rfl
 obtain⟨hBp,-⟩:=dT h hPr;obtain⟨hBn,-⟩:=dT h hNr;have hth:=gth (R:=bQ tb st V) (G:=bxF st V) (F:=tdF st V) (mb:=mb) (tb:=tb) hi;have hne1:¬tb i=mb:=λz=>cD h (r:=.box) (r':=.th i) rfl hth (by simp) (b:=mb) rfl (by rw[<-z];rfl);have hne2:¬mb=tb i:=λz=>hne1 z.symm;have npt:¬pb=tb i:=λz=>cD h hPr hth (by simp) (b:=pb) rfl (by rw[z];rfl);have npt':¬tb i=pb:=λz=>npt z.symm
 have hl31:((st.L i).length:Int)<=2147483647:=by
  rcases hpc5 with z | z | z | z | z
  ·rw [h50 z];decide
  ·have:=(h53 (by omega) (by omega)).2.2;omega
  ·have:=(h53 (by omega) (by omega)).2.2;omega
  ·have:=(h53 (by omega) (by omega)).2.2;omega
  ·have:=(h54 z).2.2;omega
 obtain⟨q,hq⟩:∃ q,q=st.place r+1+((st.L i).length:Int):=⟨_,rfl⟩;have q0:0<=q:=by omega
 have q1:q<4611686020574871552:=by omega
 obtain⟨k,hk⟩:∃ k:Nat,q%(st.size:Int)=k:=⟨(q%(st.size:Int)).toNat,by have:=Int.emod_nonneg q (show (st.size:Int)≠0 by omega);omega⟩;have hks:k<st.size:=by have:=Int.emod_lt_of_pos q (show (0:Int)<st.size by omega);omega
 obtain⟨l,hl⟩:∃ l,l=q / (st.size:Int):=⟨_,rfl⟩;have l0:0<=l:=by rw[hl];exact Int.ediv_nonneg q0 (by omega)
 have ll:l<=q:=by rw[hl];exact Int.ediv_le_self _ q0
 have HM:=qd (And.intro h (Below.refl B w));have HX:=qd hx;have HOK:=qd hok;have HO:=qd ho;have HA:=qd ha;have HR:=qd (And.intro hS (And.intro hV (And.intro hP (And.intro hN hL))));have HH:=qd (And.intro h50 (And.intro h53 h54));have HI:=qd (And.intro hr hq);obtain⟨sf,hsf⟩:∃ sf,sf=st.read i o:=⟨_,rfl⟩;rw[<-hsf];have hsf2:sf=st.read i o:=hsf;unfold RS.read at hsf2;dsimp only at hsf2;rw[show i-1=r by omega,<-hq,hk,<-hl] at hsf2;simp only[Int.toNat_natCast] at hsf2;have HF:=qd hsf2
 have ez:((st.size:Int)==0)=false:=by
  have:(st.size:Int)≠0:=by omega
  simpa using this
 have em:Int.tmod q (st.size:Int)=(k:Int):=by rw[Int.tmod_eq_emod_of_nonneg q0,hk]
 have ed:Int.tdiv q (st.size:Int)=l:=by rw[Int.tdiv_eq_ediv_of_nonneg q0,<-hl]
 have HQ:=qd (show st.place r+1+((st.L i).length:Int)=q from hq.symm);clear h hx ho ha hS hV hP hN hL hSr hVr hPr hNr hk hl hsf hsf2 hok hth h50 h53 h54 hr hq
 go_enter Try.func53,Try.ntmps53
 have m8:w.cell? ⟨mb,8,none⟩=some (.slice (some ⟨pb,0,none⟩) st.rd pc_):=by rw[bD HM.out.1 8 (by omega)];exact congrArg some HR.out.2.2.1
 have cP:w.cell? ⟨pb,r,none⟩=some (.int .i64 (st.place r)):=HM.out.1.cell (r:=.Pl) (e:=2) (sz:=1) (cap:=pc_) (n:=st.rd) (f:=λj=>.int .i64 (st.place j)) (by rw[<-HR.out.2.2.1];rfl) (by omega);have t11:w.cell? ⟨tb i,11,none⟩=some (.slice lA (st.L i).length lc):=by rw[aS HM.out.1 hi 11 (by omega)];exact congrArg some HR.out.2.2.2.2
 go_wp2;rename_i K0 hK0
 go_quiet (fail)
 rw[HQ.out];replace HM:=qd (And.intro (HM.out.1.drewN nq) (HM.out.2.trans (Below.drewN (Below.refl B _) nq)));generalize World.drewN _ nq=w1 at *;refine hK0 _ _ ?_;clear hK0 K0 m8 cP t11;have m0:=bD HM.out.1 0 (by omega)
 simp[bxF,RS.setN,RS.stand] at m0
 have t2:w1.cell? ⟨tb i,2,none⟩=some (.int .i64 54):=by rw[aS HM.out.1 hi 2 (by omega)];simp[tdF,hp]
 have HE:=qd (HF.out.trans ((if_neg (by omega)).trans ((if_neg (by omega)).trans ((if_neg (by omega)).trans ((if_neg (by omega)).trans (if_pos hp))))));obtain⟨gL,gb,-⟩:=HH.out.2.2 hp;have GL:=qd gL;clear hp hpc5 gL;have m8:w1.cell? ⟨mb,8,none⟩=some (.slice (some ⟨pb,0,none⟩) st.rd pc_):=by rw[bD HM.out.1 8 (by omega)];exact congrArg some HR.out.2.2.1
 have cP:w1.cell? ⟨pb,r,none⟩=some (.int .i64 (st.place r)):=HM.out.1.cell (r:=.Pl) (e:=2) (sz:=1) (cap:=pc_) (n:=st.rd) (f:=λj=>.int .i64 (st.place j)) (by rw[<-HR.out.2.2.1];rfl) (by omega);have t11:w1.cell? ⟨tb i,11,none⟩=some (.slice lA (st.L i).length lc):=by rw[aS HM.out.1 hi 11 (by omega)];exact congrArg some HR.out.2.2.2.2
 go_wp2;rename_i K0 hK0;refine aR 19 (by kernel_rfl) (by kernel_rfl) (by kernel_rfl) (by kernel_rfl) ?_;simp only[idle,zB,Nat.reduceAdd]
 repeat (go_big_quiet_step (fail))
 refine wpQuiet_nil ?_;rintro _ ⟨nq,rfl⟩;refine aX (m:=19) rfl ?_;replace HM:=qd (And.intro (HM.out.1.drewN nq) (HM.out.2.trans (Below.drewN (Below.refl B _) nq)));generalize World.drewN _ nq=w2 at *;clear m0 m8 cP t11;have cP:w2.cell? ⟨pb,r,none⟩=some (.int .i64 (st.place r)):=HM.out.1.cell (r:=.Pl) (e:=2) (sz:=1) (cap:=pc_) (n:=st.rd) (f:=λj=>.int .i64 (st.place j)) (by rw[<-HR.out.2.2.1];rfl) (by omega);have zP:w2.frozen? ⟨pb,r,none⟩=false:=HM.out.1.frozen (r:=.Pl) (e:=2) (sz:=1) (cap:=pc_) (n:=st.rd) (f:=λj=>.int .i64 (st.place j)) (by rw[<-HR.out.2.2.1];rfl) r;go_wp2;clear cP zP;obtain⟨np,hnp⟩:∃ np,np=st.place r+((st.L i).length:Int):=⟨_,rfl⟩;rw[<-hnp];have HNP:=qd hnp;have hm0:=sPl HM.out.1 HR.out.2.2.1 r np;have bw:=HM.out.2.setCell (p:=⟨pb,r,none⟩) hBp (.int .i64 np);have HM5:=qd (And.intro hm0 bw);clear HM hm0 bw hnp;have HM:Hid (Mems B (aY mb tb { st with place:=upd st.place r np } V) (w2.setCell ⟨pb,r,none⟩ (.int .i64 np))/\Below B w (w2.setCell ⟨pb,r,none⟩ (.int .i64 np))):=HM5;clear HM5;generalize w2.setCell ⟨pb,r,none⟩ (.int .i64 np)=w3 at *;have m8:w3.cell? ⟨mb,8,none⟩=some (.slice (some ⟨pb,0,none⟩) st.rd pc_):=by rw[bD HM.out.1 8 (by omega)];exact congrArg some HR.out.2.2.1
 have m4:w3.cell? ⟨mb,4,none⟩=some (.slice (some ⟨nb,0,none⟩) st.rd nc):=by rw[bD HM.out.1 4 (by omega)];exact congrArg some HR.out.2.2.2.1
 have cP:w3.cell? ⟨pb,r,none⟩=some (.int .i64 np):=by
  have e:=HM.out.1.cell (r:=.Pl) (e:=2) (sz:=1) (g:=pb) (cap:=pc_) (n:=st.rd) (f:=λj=>.int .i64 (upd st.place r np j)) (by rw[<-HR.out.2.2.1];rfl) (j:=r) (by omega);rw[e,upd_same]
 rename_i K0 hK0;refine aR 13 (by kernel_rfl) (by kernel_rfl) (by kernel_rfl) (by kernel_rfl) ?_;simp only[idle,zB,Nat.reduceAdd]
 repeat (go_big_quiet_step (fail))
 refine wpQuiet_nil ?_;rintro _ ⟨nq,rfl⟩;refine aX (m:=13) rfl ?_;replace HM:=qd (And.intro (HM.out.1.drewN nq) (HM.out.2.trans (Below.drewN (Below.refl B _) nq)));generalize World.drewN _ nq=w4 at *;clear m8 m4 cP;have cN:w4.cell? ⟨nb,r,none⟩=some (.int .i64 (st.num r)):=HM.out.1.cell (r:=.Nu) (e:=2) (sz:=1) (cap:=nc) (n:=st.rd) (f:=λj=>.int .i64 (st.num j)) (by rw[<-HR.out.2.2.2.1];rfl) (by omega);have zN:w4.frozen? ⟨nb,r,none⟩=false:=HM.out.1.frozen (r:=.Nu) (e:=2) (sz:=1) (cap:=nc) (n:=st.rd) (f:=λj=>.int .i64 (st.num j)) (by rw[<-HR.out.2.2.2.1];rfl) r;have t11:w4.cell? ⟨tb i,11,none⟩=some (.slice lA (st.L i).length lc):=by rw[aS HM.out.1 hi 11 (by omega)];exact congrArg some HR.out.2.2.2.2
 have hNr:aY mb tb ({ st with place:=upd st.place r np }:RS) V .Nu=some ⟨2,1,.slice (some ⟨nb,0,none⟩) st.rd nc,st.rd,λj=>.int .i64 (st.num j)⟩:=by rw[<-HR.out.2.2.2.1];rfl
 have hth:=gth (R:=bQ tb ({ st with place:=upd st.place r np }:RS) V) (G:=bxF ({ st with place:=upd st.place r np }:RS) V) (F:=tdF ({ st with place:=upd st.place r np }:RS) V) (mb:=mb) (tb:=tb) hi;have nnt:¬nb=tb i:=λz=>cD HM.out.1 hNr hth (by simp) (b:=nb) rfl (by rw[z];rfl);have nnt':¬tb i=nb:=λz=>nnt z.symm;have hN8:∀ r' d,aY mb tb ({ st with place:=upd st.place r np,num:=upd st.num r np }:RS) V r'=some d->d.v.ownBlock≠some w4.heap.size:=λr' d hr' z=>by have:=((sNum HM.out.1 HR.out.2.2.2.1 r np).lt hr' z).2;simp at this
 have hmA:=(sNum HM.out.1 HR.out.2.2.2.1 r np).alloc (.cells #[.bool true,.int .i64 0,.slice lA (st.L i).length lc] 48);have hB4:B<=w4.heap.size:=Nat.le_trans hB HM.out.2.size;have bwA:=(HM.out.2.setCell (p:=⟨nb,r,none⟩) hBn (.int .i64 np)).alloc (by simpa using hB4) (.cells #[.bool true,.int .i64 0,.slice lA (st.L i).length lc] 48);have hb7:=Blk.new (w4.setCell ⟨nb,r,none⟩ (.int .i64 np)) 48 #[.bool true,.int .i64 0,.slice lA (st.L i).length lc];simp only[World.size_setCell] at hb7;have HMA:=qd (And.intro hmA bwA);have HB7:=qd hb7;have HN8:=qd hN8;clear hmA bwA hb7 hNr hth hN8
 go_wp2_with fail
 clear cN zN t11 HM;have HM:=HMA;clear HMA;generalize hb8:w4.heap.size=b8 at *;clear hb8;generalize (w4.setCell ⟨nb,r,none⟩ (.int .i64 np)).alloc (.cells #[.bool true,.int .i64 0,.slice lA (st.L i).length lc] 48)=w5 at *;refine(mM HM.out.1 hi HO.out hlen).mono ?_;rintro x w6 ⟨rfl,hk⟩;have hm:=qd (And.intro (HM.out.1.same λb hb=>hk.block b hb id) (HM.out.2.trans (hk.to_below (B:=B) (λ_ z=>z.elim) (Nat.le_trans hB HM.out.2.size))));have hb7:=HB7.out.kept hk id;clear HM hk HB7;have HM:=hm;clear hm;obtain⟨kd,oa,ob,oc⟩:=o;simp only[OpI.val];have hf0:=qM;have u0:=hb7.cell 0;have u1:=hb7.cell 1;have u2:=hb7.cell 2;have z0:=hb7.frozen 0;have z1:=hb7.frozen 1;have z2:=hb7.frozen 2;simp only[zD] at u0 u1 u2;have hHE:Hid (sf=({ st with place:=upd st.place r np,num:=upd st.num r np }:RS).end_ i (if kd=5 then⟨true,(st.L i).headD 0,[]⟩ else⟨true,0,st.L i⟩)):=qd (by have e:=HE.out;rw[<-HNP.out] at e;exact e);clear HE
 by_cases k5:kd=5
 ·have n5:(kd==5)=true:=by simpa using k5
  have HE2:Hid (sf=({ st with place:=upd st.place r np,num:=upd st.num r np }:RS).end_ i ⟨true,(st.L i).headD 0,[]⟩):=qd (by have e:=hHE.out;rw[if_pos k5] at e;exact e);clear k5;obtain⟨g,c,e1,e2,e3⟩:=bS HM.out.1 (r:=.L i) (e:=2) (sz:=1) (v:=V (.L i)) (n:=(st.L i).length) (f:=λj=>.int .i64 ((st.L i).getD j 0)) (by simp only[aY,bW,bQ,dL];exact if_pos hi) (List.length_pos_iff.2 GL.out);obtain⟨x0,hx0⟩:∃ x0,x0=(st.L i).headD 0:=⟨_,rfl⟩;rw[<-hx0] at HE2
  have cL:w6.cell? ⟨g,0,none⟩=some (.int .i64 x0):=by
   rw[hx0];have e:=HM.out.1.cell (r:=.L i) (e:=2) (sz:=1) (g:=g) (cap:=c) (n:=(st.L i).length) (f:=λj=>.int .i64 ((st.L i).getD j 0)) (by rw[<-e1];simp only[aY,bW,bQ,dL];exact if_pos hi) (j:=0) (by have:=List.length_pos_iff.2 GL.out;omega);rw[e];cases hc:st.L i with
   | nil=>rfl
   | cons a t=>rfl
  have t11:w6.cell? ⟨tb i,11,none⟩=some (.slice (some ⟨g,0,none⟩) (st.L i).length c):=by rw[aS HM.out.1 hi 11 (by omega)];exact congrArg some e1
  have hpos:0<(st.L i).length:=List.length_pos_iff.2 GL.out;clear hb7 e1 hx0;have hm9:=((HM.out.1.far HN8.out 0 (.bool true)).far HN8.out 1 (.int .i64 x0)).far HN8.out 2 (.slice none 0 0);have bw9:=((HM.out.2.setCell (p:=⟨b8,0,none⟩) hB4 (.bool true)).setCell (p:=⟨b8,1,none⟩) hB4 (.int .i64 x0)).setCell (p:=⟨b8,2,none⟩) hB4 (.slice none 0 0);have HM9:=qd (And.intro hm9 bw9);clear hm9 bw9
  go_wp2_with fail
  refine(bN HM9.out.1 (Nat.le_trans hB HM9.out.2.size) hi hat hans ⟨true,x0,[]⟩ nilS ⟨none,0,rfl⟩ (.inl ⟨rfl,rfl⟩)).mono ?_;rintro x w9 ⟨rfl,h2,b2⟩;have H2:=qd (And.intro h2 (HM9.out.2.trans b2));clear h2 b2;go_wp2
  go_end0
  exact⟨rfl,HE2.out▸H2.out⟩
 ·have n5:(kd==5)=false:=by simpa using k5
  have HE2:Hid (sf=({ st with place:=upd st.place r np,num:=upd st.num r np }:RS).end_ i ⟨true,0,st.L i⟩):=qd (by have e:=hHE.out;rw[if_neg k5] at e;exact e);clear k5 hb7
  go_wp2_with fail
  refine(bN HM.out.1 (Nat.le_trans hB HM.out.2.size) hi hat hans ⟨true,0,st.L i⟩ (.slice lA (st.L i).length lc) ⟨lA,lc,rfl⟩ (.inr ⟨rfl,HR.out.2.2.2.2.symm⟩)).mono ?_;rintro x w9 ⟨rfl,h2,b2⟩;have H2:=qd (And.intro h2 (HM.out.2.trans b2));clear h2 b2;go_wp2
  go_end0
  exact⟨rfl,HE2.out▸H2.out⟩
end Go.Proofs.Ytlcplealnbekeaa
namespace Go.Proofs.Ytlcplealnbekeaa
open Go.RowKit Go.Turn
open Go.ConcN (upd upd_ne upd_same)
theorem RS.step_n (m:RS) (i:Nat) (o:OpI):(m.step i o).n=m.n:=by
 unfold RS.step RS.write RS.read RS.claimed RS.refused;dsimp only
 repeat' split
 all_goals rfl
theorem read12_ok {B mb:Nat}{tb:Nat->Nat}{st:RS}{V:Rt->Value}{w:World}{i:Nat}(h:Mems B (aY mb tb st V) w) (hB:B<=w.heap.size) (hi:i<st.n) (hok:st.Ok) {o:OpI}(ho:(st.ops i)[st.at_ i]?=some o) (ha:RS.At st i o) {r:Nat}(hr:i=r+1) (hp:st.pc i=50\/st.pc i=51\/st.pc i=52\/st.pc i=53\/st.pc i=54):Calls Try.prog 53 #[.pointer (some ⟨mb,0,none⟩),.pointer (some ⟨tb i,0,none⟩),.int .i64 r] w λx w'=>x=.returned (.tuple #[])/\SMem B mb tb (st.read i o) w'/\Below B w w':=by
 rcases hp with z | z | z | z | z
 ·exact read50_ok h hB hi hok ho ha hr z
 ·exact read51_ok h hB hi hok ho ha hr z
 ·exact read52_ok h hB hi hok ho ha hr z
 ·exact read53_ok h hB hi hok ho ha hr z
 ·exact read54_ok h hB hi hok ho ha hr z
section
variable {B mb:Nat}{tb:Nat->Nat}{st:RS}{V:Rt->Value}{w w':World}{i:Nat}
theorem step12_ok (h:Mems B (aY mb tb st V) w) (hB:B<=w.heap.size) (hi:i<st.n) (hok:st.Ok) (hp:st.pc i≠0) {o:OpI}(ho:(st.ops i)[st.at_ i]?=some o):Calls Try.prog 30 #[.pointer (some ⟨mb,0,none⟩),.int .i64 i] w λx w'=>x=.returned (.tuple #[])/\SMem B mb tb (st.does i) w'/\Below B w w':=by
 have hBt:B<=tb i:=(h.lt (r:=.th i) (gth hi) (b:=tb i) rfl).1;have hBm:B<=mb:=(h.lt (r:=.box) rfl (b:=mb) rfl).1;have hn:=hok.n;have rd64:=hok.rd;obtain⟨g,c,hT,hgc,hcm⟩:=bS h (r:=.T) (e:=116) (sz:=1) (v:=V .T) (n:=st.n) (f:=λj=>.pointer (some ⟨tb j,0,none⟩)) rfl (by omega);have hTc:w.cell? ⟨g,i,none⟩=some (.pointer (some ⟨tb i,0,none⟩)):=h.cell (r:=.T) (e:=116) (sz:=1) (cap:=c) (n:=st.n) (f:=λj=>.pointer (some ⟨tb j,0,none⟩)) (by rw[<-hT];rfl) (by omega);have HST:=qd (hok.step hi hp ho);have HD:=qd (show st.does i=(st.step i o).settled i by unfold RS.does;rw[ho]);obtain⟨o',ho',ha⟩:=hok.live i hi hp;have eo:o'=o:=by rw[ho] at ho';cases ho';rfl
 subst eo;have hf:=hok.op i hi o' (List.mem_of_getElem? ho);have HM:=qd (And.intro h (Below.refl B w));have HT:=qd hT;have HK:=qd hok;have HO:=qd ho;have HF:=qd hf;have m9:w.cell? ⟨mb,9,none⟩=some (.slice (some ⟨g,0,none⟩) st.n c):=by rw[bD h 9 (by omega)];exact congrArg some hT
 unfold maxLen at hcm;clear h hok hT ho ho' hf
 go_enter Try.func30,Try.ntmps30
 have HA:=qd ha;cases ha with
 | look q0 q1 q2 q3 q4 q5 q6 q7 =>
   have t2:w.cell? ⟨tb i,2,none⟩=some (.int .i64 10):=by rw[aS HM.out.1 hi 2 (by omega)];simp[tdF,q0]
   have HP:=qd (And.intro q0 (And.intro q1 (And.intro q3 (And.intro q4 q5))));clear q0 q1 q2;obtain⟨k,hk⟩:∃ k:Nat,st.N i 2=k:=⟨(st.N i 2).toNat,by omega⟩;rw[hk] at q6 q7;have hkr:k<st.rd:=by omega
   obtain⟨nb,nc,hN,hnc,hnm⟩:=bS HM.out.1 (r:=.Nu) (e:=2) (sz:=1) (v:=V .Nu) (n:=st.rd) (f:=λj=>.int .i64 (st.num j)) rfl (by omega);have cN:w.cell? ⟨nb,k,none⟩=some (.int .i64 (st.num k)):=HM.out.1.cell (r:=.Nu) (e:=2) (sz:=1) (cap:=nc) (n:=st.rd) (f:=λj=>.int .i64 (st.num j)) (by rw[<-hN];rfl) (by omega);have m4:w.cell? ⟨mb,4,none⟩=some (.slice (some ⟨nb,0,none⟩) st.rd nc):=by rw[bD HM.out.1 4 (by omega)];exact congrArg some hN
   have t5:w.cell? ⟨tb i,5,none⟩=some (.int .i64 (k:Int)):=by rw[aS HM.out.1 hi 5 (by omega)];simp[tdF,hk]
   have m6:=bD HM.out.1 6 (by omega);simp only[bxF] at m6;unfold maxLen at hnm;have HK2:=qd hk;have HN:=qd hN;clear hk hN q6 q7;go_wp2;clear m9 hTc t2;rename_i K0 hK0
   by_cases c1:st.num k<st.cached
   ·have d1:decide (st.num k<st.cached)=true:=decide_eq_true c1
    have HC:=qd c1;clear c1
    go_quiet (fail)
    replace HM:=qd (And.intro (HM.out.1.drewN nq) (HM.out.2.trans (Below.drewN (Below.refl B _) nq)));generalize World.drewN _ nq=w1 at *;refine hK0 _ _ ?_;clear hK0 K0 m4 cN t5 m6 d1;have cN:w1.cell? ⟨nb,k,none⟩=some (.int .i64 (st.num k)):=HM.out.1.cell (r:=.Nu) (e:=2) (sz:=1) (cap:=nc) (n:=st.rd) (f:=λj=>.int .i64 (st.num j)) (by rw[<-HN.out];rfl) (by omega);have m4:w1.cell? ⟨mb,4,none⟩=some (.slice (some ⟨nb,0,none⟩) st.rd nc):=by rw[bD HM.out.1 4 (by omega)];exact congrArg some HN.out
    have t5:w1.cell? ⟨tb i,5,none⟩=some (.int .i64 (k:Int)):=by rw[aS HM.out.1 hi 5 (by omega)];simp[tdF,HK2.out]
    have m6:=bD HM.out.1 6 (by omega);have z6:=iF HM.out.1 6;simp only[bxF] at m6;go_wp2
    have HQ:Hid (st.step i o'=if (k:Int)+1=st.rd then(RS.setN { st with cached:=st.num k,old:=st.old } i 2 ((k:Int)+1)).claimed i o' else RS.setN { st with cached:=st.num k,old:=st.old } i 2 ((k:Int)+1)):=qd (by
     unfold RS.step;rw[if_pos HP.out.1,HK2.out];simp only[Int.toNat_natCast];rw[if_pos (show st.num k<st.cached from HC.out)]
     rfl)
    have HX1:Hid (RS.OkX { st with cached:=st.num k,old:=st.old } i):=qd ((HK.out.x i).turnd ⟨rfl,rfl,rfl,rfl,rfl,λ_ _=>⟨rfl,rfl,rfl,rfl,rfl,rfl⟩,λ_ _=>rfl,λe=>absurd HP.out.2.1 e⟩ ⟨HK.out.nx0,HK.out.nx1,(HK.out.nu k hkr).1,Int.le_of_lt (HK.out.nu k hkr).2,HK.out.dn0,HK.out.dn1,HK.out.cu0,HK.out.cu1,HK.out.nu,HK.out.pl⟩ rfl rfl);rename_i K0 hK0;refine aR 14 (by kernel_rfl) (by kernel_rfl) (by kernel_rfl) (by kernel_rfl) ?_;simp only[idle,zB,Nat.reduceAdd]
    repeat (go_big_quiet_step (fail))
    refine wpQuiet_nil ?_;rintro _ ⟨nq,rfl⟩;refine aX (m:=14) rfl ?_;replace HM:=qd (And.intro (HM.out.1.drewN nq) (HM.out.2.trans (Below.drewN (Below.refl B _) nq)));generalize World.drewN _ nq=w2 at *;clear cN m4 t5 m6 z6;have m6:=bD HM.out.1 6 (by omega);have z6:=iF HM.out.1 6;simp only[bxF] at m6;go_wp2;clear m6 z6;have hm0:Mems B _ (World.setCell _ ⟨mb,6,none⟩ (.int .i64 (st.num k))):=sCached HM.out.1 (st.num k) st.old;have hm:=qd (And.intro hm0 (HM.out.2.setCell (p:=⟨mb,6,none⟩) hBm (.int .i64 (st.num k))));clear HM hm0;have HM:=hm;clear hm;generalize World.setCell _ _ _=w3 at *;have t5:w3.cell? ⟨tb i,5,none⟩=some (.int .i64 (k:Int)):=by rw[aS HM.out.1 hi 5 (by omega)];simp[tdF,HK2.out]
    rename_i K0 hK0;refine aR 10 (by kernel_rfl) (by kernel_rfl) (by kernel_rfl) (by kernel_rfl) ?_;simp only[idle,zB,Nat.reduceAdd]
    repeat (go_big_quiet_step (fail))
    refine wpQuiet_nil ?_;rintro _ ⟨nq,rfl⟩;refine aX (m:=10) rfl ?_;replace HM:=qd (And.intro (HM.out.1.drewN nq) (HM.out.2.trans (Below.drewN (Below.refl B _) nq)));generalize World.drewN _ nq=w4 at *;clear t5;have t5:w4.cell? ⟨tb i,5,none⟩=some (.int .i64 (k:Int)):=by rw[aS HM.out.1 hi 5 (by omega)];simp[tdF,HK2.out]
    have z5:=bC HM.out.1 hi 5;go_wp2;clear t5 z5;have hm0:Mems B _ (World.setCell _ ⟨tb i,5,none⟩ (.int .i64 ((k:Int)+1))):=sN HM.out.1 hi 2 (by omega) ((k:Int)+1);have hm:=qd (And.intro hm0 (HM.out.2.setCell (p:=⟨tb i,5,none⟩) hBt (.int .i64 ((k:Int)+1))));clear HM hm0;have HM:=hm;clear hm;generalize World.setCell _ _ _=w5 at *;have t5:w5.cell? ⟨tb i,5,none⟩=some (.int .i64 ((k:Int)+1)):=by rw[aS HM.out.1 hi 5 (by omega)];simp[tdF,RS.setN,upd]
    have m10:=bD HM.out.1 10 (by omega)
    simp[bxF,RS.setN] at m10
    rename_i K0 hK0
    by_cases c5:(k:Int)+1=st.rd
    ·have d5:((k:Int)+1==st.rd)=true:=by simpa using c5
     have HQ2:=qd (HQ.out.trans (if_pos c5));clear c5
     go_quiet (fail)
     replace HM:=qd (And.intro (HM.out.1.drewN nq) (HM.out.2.trans (Below.drewN (Below.refl B _) nq)));generalize World.drewN _ nq=w6 at *;refine hK0 _ _ ?_;clear hK0 K0 t5 m10
     go_wp2_with fail
     refine(fQ HM.out.1 (Nat.le_trans hB HM.out.2.size) hi (HX1.out.setN 2 _) HO.out (by show 1<=upd st.N i _ i 0;rw[upd_same,upd_ne _ _ (by decide)];exact HP.out.2.2.1) (by show upd st.N i _ i 0<=_;rw[upd_same,upd_ne _ _ (by decide)];exact HP.out.2.2.2.1) (by show st.next+upd st.N i _ i 0<=_;rw[upd_same,upd_ne _ _ (by decide)];exact HP.out.2.2.2.2)).mono ?_;rintro x w7 ⟨rfl,h2,b2⟩;have HM2:=qd (And.intro h2 (HM.out.2.trans b2));clear h2 b2;rw[<-HQ2.out] at HM2
     go_wp2_with fail
     refine(dB (st:=st.step i o') HM2.out.1.choose_spec (Nat.le_trans hB HM2.out.2.size) (by rw[RS.step_n];exact hi) HST.out).mono ?_;rintro x w9 ⟨rfl,h9,b9⟩;have H9:=qd (And.intro h9 (HM2.out.2.trans b9));clear h9 b9;go_wp2
     go_end0
     exact⟨rfl,HD.out▸H9.out⟩
    ·have d5:((k:Int)+1==st.rd)=false:=by simpa using c5
     have HQ2:=qd (HQ.out.trans (if_neg c5));clear c5
     go_quiet (fail)
     replace HM:=qd (And.intro (HM.out.1.drewN nq) (HM.out.2.trans (Below.drewN (Below.refl B _) nq)));generalize World.drewN _ nq=w6 at *;refine hK0 _ _ ?_;clear hK0 K0 t5 m10;have HM2:Hid (SMem B mb tb (st.step i o') w6/\Below B w w6):=qd ⟨HQ2.out▸⟨V,HM.out.1⟩,HM.out.2⟩
     go_wp2_with fail
     refine(dB (st:=st.step i o') HM2.out.1.choose_spec (Nat.le_trans hB HM2.out.2.size) (by rw[RS.step_n];exact hi) HST.out).mono ?_;rintro x w9 ⟨rfl,h9,b9⟩;have H9:=qd (And.intro h9 (HM2.out.2.trans b9));clear h9 b9;go_wp2
     go_end0
     exact⟨rfl,HD.out▸H9.out⟩
   ·have d1:decide (st.num k<st.cached)=false:=decide_eq_false c1
    have HC:=qd c1;clear c1
    go_quiet (fail)
    replace HM:=qd (And.intro (HM.out.1.drewN nq) (HM.out.2.trans (Below.drewN (Below.refl B _) nq)));generalize World.drewN _ nq=w3 at *;refine hK0 _ _ ?_;clear hK0 K0 m4 cN t5 m6 d1;go_wp2
    have HQ:Hid (st.step i o'=if (k:Int)+1=st.rd then(RS.setN st i 2 ((k:Int)+1)).claimed i o' else RS.setN st i 2 ((k:Int)+1)):=qd (by
     unfold RS.step;rw[if_pos HP.out.1,HK2.out];simp only[Int.toNat_natCast];rw[if_neg (show ¬st.num k<st.cached by have:=HC.out;omega)]
     rfl)
    have HX1:Hid (st.OkX i):=qd (HK.out.x i);have t5:w3.cell? ⟨tb i,5,none⟩=some (.int .i64 (k:Int)):=by rw[aS HM.out.1 hi 5 (by omega)];simp[tdF,HK2.out]
    rename_i K0 hK0;refine aR 10 (by kernel_rfl) (by kernel_rfl) (by kernel_rfl) (by kernel_rfl) ?_;simp only[idle,zB,Nat.reduceAdd]
    repeat (go_big_quiet_step (fail))
    refine wpQuiet_nil ?_;rintro _ ⟨nq,rfl⟩;refine aX (m:=10) rfl ?_;replace HM:=qd (And.intro (HM.out.1.drewN nq) (HM.out.2.trans (Below.drewN (Below.refl B _) nq)));generalize World.drewN _ nq=w4 at *;clear t5;have t5:w4.cell? ⟨tb i,5,none⟩=some (.int .i64 (k:Int)):=by rw[aS HM.out.1 hi 5 (by omega)];simp[tdF,HK2.out]
    have z5:=bC HM.out.1 hi 5;go_wp2;clear t5 z5;have hm0:Mems B _ (World.setCell _ ⟨tb i,5,none⟩ (.int .i64 ((k:Int)+1))):=sN HM.out.1 hi 2 (by omega) ((k:Int)+1);have hm:=qd (And.intro hm0 (HM.out.2.setCell (p:=⟨tb i,5,none⟩) hBt (.int .i64 ((k:Int)+1))));clear HM hm0;have HM:=hm;clear hm;generalize World.setCell _ _ _=w5 at *;have t5:w5.cell? ⟨tb i,5,none⟩=some (.int .i64 ((k:Int)+1)):=by rw[aS HM.out.1 hi 5 (by omega)];simp[tdF,RS.setN,upd]
    have m10:=bD HM.out.1 10 (by omega)
    simp[bxF,RS.setN] at m10
    rename_i K0 hK0
    by_cases c5:(k:Int)+1=st.rd
    ·have d5:((k:Int)+1==st.rd)=true:=by simpa using c5
     have HQ2:=qd (HQ.out.trans (if_pos c5));clear c5
     go_quiet (fail)
     replace HM:=qd (And.intro (HM.out.1.drewN nq) (HM.out.2.trans (Below.drewN (Below.refl B _) nq)));generalize World.drewN _ nq=w6 at *;refine hK0 _ _ ?_;clear hK0 K0 t5 m10
     go_wp2_with fail
     refine(fQ HM.out.1 (Nat.le_trans hB HM.out.2.size) hi (HX1.out.setN 2 _) HO.out (by show 1<=upd st.N i _ i 0;rw[upd_same,upd_ne _ _ (by decide)];exact HP.out.2.2.1) (by show upd st.N i _ i 0<=_;rw[upd_same,upd_ne _ _ (by decide)];exact HP.out.2.2.2.1) (by show st.next+upd st.N i _ i 0<=_;rw[upd_same,upd_ne _ _ (by decide)];exact HP.out.2.2.2.2)).mono ?_;rintro x w7 ⟨rfl,h2,b2⟩;have HM2:=qd (And.intro h2 (HM.out.2.trans b2));clear h2 b2;rw[<-HQ2.out] at HM2
     go_wp2_with fail
     refine(dB (st:=st.step i o') HM2.out.1.choose_spec (Nat.le_trans hB HM2.out.2.size) (by rw[RS.step_n];exact hi) HST.out).mono ?_;rintro x w9 ⟨rfl,h9,b9⟩;have H9:=qd (And.intro h9 (HM2.out.2.trans b9));clear h9 b9;go_wp2
     go_end0
     exact⟨rfl,HD.out▸H9.out⟩
    ·have d5:((k:Int)+1==st.rd)=false:=by simpa using c5
     have HQ2:=qd (HQ.out.trans (if_neg c5));clear c5
     go_quiet (fail)
     replace HM:=qd (And.intro (HM.out.1.drewN nq) (HM.out.2.trans (Below.drewN (Below.refl B _) nq)));generalize World.drewN _ nq=w6 at *;refine hK0 _ _ ?_;clear hK0 K0 t5 m10;have HM2:Hid (SMem B mb tb (st.step i o') w6/\Below B w w6):=qd ⟨HQ2.out▸⟨V,HM.out.1⟩,HM.out.2⟩
     go_wp2_with fail
     refine(dB (st:=st.step i o') HM2.out.1.choose_spec (Nat.le_trans hB HM2.out.2.size) (by rw[RS.step_n];exact hi) HST.out).mono ?_;rintro x w9 ⟨rfl,h9,b9⟩;have H9:=qd (And.intro h9 (HM2.out.2.trans b9));clear h9 b9;go_wp2
     go_end0
     exact⟨rfl,HD.out▸H9.out⟩
 | put q0 q1 q2 q3 q4 q5 =>
   have t2:w.cell? ⟨tb i,2,none⟩=some (.int .i64 (st.pc i)):=aS HM.out.1 hi 2 (by omega)
   have d1:((st.pc i:Int)==10)=false:=by
    have:(st.pc i:Int)≠10:=by omega
    simpa using this
   have d2:decide ((st.pc i:Int)<40)=true:=decide_eq_true (by omega);have HP:=qd (show (st.pc i=20\/st.pc i=21\/st.pc i=22\/st.pc i=30)/\st.step i o'=st.write i o' from ⟨by omega,by unfold RS.step;rw[if_neg (by omega),if_pos (by omega)]⟩);clear q0 q1 q2 q3 q4 q5 hp
   go_wp2_with fail
   refine(mV HM.out.1 hB hi HK.out HO.out HA.out HP.out.1 HF.out).mono ?_;rintro x w2 ⟨rfl,h2,b2⟩;have HM2:=qd (And.intro h2 b2);clear h2 b2 m9 hTc t2 d1 d2;rw[<-HP.out.2] at HM2
   go_wp2_with fail
   refine(dB (st:=st.step i o') HM2.out.1.choose_spec (Nat.le_trans hB HM2.out.2.size) (by rw[RS.step_n];exact hi) HST.out).mono ?_;rintro x w9 ⟨rfl,h9,b9⟩;have H9:=qd (And.intro h9 (HM2.out.2.trans b9));clear h9 b9;go_wp2
   go_end0
   exact⟨rfl,HD.out▸H9.out⟩
 | pub q0 q1 q2 q3 q4 q5 =>
   have t2:w.cell? ⟨tb i,2,none⟩=some (.int .i64 (st.pc i)):=aS HM.out.1 hi 2 (by omega)
   have d1:((st.pc i:Int)==10)=false:=by
    have:(st.pc i:Int)≠10:=by omega
    simpa using this
   have d2:decide ((st.pc i:Int)<40)=true:=decide_eq_true (by omega);have HP:=qd (show (st.pc i=20\/st.pc i=21\/st.pc i=22\/st.pc i=30)/\st.step i o'=st.write i o' from ⟨by omega,by unfold RS.step;rw[if_neg (by omega),if_pos (by omega)]⟩);clear q0 q1 q2 q3 q4 q5 hp
   go_wp2_with fail
   refine(mV HM.out.1 hB hi HK.out HO.out HA.out HP.out.1 HF.out).mono ?_;rintro x w2 ⟨rfl,h2,b2⟩;have HM2:=qd (And.intro h2 b2);clear h2 b2 m9 hTc t2 d1 d2;rw[<-HP.out.2] at HM2
   go_wp2_with fail
   refine(dB (st:=st.step i o') HM2.out.1.choose_spec (Nat.le_trans hB HM2.out.2.size) (by rw[RS.step_n];exact hi) HST.out).mono ?_;rintro x w9 ⟨rfl,h9,b9⟩;have H9:=qd (And.intro h9 (HM2.out.2.trans b9));clear h9 b9;go_wp2
   go_end0
   exact⟨rfl,HD.out▸H9.out⟩
 | get q0 q1 q2 q3 q4 q5 q6 q7 q8 =>
   have t2:w.cell? ⟨tb i,2,none⟩=some (.int .i64 (st.pc i)):=aS HM.out.1 hi 2 (by omega)
   have d1:((st.pc i:Int)==10)=false:=by
    have:(st.pc i:Int)≠10:=by omega
    simpa using this
   have d2:decide ((st.pc i:Int)<40)=false:=decide_eq_false (by omega);obtain⟨r,hr⟩:∃ r,i=r+1:=⟨i-1,by omega⟩;have hr2:(i:Int)-1=(r:Int):=by omega
   have HP:=qd (show (st.pc i=50\/st.pc i=51\/st.pc i=52\/st.pc i=53\/st.pc i=54)/\st.step i o'=st.read i o'/\i=r+1 from ⟨by omega,by unfold RS.step;rw[if_neg (by omega),if_neg (by omega)],hr⟩);clear q0 q1 q2 q3 q4 q5 q6 q7 q8 hp hr
   go_wp2_with fail
   refine(read12_ok HM.out.1 hB hi HK.out HO.out HA.out HP.out.2.2 HP.out.1).mono ?_;rintro x w2 ⟨rfl,h2,b2⟩;have HM2:=qd (And.intro h2 b2);clear h2 b2 m9 hTc t2 d1 d2;rw[<-HP.out.2.1] at HM2
   go_wp2_with fail
   refine(dB (st:=st.step i o') HM2.out.1.choose_spec (Nat.le_trans hB HM2.out.2.size) (by rw[RS.step_n];exact hi) HST.out).mono ?_;rintro x w9 ⟨rfl,h9,b9⟩;have H9:=qd (And.intro h9 (HM2.out.2.trans b9));clear h9 b9;go_wp2
   go_end0
   exact⟨rfl,HD.out▸H9.out⟩
end
end Go.Proofs.Ytlcplealnbekeaa
namespace Go.Proofs.Ytlcplealnbekeaa
open Go.RowKit Go.Turn
open Go.ConcN (upd upd_ne upd_same)
theorem Try.infoIn64:(Try.prog.info? 2).map (λi=>(i.zero,i.size,i.bytes))=some (some (.int .i64 0),1,8):=by kernel_rfl
theorem nwfirst {w:World}{B mb:Nat}{K R:Int}(hb:Blk w mb 75 #[.int .i64 K,.slice none 0 0,.slice none 0 0,.int .i64 (-1),.slice none 0 0,.int .i64 0,.int .i64 (-1),.int .i64 (-1),.slice none 0 0,.slice none 0 0,.int .i64 R]) (hB:B<=mb):Mems B (eP mb K R (λ_=>nilS) (λ_=>0)) w:=by
 refine⟨λ_=>some .box,λr d hr=>?_⟩;cases r with
 | box =>
   cases hr;refine⟨⟨by simp[aK],.inr ⟨mb,1,_,rfl,hB,hb,Nat.le_refl _,(by show 1<=maxLen;unfold maxLen;omega),rfl,rfl⟩⟩,λ_ _=>rfl⟩
 | _=>cases hr;exact⟨⟨by simp[aK,iV],.inl ⟨rfl,rfl⟩⟩,λb hb=>by cases hb⟩
theorem mP {B mb:Nat}{K R:Int}{W:Nw->Value}{L:Nw->Nat}{w:World}{r:Nw}(hr:r≠.box) {v:Value}{n:Nat}(h:Mems B (λr'=>if r'=r then some (iV v n r.c) else eP mb K R W L r') w):∃ W' L',Mems B (eP mb K R W' L') (w.setCell ⟨mb,r.ix,none⟩ v)/\∀ r',L' r'=if r'=r then n else L r':=⟨_,_,nwshut hr h,λ_=>rfl⟩
theorem new12_ok (w:World) (n r:Nat) (h0:0<n) (h1:n<=65536) (hp:fits (n:Int)) (hr:r<=64):Calls Try.prog 22 #[.int .i64 n,.int .i64 r] w λe w'=>e=.returned (.pointer (some ⟨w.heap.size,0,none⟩))/\(∃ W,∀ tb,Mems w.heap.size (aY w.heap.size tb (bB n r) (nwV W)) w')/\Below w.heap.size w w':=by
 obtain⟨i0,hi0,hz0,hz1,hz2⟩:=info_parts Try.infoIn64;have HP:=qd hp;clear hp;have d1:decide ((r:Int)<0)=false:=decide_eq_false (by omega);have d2:decide (64<(r:Int))=false:=decide_eq_false (by omega)
 go_enter Try.func22,Try.ntmps22
 go_wp2_with fail
 refine(kO n w).mono ?_;rintro e w' ⟨h,rfl⟩
 rcases h with⟨rfl,hf⟩ | ⟨rfl,hf⟩
 ·clear hf
  go_wp2;have hm:=nwfirst (Blk.new w 75 #[.int .i64 n,.slice none 0 0,.slice none 0 0,.int .i64 (-1),.slice none 0 0,.int .i64 0,.int .i64 (-1),.int .i64 (-1),.slice none 0 0,.slice none 0 0,.int .i64 r]) (Nat.le_refl _);have bw:=(Below.refl w.heap.size w).alloc (Nat.le_refl _) (.cells #[.int .i64 n,.slice none 0 0,.slice none 0 0,.int .i64 (-1),.slice none 0 0,.int .i64 0,.int .i64 (-1),.int .i64 (-1),.slice none 0 0,.slice none 0 0,.int .i64 r] 75);generalize w.alloc (.cells #[.int .i64 n,.slice none 0 0,.slice none 0 0,.int .i64 (-1),.slice none 0 0,.int .i64 0,.int .i64 (-1),.int .i64 (-1),.slice none 0 0,.slice none 0 0,.int .i64 r] 75)=v at *;generalize hub:w.heap.size=mb at *;have HU:=qd hub;clear hub;have HM:=qd (And.intro hm bw);clear hm bw
  go_loopw [6] (λi wr=>∃ (j:Nat) (W:Nw->Value) (L:Nw->Nat),j<=n/\i=.int .i64 j/\(Mems mb (eP mb n r W L) wr/\Below mb w wr)/\(L .S=j/\L .V=j/\L .Nu=0/\L .Pl=0)) (λi _=>n-(intOf i).toNat)
  case atStart=>exact⟨0,_,_,by omega,rfl,HM.out,rfl,rfl,rfl,rfl⟩
  case round =>
   obtain⟨j,W,L,hj,rfl,h,hL⟩:=hrel;have HMa:=qd h;have HLa:=qd hL;clear h hL
   by_cases hlt:j<n
   ·have d3:decide (j<n)=true:=decide_eq_true hlt
    have hqa:=nwown HMa.out.1 (r:=.S) (by decide);obtain⟨Aa,cAa,ea⟩:=aQ hqa;rw[HLa.out.1] at ea;have da:wr.cell? ⟨mb,1,none⟩=some (.slice Aa j cAa):=(rN HMa.out.1 1 (by omega)).trans (congrArg some ea);rw[ea,HLa.out.1] at hqa;have HEa:=qd ea;have HQa:=qd hqa;have hsza:mb<=wr.heap.size:=Nat.le_trans (Nat.le_of_eq HU.out.symm) HMa.out.2.size;clear hqa ea
    go_wp2_with (at_builtin;refine wpList_append_lies _ rfl _ _ 29 rfl mb 2 i0 (.int .i64 0) 1 8 Try.underlying29 hi0 hz0 hz1 hz2 rfl (by decide) (.slice Aa j cAa) j _ rfl (HQa.out.alloc _) ⟨wr.heap.size,0,none⟩ 1 1 [.int .i64 (-2)] rfl rfl (kS _ _ _ (by first | rfl | simp)) (by simp[Value.oneCell']) (by omega) ?c3 ?c4 ?c5 (wr.heap.size+1) (by simp) ?_)
    case c3=>unfold maxLen;omega
    case c4=>omega
    case c5=>rw[World.size_alloc];omega
    intro gga capa ya hown hgrow hgat hgl
    have hma:=nwapp (r:=.S) (Mems.alloc HMa.out.1 (.cells #[.int .i64 (-2)] 2)) (by decide) (by rw[HLa.out.1];exact hown) (by rw[HEa.out];exact hgrow) (by
     rw[HEa.out]
     rcases hgat with z | z
     ·exact .inl z.symm
     ·right; rw[z];simp[Value.ownBlock])
    have ba:Below mb w ya:=(HMa.out.2.alloc hsza _).grown hgrow (by rw[World.size_alloc];omega) (λk hk=>(HQa.out.lt k hk).1);clear hown hgrow hgat hgl HQa da;obtain⟨fa,za⟩:=jJ (r:=.S) (by decide) hma 1 (by omega);obtain⟨Wb,Lb,hnb,hLb⟩:=mP (r:=.S) (by decide) hma;rw[HLa.out.1] at hLb;have HMb:=qd (show Mems mb (eP mb n r Wb Lb) (ya.setCell ⟨mb,1,none⟩ (.slice (some ⟨gga,0,none⟩) (j+1) capa))/\Below mb w (ya.setCell ⟨mb,1,none⟩ (.slice (some ⟨gga,0,none⟩) (j+1) capa)) from And.intro hnb (ba.setCell (p:=⟨mb,1,none⟩) (Nat.le_refl _) (.slice (some ⟨gga,0,none⟩) (j+1) capa)));clear hma ba hnb;have HLb:=qd (show Lb .S=j+1/\Lb .V=j/\Lb .Nu=0/\Lb .Pl=0 from ⟨by rw[hLb];rfl,by rw[hLb];exact HLa.out.2.1,by rw[hLb];exact HLa.out.2.2.1,by rw[hLb];exact HLa.out.2.2.2⟩);clear hLb;have hqb:=nwown HMb.out.1 (r:=.V) (by decide);obtain⟨Ab,cAb,eb⟩:=aQ hqb;rw[HLb.out.2.1] at eb;have db:(ya.setCell ⟨mb,1,none⟩ (.slice (some ⟨gga,0,none⟩) (j+1) capa)).cell? ⟨mb,2,none⟩=some (.slice Ab j cAb):=(rN HMb.out.1 2 (by omega)).trans (congrArg some eb);rw[eb,HLb.out.2.1] at hqb;have HEb:=qd eb;have HQb:=qd hqb;have hszb:mb<=(ya.setCell ⟨mb,1,none⟩ (.slice (some ⟨gga,0,none⟩) (j+1) capa)).heap.size:=Nat.le_trans (Nat.le_of_eq HU.out.symm) HMb.out.2.size;clear hqb eb
    go_wp2_with (at_builtin;refine wpList_append_lies _ rfl _ _ 29 rfl mb 2 i0 (.int .i64 0) 1 8 Try.underlying29 hi0 hz0 hz1 hz2 rfl (by decide) (.slice Ab j cAb) j _ rfl (HQb.out.alloc _) ⟨ya.heap.size,0,none⟩ 1 1 [.int .i64 (0)] rfl rfl (kS _ _ _ (by first | rfl | simp)) (by simp[Value.oneCell']) (by omega) ?c3 ?c4 ?c5 (ya.heap.size+1) (by simp) ?_)
    case c3=>unfold maxLen;omega
    case c4=>omega
    case c5=>rw[World.size_alloc];omega
    intro ggb capb yb hown hgrow hgat hgl
    have hmb:=nwapp (r:=.V) (Mems.alloc HMb.out.1 (.cells #[.int .i64 (0)] 2)) (by decide) (by rw[HLb.out.2.1];exact hown) (by rw[HEb.out];exact hgrow) (by
     rw[HEb.out]
     rcases hgat with z | z
     ·exact .inl z.symm
     ·right; rw[z];simp[Value.ownBlock])
    have bb:Below mb w yb:=(HMb.out.2.alloc hszb _).grown hgrow (by rw[World.size_alloc];omega) (λk hk=>(HQb.out.lt k hk).1);clear hown hgrow hgat hgl HQb db;obtain⟨fb,zb⟩:=jJ (r:=.V) (by decide) hmb 2 (by omega);obtain⟨Wc,Lc,hnc,hLc⟩:=mP (r:=.V) (by decide) hmb;rw[HLb.out.2.1] at hLc;have HMc:=qd (show Mems mb (eP mb n r Wc Lc) (yb.setCell ⟨mb,2,none⟩ (.slice (some ⟨ggb,0,none⟩) (j+1) capb))/\Below mb w (yb.setCell ⟨mb,2,none⟩ (.slice (some ⟨ggb,0,none⟩) (j+1) capb)) from And.intro hnc (bb.setCell (p:=⟨mb,2,none⟩) (Nat.le_refl _) (.slice (some ⟨ggb,0,none⟩) (j+1) capb)));clear hmb bb hnc;have HLc:=qd (show Lc .S=j+1/\Lc .V=j+1/\Lc .Nu=0/\Lc .Pl=0 from ⟨by rw[hLc];exact HLb.out.1,by rw[hLc];rfl,by rw[hLc];exact HLb.out.2.2.1,by rw[hLc];exact HLb.out.2.2.2⟩);clear hLc;go_wp2;go_roundw
    case rel=>exact⟨j+1,Wc,Lc,by omega,by go_num,HMc.out,HLc.out⟩
    case measure=>simp[intOf];omega
   ·have ej:j=n:=by omega
    have d3:decide (j<n)=false:=decide_eq_false hlt;have HJ:=qd ej;clear hlt ej;go_wp2
    go_loopw [7] (λi wx=>∃ (k:Nat) (W:Nw->Value) (L:Nw->Nat),k<=r/\i=.int .i64 k/\(Mems mb (eP mb n r W L) wx/\Below mb w wx)/\(L .S=n/\L .V=n/\L .Nu=k/\L .Pl=k)) (λi _=>r-(intOf i).toNat)
    case atStart=>exact⟨0,W,L,by omega,rfl,HMa.out,HLa.out.1.trans HJ.out,HLa.out.2.1.trans HJ.out,HLa.out.2.2⟩
    case round =>
     clear d3 HJ HMa HLa hj;obtain⟨j,W,L,hj,rfl,h,hL⟩:=hrel;have HMd:=qd h;have HLd:=qd hL;clear h hL
     by_cases hlt:j<r
     ·have d3:decide (j<r)=true:=decide_eq_true hlt
      have hqd:=nwown HMd.out.1 (r:=.Nu) (by decide);obtain⟨Ad,cAd,ed⟩:=aQ hqd;rw[HLd.out.2.2.1] at ed;have dd:wr.cell? ⟨mb,4,none⟩=some (.slice Ad j cAd):=(rN HMd.out.1 4 (by omega)).trans (congrArg some ed);rw[ed,HLd.out.2.2.1] at hqd;have HEd:=qd ed;have HQd:=qd hqd;have hszd:mb<=wr.heap.size:=Nat.le_trans (Nat.le_of_eq HU.out.symm) HMd.out.2.size;clear hqd ed
      go_wp2_with (at_builtin;refine wpList_append_lies _ rfl _ _ 29 rfl mb 2 i0 (.int .i64 0) 1 8 Try.underlying29 hi0 hz0 hz1 hz2 rfl (by decide) (.slice Ad j cAd) j _ rfl (HQd.out.alloc _) ⟨wr.heap.size,0,none⟩ 1 1 [.int .i64 (-1)] rfl rfl (kS _ _ _ (by first | rfl | simp)) (by simp[Value.oneCell']) (by omega) ?c3 ?c4 ?c5 (wr.heap.size+1) (by simp) ?_)
      case c3=>unfold maxLen;omega
      case c4=>omega
      case c5=>rw[World.size_alloc];omega
      intro ggd capd yd hown hgrow hgat hgl
      have hmd:=nwapp (r:=.Nu) (Mems.alloc HMd.out.1 (.cells #[.int .i64 (-1)] 2)) (by decide) (by rw[HLd.out.2.2.1];exact hown) (by rw[HEd.out];exact hgrow) (by
       rw[HEd.out]
       rcases hgat with z | z
       ·exact .inl z.symm
       ·right; rw[z];simp[Value.ownBlock])
      have bd:Below mb w yd:=(HMd.out.2.alloc hszd _).grown hgrow (by rw[World.size_alloc];omega) (λk hk=>(HQd.out.lt k hk).1);clear hown hgrow hgat hgl HQd dd;obtain⟨fd,zd⟩:=jJ (r:=.Nu) (by decide) hmd 4 (by omega);obtain⟨We,Le,hne,hLe⟩:=mP (r:=.Nu) (by decide) hmd;rw[HLd.out.2.2.1] at hLe;have HMe:=qd (show Mems mb (eP mb n r We Le) (yd.setCell ⟨mb,4,none⟩ (.slice (some ⟨ggd,0,none⟩) (j+1) capd))/\Below mb w (yd.setCell ⟨mb,4,none⟩ (.slice (some ⟨ggd,0,none⟩) (j+1) capd)) from And.intro hne (bd.setCell (p:=⟨mb,4,none⟩) (Nat.le_refl _) (.slice (some ⟨ggd,0,none⟩) (j+1) capd)));clear hmd bd hne;have HLe:=qd (show Le .S=n/\Le .V=n/\Le .Nu=j+1/\Le .Pl=j from ⟨by rw[hLe];exact HLd.out.1,by rw[hLe];exact HLd.out.2.1,by rw[hLe];rfl,by rw[hLe];exact HLd.out.2.2.2⟩);clear hLe;have hqe:=nwown HMe.out.1 (r:=.Pl) (by decide);obtain⟨Ae,cAe,ee⟩:=aQ hqe;rw[HLe.out.2.2.2] at ee;have de:(yd.setCell ⟨mb,4,none⟩ (.slice (some ⟨ggd,0,none⟩) (j+1) capd)).cell? ⟨mb,8,none⟩=some (.slice Ae j cAe):=(rN HMe.out.1 8 (by omega)).trans (congrArg some ee);rw[ee,HLe.out.2.2.2] at hqe;have HEe:=qd ee;have HQe:=qd hqe;have hsze:mb<=(yd.setCell ⟨mb,4,none⟩ (.slice (some ⟨ggd,0,none⟩) (j+1) capd)).heap.size:=Nat.le_trans (Nat.le_of_eq HU.out.symm) HMe.out.2.size;clear hqe ee
      go_wp2_with (at_builtin;refine wpList_append_lies _ rfl _ _ 29 rfl mb 2 i0 (.int .i64 0) 1 8 Try.underlying29 hi0 hz0 hz1 hz2 rfl (by decide) (.slice Ae j cAe) j _ rfl (HQe.out.alloc _) ⟨yd.heap.size,0,none⟩ 1 1 [.int .i64 (-1)] rfl rfl (kS _ _ _ (by first | rfl | simp)) (by simp[Value.oneCell']) (by omega) ?c3 ?c4 ?c5 (yd.heap.size+1) (by simp) ?_)
      case c3=>unfold maxLen;omega
      case c4=>omega
      case c5=>rw[World.size_alloc];omega
      intro gge cape ye hown hgrow hgat hgl
      have hme:=nwapp (r:=.Pl) (Mems.alloc HMe.out.1 (.cells #[.int .i64 (-1)] 2)) (by decide) (by rw[HLe.out.2.2.2];exact hown) (by rw[HEe.out];exact hgrow) (by
       rw[HEe.out]
       rcases hgat with z | z
       ·exact .inl z.symm
       ·right; rw[z];simp[Value.ownBlock])
      have be:Below mb w ye:=(HMe.out.2.alloc hsze _).grown hgrow (by rw[World.size_alloc];omega) (λk hk=>(HQe.out.lt k hk).1);clear hown hgrow hgat hgl HQe de;obtain⟨fe,ze⟩:=jJ (r:=.Pl) (by decide) hme 8 (by omega);obtain⟨Wf,Lf,hnf,hLf⟩:=mP (r:=.Pl) (by decide) hme;rw[HLe.out.2.2.2] at hLf;have HMf:=qd (show Mems mb (eP mb n r Wf Lf) (ye.setCell ⟨mb,8,none⟩ (.slice (some ⟨gge,0,none⟩) (j+1) cape))/\Below mb w (ye.setCell ⟨mb,8,none⟩ (.slice (some ⟨gge,0,none⟩) (j+1) cape)) from And.intro hnf (be.setCell (p:=⟨mb,8,none⟩) (Nat.le_refl _) (.slice (some ⟨gge,0,none⟩) (j+1) cape)));clear hme be hnf;have HLf:=qd (show Lf .S=n/\Lf .V=n/\Lf .Nu=j+1/\Lf .Pl=j+1 from ⟨by rw[hLf];exact HLe.out.1,by rw[hLf];exact HLe.out.2.1,by rw[hLf];exact HLe.out.2.2.1,by rw[hLf];rfl⟩);clear hLf;go_wp2;go_roundw
      case rel=>exact⟨j+1,Wf,Lf,by omega,by go_num,HMf.out,HLf.out⟩
      case measure=>simp[intOf];omega
     ·have ej:j=r:=by omega
      have d3:decide (j<r)=false:=decide_eq_false hlt;have HJ:=qd ej;clear hlt ej;go_wp2;go_ret;rw[HU.out];exact⟨rfl,⟨W,λtb=>nwdone HMd.out.1 HLd.out.1 HLd.out.2.1 (HLd.out.2.2.1.trans HJ.out) (HLd.out.2.2.2.trans HJ.out) tb⟩,HMd.out.2⟩
 ·exact absurd HP.out hf
end Go.Proofs.Ytlcplealnbekeaa
namespace Go.Proofs.Ytlcplealnbekeaa
open Go.RowKit Go.Turn
structure PlIn (w:World) (nt:Nat) (tA:Option Addr) (Tb To:Nat) (A:Nat->Option Addr) (len cap:Nat->Nat) (ops:Nat->List OpI) (sA:Option Addr) (sc:Nat) (xs:List Int):Prop where
 tA_:0<nt->tA=some ⟨Tb,To,none⟩
 nt_:nt<=maxLen
 ops_:OpsH w (min nt 64) Tb To A len cap ops
 fit:∀ i,i<min nt 64->∀ o∈ops i,o.Fits
 sch:NumsIn w sA sc xs
 nil:sA=none->sc=0
 slen:xs.length<=17592186044416
theorem OpsH.below {w0 w1:World}{n Tb To:Nat}{A:Nat->Option Addr}{len cap:Nat->Nat}{ops:Nat->List OpI}(h:OpsH w0 n Tb To A len cap ops) (hb:Below w0.heap.size w0 w1):OpsH w1 n Tb To A len cap ops:=
 ⟨fun i hi=>(World.cell?_of_block (a:=⟨Tb,To+i,none⟩) (hb.block Tb (bG (h.row i hi)))).trans (h.row i hi),h.le,h.max,h.olen,λi hi j o ho=>by
   obtain⟨b,f,e,c0,c1,c2,c3⟩:=h.op i hi j o ho;have hbl:=hb.block b (bG c0);exact⟨b,f,e,(World.cell?_of_block (a:=⟨b,_,none⟩) hbl).trans c0,(World.cell?_of_block (a:=⟨b,_,none⟩) hbl).trans c1,(World.cell?_of_block (a:=⟨b,_,none⟩) hbl).trans c2,(World.cell?_of_block (a:=⟨b,_,none⟩) hbl).trans c3⟩⟩
theorem NumsIn.belowI {w0 w1:World}{sA:Option Addr}{sc:Nat}{xs:List Int}(h:NumsIn w0 sA sc xs) (hb:Below w0.heap.size w0 w1):NumsIn w1 sA sc xs:=
 ⟨h.le,h.max,fun i hi=>by
   obtain⟨b,o,e1,e2⟩:=h.cells i hi;exact⟨b,o,e1,(World.cell?_of_block (a:=⟨b,_,none⟩) (hb.block b (bG e2))).trans e2⟩⟩
theorem PlIn.below {w0 w1:World}{nt:Nat}{tA:Option Addr}{Tb To:Nat}{A:Nat->Option Addr}{len cap:Nat->Nat}{ops:Nat->List OpI}{sA:Option Addr}{sc:Nat}{xs:List Int}(h:PlIn w0 nt tA Tb To A len cap ops sA sc xs) (hb:Below w0.heap.size w0 w1):PlIn w1 nt tA Tb To A len cap ops sA sc xs:=
 ⟨h.tA_,h.nt_,h.ops_.below hb,h.fit,h.sch.belowI hb,h.nil,h.slen⟩
def nQ (w:World) (ub:Nat):Nat:=match w.cell? ⟨ub,4,none⟩ with
 | some (.slice _ n _)=>n
 | _=>0
theorem RS.begun_same (m:RS):∀ k,(m.begun k).size=m.size/\(m.begun k).rd=m.rd
 | 0=>⟨rfl,rfl⟩
 | k+1=>by
   obtain⟨h1,h2⟩:=RS.begun_same m k;have s:=RS.same_settle k ((((m.begun k).ops k).length+1-(m.begun k).at_ k)) (m.begun k);exact⟨s.size.trans h1,s.rd.trans h2⟩
theorem RS.same_does {m:RS}{i:Nat}(hok:m.Ok) (hi:i<m.n) (hp:m.pc i≠0):RS.Same i m (m.does i):=by
 obtain⟨o,ho,ha⟩:=hok.live i hi hp;have h1:=RS.same_stepA ha;have h2:=RS.same_settle i (((m.step i o).ops i).length+1-(m.step i o).at_ i) (m.step i o);have e:m.does i=(m.step i o).settled i:=by unfold RS.does;rw[ho]
 have h3:=h1.trans h2;rw[e]
 exact ⟨h3.size,h3.rd,h3.n,h3.ops,h3.X,λj hj=>by
  obtain⟨a1,a2,a3,a4,a5,a6⟩:=h3.o j hj;exact⟨a1,a2,a3,a4,a5,(Go.ConcN.upd_ne _ _ hj).trans a6⟩,h3.pl,h3.wr⟩
section
variable {w0:World}{a b nt:Nat}{tA:Option Addr}{cp Tb To:Nat}{A:Nat->Option Addr}{len cap:Nat->Nat}{ops:Nat->List OpI}{sA:Option Addr}{sc:Nat}{xs:List Int}{most:Int}
theorem play12_ok (h0:0<a) (h1:a<=65536) (hft:fits (a:Int)) (hb:b<=64) (hin:PlIn w0 nt tA Tb To A len cap ops sA sc xs) :
  Calls Try.prog 9 #[.int .i64 a,.int .i64 b,.slice tA nt cp,.slice sA xs.length sc,.int .i64 most] w0 λe w'=>∃ Aa ca ov tv,e=.returned (.agg #[.slice Aa (min nt 64) ca,ov,tv,.bool (gR a b (min nt 64) ops xs most).u.stuck]) /\
   TraceAt w' (min nt 64) (gR a b (min nt 64) ops xs most).m.ans (gR a b (min nt 64) ops xs most).u.order (fE (I0 a b) (bX (gR a b (min nt 64) ops xs most).m).1) Aa ca ov tv/\Below w0.heap.size w0 w':=by
 have HI:=qd hin;have HF:=qd hft;clear hin hft;obtain⟨R,hR⟩:∃ R,R=gR a b (min nt 64) ops xs most:=⟨_,rfl⟩;rw[<-hR];have HR:=qd hR;clear hR;obtain⟨LX,hLX⟩:∃ LX,LX=xs.length:=⟨_,rfl⟩;rw[<-hLX];have HLX:=qd hLX;clear hLX;generalize hwz:w0.heap.size=wz;have HWZ:=qd hwz;clear hwz
 go_enter Try.func9,Try.ntmps9
 refine fD λK hK=>?_;go_wp2;refine hK.out _ _ ?_;clear hK K;have hb10:=Blk.new w0 31 #[.slice none 0 0,.slice none 0 0,.slice none 0 0,.bool false];have bw1:Below wz w0 (w0.alloc (.cells #[.slice none 0 0,.slice none 0 0,.slice none 0 0,.bool false] 31)):=(Below.refl _ w0).alloc (Nat.le_of_eq HWZ.out.symm) _;have hs1:(w0.alloc (.cells #[.slice none 0 0,.slice none 0 0,.slice none 0 0,.bool false] 31)).heap.size=wz+1:=by rw[World.size_alloc,HWZ.out]
 rw[HWZ.out] at hb10;rw[HWZ.out];generalize World.alloc w0 _=w1 at *;have HI1:=qd (HI.out.below (by rw[HWZ.out];exact bw1));have HB:=qd (And.intro hb10 (And.intro bw1 hs1));clear hb10 bw1 hs1
 go_wp2_with fail
 refine(new12_ok w1 a b h0 h1 HF.out hb).mono ?_;rintro e w2 ⟨rfl,⟨W,hM⟩,bw2⟩;dsimp only;obtain⟨mb,hmb⟩:∃ mb,mb=w1.heap.size:=⟨_,rfl⟩;rw[<-hmb] at hM bw2 ⊢;have HMB:=qd hmb;have HI2:=qd (HI1.out.below (by rw[<-hmb];exact bw2));have HM2:=qd (And.intro hM bw2);clear hM bw2 hmb HI1
 go_wp2_with fail
 refine(nD w2 tA nt cp Tb To HI2.out.tA_ HI2.out.nt_ A len cap ops HI2.out.ops_).mono ?_;rintro e w3 ⟨tb,VT,VO,rfl,hT,bw3⟩;dsimp only;have hB2:mb<=w2.heap.size:=Nat.le_trans (Nat.le_of_eq HMB.out) HM2.out.2.size;have hM3:=joined12 (HM2.out.1 tb) bw3 hT hB2;have hok0:=RS.Ok.born (lR a b h0 h1 hb) rfl (by omega:min nt 64<=64) (λi hi=>by rw[HI2.out.ops_.olen i hi];omega) HI2.out.fit (min nt 64) (Nat.le_refl _);have t9:w3.cell? ⟨mb,9,none⟩=some nilS:=(bD ((HM2.out.1 tb).same λb hb=>bw3.block b hb) 9 (by omega));have z9:w3.frozen? ⟨mb,9,none⟩=false:=iF ((HM2.out.1 tb).same λb hb=>bw3.block b hb) 9;have bwm:Below mb w1 w3:=HM2.out.2.trans (bw3.mono hB2);obtain⟨TA,tc,hVT⟩:=cB hT (r:=.T) (thT _ _ _ _ _ _);subst hVT;have HM3:=qd (And.intro hM3 (bwm.setCell (p:=⟨mb,9,none⟩) (Nat.le_refl _) (.slice TA (min nt 64) tc)));have HOK:=qd hok0;have HI3:=qd (HI2.out.below bw3);clear hM3 bwm hT hok0 hB2 HM2 HI2;unfold nilS at t9
 go_wp2_with fail
 generalize World.setCell w3 _ _=w4 at *;have hfr:=RS.fresh_born a b ops (min nt 64);generalize hn:min nt 64=n at *;have hn64:n<=64:=by omega
 have HN:=qd hn;have hnN:=hfr.n;have HFR:=qd hfr;clear hfr hn t9 z9;obtain⟨m0,hm0⟩:∃ m0,m0=(bB a b).born ops n:=⟨_,rfl⟩;rw[<-hm0] at HM3 HOK HFR hnN;have HM0:=qd hm0;clear hm0;have HMM:=qd (show ∃ V,Mems mb (aY mb tb (m0.begun 0) V) w4/\Below mb w1 w4 from ⟨_,HM3.out⟩);clear HM3
 go_loopw [12] (λi wr=>∃ k:Nat,k<=n/\i=.int .i64 k/\∃ V,Mems mb (aY mb tb (m0.begun k) V) wr/\Below mb w1 wr) (λi _=>n-(intOf i).toNat)
 case atStart=>exact⟨0,Nat.zero_le _,rfl,HMM.out⟩
 case round =>
  clear HMM;obtain⟨k,hk,rfl,V,h⟩:=hrel;have HM:=qd h;clear h;have hbn:(m0.begun k).n=n:=(RS.begun_n m0 k).trans hnN;obtain⟨TA1,tc1,hVT⟩:=cB HM.out.1 (r:=.T) (v:=V .T) (e:=116) (sz:=1) (n:=(m0.begun k).n) (f:=λj=>.pointer (some ⟨tb j,0,none⟩)) rfl;rw[hbn] at hVT;have t9:wr.cell? ⟨mb,9,none⟩=some (.slice TA1 n tc1):=(bD HM.out.1 9 (by omega)).trans (congrArg some hVT);have HVT:=qd hVT;have HBN:=qd hbn;clear hVT hbn
  by_cases hlt:k<n
  ·have d1:decide (k<n)=true:=decide_eq_true hlt
   go_wp2_with fail
   have hmw:mb<=wr.heap.size:=Nat.le_trans (Nat.le_of_eq HMB.out) HM.out.2.size;refine(dB HM.out.1 hmw (by rw[HBN.out];exact hlt) (RS.Ok.begun HOK.out k (by rw[hnN];exact hk)).1).mono ?_;rintro e w5 ⟨rfl,⟨V',hm5⟩,bw5⟩;dsimp only;have HM5:=qd (show ∃ V,Mems mb (aY mb tb (m0.begun (k+1)) V) w5/\Below mb w1 w5 from ⟨V',hm5,HM.out.2.trans bw5⟩);clear hm5 bw5 HM t9;go_wp2;go_roundw
   case rel=>exact⟨k+1,by omega,by go_num,HM5.out⟩
   case measure=>simp[intOf];omega
  ·have ek:k=n:=by omega
   have d1:decide (k<n)=false:=decide_eq_false hlt;have HK:=qd ek;clear ek hlt hk
   go_wp2_with fail
   have bw0r:Below wz w0 wr:=HB.out.2.1.trans (HM.out.2.mono (by have:=HMB.out;have:=HB.out.2.2;omega));have hIr:=HI.out.below (by rw[HWZ.out];exact bw0r);have hmw:mb<=wr.heap.size:=Nat.le_trans (Nat.le_of_eq HMB.out) HM.out.2.size;rw[HLX.out];refine(nW wr sA sc xs hIr.sch hIr.nil hIr.slen most).mono ?_;rintro e w5 ⟨vs,rfl,hbt,hown,bw5⟩;dsimp only;have hmT:=turn_in HM.out.1 hmw hbt hown bw5;obtain⟨ub,hub⟩:∃ ub,ub=wr.heap.size:=⟨_,rfl⟩;rw[<-hub] at hmT ⊢;have hfirst:=oI h0 h1 hb hn64 (λi hi=>by rw[hIr.ops_.olen i (by rw[HN.out];exact hi)];omega) (λi hi=>hIr.fit i (by rw[HN.out];exact hi)) xs most;have bw6:Below mb w1 w5:=HM.out.2.trans (bw5.mono hmw)
   have HC:Hid (∃ (C:RR) (V:Rt->Value) (vo:Value),C.Ok/\C.m.n=n/\C.m.size=a/\C.m.rd=b/\RR.run (C.rest+1) C=R/\dS mb mb tb C.m V ub vs vo C.u (λ_=>none) w5/\Below mb w1 w5):=qd (by
    refine⟨fO a b n ops xs most,V,nilS,hfirst,?_,?_,?_,?_,?_,bw6⟩
    ·exact (RS.begun_n _ _).trans (by rw[<-HM0.out];exact hnN)
    ·exact (RS.begun_same _ n).1.trans (by rw[<-HM0.out];exact HFR.out.e.1)
    ·exact (RS.begun_same _ n).2.trans (by rw[<-HM0.out];exact HFR.out.e.2.1)
    ·rw [HR.out]
     unfold gR RR.rest
     rfl
    ·have : (fO a b n ops xs most).m=m0.begun k:=by
      rw[HK.out,HM0.out]
      rfl
     rw[this];exact hmT)
   clear hfirst hmT hown hbt bw5 bw6 hIr bw0r HM t9 hub hmw
   go_wp2_with fail
   go_loopw [14] (λ_ wr=>∃ (C:RR) (V:Rt->Value) (vo:Value),C.Ok/\C.m.n=n/\C.m.size=a/\C.m.rd=b/\RR.run (C.rest+1) C=R/\dS mb mb tb C.m V ub vs vo C.u (λ_=>none) wr/\Below mb w1 wr) (λ_ wr=>1048577-nQ wr ub)
   case atStart=>exact HC.out
   case round =>
    clear HC d1;obtain⟨C,V,vo,ok,hCn,hsz,hrd,hrun,hm,bw⟩:=hrel;obtain⟨A2,c2,hT2⟩:=cB hm (r:=.T) (v:=V .T) (e:=116) (sz:=1) (n:=C.m.n) (f:=λj=>.pointer (some ⟨tb j,0,none⟩)) rfl;obtain⟨oA,oc,hvo⟩:=cB hm (r:=.ext 2) (v:=vo) (e:=3) (sz:=1) (n:=C.u.order.length) (f:=λj=>.int .i64 (C.u.order.getD j 0)) rfl;rw[hCn] at hT2;have t9:wr.cell? ⟨mb,9,none⟩=some (.slice A2 n c2):=(bD (st:={ C.m with X:=xU ub vs vo C.u (λ_=>none) }) hm 9 (by omega)).trans (congrArg some hT2);have hord:nQ wr ub=C.u.order.length:=by unfold nQ;rw[eB hm 4 (by omega)];simp only[tuF,hvo]
    have HORD:=qd hord;have HT2:=qd hT2;have HM:=qd (And.intro hm bw);have HOKC:=qd ok;have HSZ:=qd (And.intro hCn (And.intro hsz hrd));have HRUN:=qd hrun;have hmw:mb<=wr.heap.size:=Nat.le_trans (Nat.le_of_eq HMB.out) bw.size;clear hm bw ok hCn hsz hrd hrun hT2 hord hvo
    go_wp2_with fail
    have hpick:=pick12_ok HM.out.1 hmw (by rw[HSZ.out.1];exact hn64) HOKC.out.at_ HOKC.out.round HOKC.out.most;rw[HT2.out] at hpick;refine hpick.mono ?_;clear hpick;rintro e w6 ⟨rfl,⟨vo',hm6⟩,bw6⟩;dsimp only;have bw6':=HM.out.2.trans bw6;clear bw6 t9 hmw;have hmw6:mb<=w6.heap.size:=Nat.le_trans (Nat.le_of_eq HMB.out) bw6'.size;have hVT:V .T=.slice A2 n c2:=HT2.out;clear HM HT2;cases hpk:(C.u.pick C.m.n C.m.ended).2 with
    | none =>
      have HR2:Hid (R=⟨C.m,(C.u.pick C.m.n C.m.ended).1⟩):=qd (by rw[<-HRUN.out,RR.run_over hpk]);have hmT:dS mb mb tb C.m V ub vs vo' (C.u.pick C.m.n C.m.ended).1 (λ_=>none) w6:=hm6;obtain⟨u,hu⟩:∃ u,u=(C.u.pick C.m.n C.m.ended).1:=⟨_,rfl⟩;rw[<-hu] at hmT HR2;obtain⟨oA6,oc6,hvo6⟩:=cB hmT (r:=.ext 2) (v:=vo') (e:=3) (sz:=1) (n:=u.order.length) (f:=λj=>.int .i64 (u.order.getD j 0)) rfl;obtain⟨OL,hOL⟩:∃ OL,OL=u.order.length:=⟨_,rfl⟩;rw[<-hOL] at hvo6;have t9:w6.cell? ⟨mb,9,none⟩=some (.slice A2 n c2):=(bD (st:={ C.m with X:=xU ub vs vo' u (λ_=>none) }) hmT 9 (by omega)).trans (congrArg some hVT);have HT0:=qd t9;have HM:=qd (And.intro hmT bw6');have HVO:=qd hvo6;have HV:=qd hVT;have hd1:decide ((-1:Int)<0)=true:=rfl;clear hm6 hmT bw6' hmw6 hVT hvo6 hu hOL HORD HRUN t9 hpk;simp only[TU.told]
      go_wp2_with fail
      rename_i K0 hK0;refine bV (S:=Kept (λ_=>False) w6) 8 (by kernel_rfl) (by kernel_rfl) (by kernel_rfl) ?_;simp only[idle,zB,Nat.reduceAdd];have HS:=qd (Kept.drewN (λ_=>False) w6 1)
      iterate 6
       with_reducible first | refine rdL 0 8 50 ?_ | refine rdL 1 7 51 ?_ | refine rdL 2 6 52 ?_ | refine rdL 3 5 53 ?_ | refine rdL 4 4 54 ?_ | refine rdL 5 3 55 ?_
       refine⟨_,rfl,rfl,by kernel_rfl,by kernel_rfl,by kernel_rfl,(λc a w h=>h),rfl,HS.out,?_⟩;apply Exists.intro;refine⟨λwq hw=>?_,?_⟩
       ·have q0:=cY HT0.out hw id
        go_simp
        rfl
       simp only[Act.put,zA]
      have hkd:=HS.out;have hmd:=Mems.drewN HM.out.1 1;have bwd:=HM.out.2.trans (Below.drewN (Below.refl mb w6) 1);change Kept _ w6 w6.drew at hkd;change dS mb mb tb C.m V ub vs vo' u (λ_=>none) w6.drew at hmd;change Below mb w1 w6.drew at bwd;clear HS HT0 HM;generalize World.drew w6=w7 at *;have HST:=qd (state12_ok (st:=C.m.withX (xU ub vs vo' u (λ_=>none))) hmd (by show 0<C.m.size;rw[HSZ.out.2.1];exact h0) (by show C.m.size<=65536;rw[HSZ.out.2.1];exact h1) (by show C.m.rd<=64;rw[HSZ.out.2.2];exact hb));have HKD:=qd hkd;have HM:=qd (And.intro hmd bwd);have hmw7s:w1.heap.size<=w7.heap.size:=bwd.size;clear hkd hmd bwd;refine cW (i:=6) (fuel:=2) (by kernel_rfl) rfl rfl λK' hK'=>?_;unfold Oper.wp;go_simp;refine HST.out.mono ?_;rintro e w8 ⟨⟨tv,rfl,htv⟩,bw8⟩;dsimp only;obtain⟨sA2,sc2,rfl⟩:=aQ htv;obtain⟨sl,hsl⟩:∃ sl,sl=2+(C.m.withX (xU ub vs vo' u (λ_=>none))).rd+(C.m.withX (xU ub vs vo' u (λ_=>none))).size+(C.m.withX (xU ub vs vo' u (λ_=>none))).size:=⟨_,rfl⟩;rw[<-hsl] at htv ⊢;clear hsl;have hk8:=HKD.out.trans (Kept.of_below bw8:Kept (λ_=>False) w7 w8);refine hK' _ _ hk8 ?_;clear hK' K'
      try simp only[Act.put,zA]
      have hm8:dS mb mb tb C.m V ub vs vo' u (λ_=>none) w8:=Mems.same HM.out.1 λb hb=>bw8.block b hb;have hmw7:mb<=w7.heap.size:=Nat.le_trans (Nat.le_of_eq HMB.out) HM.out.2.size;have hmw8:mb<=w8.heap.size:=Nat.le_trans hmw7 bw8.size;have hbw8:Below mb w1 w8:=HM.out.2.trans (bw8.mono hmw7)
      have htr:TrIn w8 ub (.slice oA6 OL oc6) u.stuck n A2 tb (λi=>V (.ans i)):=by
       refine⟨by rw[<-HVO.out];exact eB hm8 4 (by omega),eB hm8 5 (by omega),λi hi=>?_,λi hi=>?_⟩
       ·have hi':i<C.m.n:=by rw[HSZ.out.1];exact hi
        obtain⟨g,c,e,_,_⟩:=bS hm8 (r:=.T) (v:=V .T) (e:=116) (sz:=1) (n:=C.m.n) (f:=λj=>.pointer (some ⟨tb j,0,none⟩)) rfl (by omega);have e2:=HV.out.symm.trans e;cases e2;exact⟨g,rfl,mK hm8 e hi'⟩
       ·have hi':i<C.m.n:=by rw[HSZ.out.1];exact hi
        refine⟨aS (st:=C.m.withX (xU ub vs vo' u (λ_=>none))) hm8 hi' 12 (by omega),?_⟩;obtain⟨A,c,e⟩:=cB hm8 (r:=.ans i) (v:=V (.ans i)) (e:=48) (sz:=3) (n:=(C.m.ans i).length) (f:=cJ 3 (anF V i (C.m.ans i))) (by show (if i<C.m.n then some _ else none)=_;rw[if_pos hi']);exact⟨A,_,c,e⟩
      have HTRC:=qd (nC w8 ub oA6 OL oc6 u.stuck n A2 c2 tb (λi=>V (.ans i)) sA2 sl sc2 hn64 htr);have HX:=qd (And.intro hm8 (And.intro htv (And.intro hbw8 hmw8)));have HK8:=qd hk8;have HVO2:=HVO.out;subst HVO2;clear hm8 htv hbw8 hmw8 hk8 htr HST HKD HM bw8 hmw7;refine cW (i:=7) (fuel:=1) (by kernel_rfl) rfl rfl λK' hK'=>?_;unfold Oper.wp;go_simp;refine HTRC.out.mono ?_;rintro e w9 ⟨va',rfl,hva,bw9⟩;dsimp only;obtain⟨aA,ac,rfl⟩:=aQ hva;have hk9:=HK8.out.trans (Kept.of_below bw9:Kept (λ_=>False) w8 w9);refine hK' _ _ hk9 ?_;clear hK' K'
      try simp only[Act.put,zA]
      have HK9:=qd hk9;clear hk9 HK8 HTRC;refine cW (i:=8) (fuel:=0) (by kernel_rfl) rfl rfl λK' hK'=>?_;unfold Oper.wp;go_simp;refine hK' _ _ HK9.out ?_;clear hK' K' HK9
      try simp only[Act.put,zA]
      refine wpAnyH_done (by kernel_rfl) ?_ _;simp only[Exit.then];refine aX (m:=8) rfl ?_;have hbw9:Below mb w1 w9:=HX.out.2.2.1.trans (bw9.mono HX.out.2.2.2);have hw1:wz<w1.heap.size:=HB.out.1.lt;have hb10:Blk w9 wz 31 _:=HB.out.1.below hbw9 (by rw[HMB.out];exact hw1);have o0:=hb10.cell 0;have o1:=hb10.cell 1;have o2:=hb10.cell 2;have o3:=hb10.cell 3;have z0:=hb10.frozen 0;have z1:=hb10.frozen 1;have z2:=hb10.frozen 2;have z3:=hb10.frozen 3
      simp at o0 o1 o2 o3
      have HY:=qd (And.intro hva (And.intro bw9 (And.intro hbw9 hb10)));clear hva bw9 hbw9 hb10 hw1;go_wp2;have hbf:=(((HY.out.2.2.2.set_ 0 (.slice aA n ac)).set_ 1 (.slice oA6 OL oc6)).set_ 2 (.slice sA2 sl sc2)).set_ 3 (.bool u.stuck);simp only[zA] at hbf;have hwm:wz<mb:=by have:=HB.out.1.lt;have:=HMB.out;omega
      have far:∀ x,mb<=x->((((w9.setCell ⟨wz,0,none⟩ (.slice aA n ac)).setCell ⟨wz,1,none⟩ (.slice oA6 OL oc6)).setCell ⟨wz,2,none⟩ (.slice sA2 sl sc2)).setCell ⟨wz,3,none⟩ (.bool u.stuck)).heap[x]?=w9.heap[x]?:=λx hx=>by
       have hne:x≠wz:=by omega
       rw[Below.heap_setCell _ _ _ _ hne,Below.heap_setCell _ _ _ _ hne,Below.heap_setCell _ _ _ _ hne,Below.heap_setCell _ _ _ _ hne]
      have bw0:Below wz w0 w9:=HB.out.2.1.trans (HY.out.2.2.1.mono (by omega));have bwf:=(((bw0.setCell (p:=⟨wz,0,none⟩) (Nat.le_refl _) (.slice aA n ac)).setCell (p:=⟨wz,1,none⟩) (Nat.le_refl _) (.slice oA6 OL oc6)).setCell (p:=⟨wz,2,none⟩) (Nat.le_refl _) (.slice sA2 sl sc2)).setCell (p:=⟨wz,3,none⟩) (Nat.le_refl _) (.bool u.stuck);have hm9:dS mb mb tb C.m V ub vs (.slice oA6 OL oc6) u (λ_=>none) w9:=Mems.same HX.out.1 λb hb=>HY.out.2.1.block b hb;have htv9:=iS HX.out.2.1 (w':=w9) λb hb1 hb2=>HY.out.2.1.block b hb2;have hmw7:mb<=w7.heap.size:=Nat.le_trans (Nat.le_of_eq HMB.out) hmw7s;have hTR:=λwf (hf:∀ x,mb<=x->wf.heap[x]?=w9.heap[x]?)=>traceOf12 (n:=n) (a:=a) (b:=b) (w:=wf) (Mems.up12 hm9 λx hx _=>hf x hx) HSZ.out.1 HSZ.out.2.1 HSZ.out.2.2 (iS htv9 λx hx _=>hf x (Nat.le_trans hmw7 hx)) (iS HY.out.1 λx hx _=>hf x (Nat.le_trans HX.out.2.2.2 hx));have hT:=hTR _ far;clear hTR far bw0 hm9 htv9;generalize World.setCell _ _ _=wf at *;have d0:=hbf.cell 0;have d1:=hbf.cell 1;have d2:=hbf.cell 2;have d3:=hbf.cell 3
      simp at d0 d1 d2 d3
      refine bodyPost_ret (v:=.agg #[.slice aA n ac,.slice oA6 OL oc6,.slice sA2 sl sc2,.bool u.stuck]) (by simp[results,Try.f9,go_sem,d0,d1,d2,d3]) rfl ?_;rw[HN.out,HR2.out];exact⟨aA,ac,_,_,rfl,hT,bwf⟩
    | some k2 =>
      have hd1:decide (((k2:Nat):Int)<0)=false:=decide_eq_false (by omega);obtain⟨g1,g2,g3⟩:=HOKC.out.turn hpk;have hrest:=RR.rest_turn HOKC.out hpk;have hsame:=RS.same_does HOKC.out.m g1 g2;obtain⟨o2,ho2,-⟩:=HOKC.out.m.live k2 g1 g2;obtain⟨e1,e2,e3,e4,e5⟩:=TU.pick_keeps (e:=C.m.ended) HOKC.out.at_ HOKC.out.round;obtain⟨e6,e7⟩:=e5 k2 hpk;have hmx:=HOKC.out.most;have HN2:Hid (RR.run ((⟨C.m.does k2,(C.u.pick C.m.n C.m.ended).1⟩:RR).rest+1) ⟨C.m.does k2,(C.u.pick C.m.n C.m.ended).1⟩=R):=qd (by rw[hrest,<-HRUN.out,RR.run_turn hpk]);have HD:=qd (And.intro g3 (And.intro hsame (And.intro e6 (And.intro e7 hmx))));have HST:=qd (step12_ok (st:=C.m.withX (xU ub vs vo' (C.u.pick C.m.n C.m.ended).1 (λ_=>none))) hm6 hmw6 g1 (HOKC.out.m.withX _) g2 ho2);have HB6:=qd bw6';clear g1 g2 g3 hrest hsame ho2 e1 e2 e3 e4 e5 e6 e7 hmx hm6 bw6' hmw6 hpk HRUN hVT;simp only[TU.told]
      go_wp2_with fail
      refine HST.out.mono ?_;rintro e w7 ⟨rfl,⟨V',hm7⟩,bw7⟩;dsimp only;rw[RS.does_X] at hm7;obtain⟨oA7,oc7,hvo7⟩:=cB hm7 (r:=.ext 2) (v:=vo') (e:=3) (sz:=1) (n:=(C.u.pick C.m.n C.m.ended).1.order.length) (f:=λj=>.int .i64 ((C.u.pick C.m.n C.m.ended).1.order.getD j 0)) rfl;have hm7':dS mb mb tb (C.m.does k2) V' ub vs vo' (C.u.pick C.m.n C.m.ended).1 (λ_=>none) w7:=hm7
      have ho7:nQ w7 ub=C.u.order.length+1:=by
       unfold nQ;rw[eB hm7' 4 (by omega)];simp only[tuF,hvo7];rw[HD.out.2.2.1]
       simp
      have HM7:=qd (And.intro hm7' (HB6.out.trans bw7));have HO7:=qd ho7;clear hm7 hm7' bw7 HST HB6 hvo7 ho7;go_wp2;go_roundw
      case rel=>exact⟨⟨C.m.does k2,(C.u.pick C.m.n C.m.ended).1⟩,V',vo',HD.out.1,HD.out.2.1.n.trans HSZ.out.1,HD.out.2.1.size.trans HSZ.out.2.1,HD.out.2.1.rd.trans HSZ.out.2.2,HN2.out,HM7.out.1,HM7.out.2⟩
      case measure=>rw[HO7.out,HORD.out];have:=HD.out.2.2.2.1;have:=HD.out.2.2.2.2;omega
end
end Go.Proofs.Ytlcplealnbekeaa
namespace Go.Proofs.Ytlcplealnbekeaa
open Go.RowKit Go.Turn
def iP (ops:Nat->List OpI) (k j:Nat):Nat->Nat:=λi=>if i<k then(ops i).length else if i=k then j else 0
def kA (ops:Nat->List OpI) (i:Nat):List Ans:=List.replicate (ops i).length ⟨false,0,[]⟩
theorem nt_answers {B n:Nat}{tb:Nat->Nat}{VT:Value}{VO:Nat->Value}{cnt:Nat->Nat}{VA:Nat->Value}{w:World}(h:Mems B (eE n tb VT VO cnt VA) w) {i:Nat}(hi:i<n):AnsAt w (VA i) (List.replicate (cnt i) ⟨false,0,[]⟩)/\(List.replicate (cnt i) (⟨false,0,[]⟩:Ans)).length<=maxLen:=by
 have hat:=h.at_ (pB hi);refine⟨?_,by rw[List.length_replicate];exact fN hat⟩;obtain⟨A,c,hv⟩:=cB h (pB hi);refine⟨A,c,by rw[List.length_replicate];exact hv,λk hk=>?_⟩;have hk':k<cnt i:=by simpa using hk
 obtain⟨g,c',e,_,_⟩:=bS h (pB hi) (by omega);have hr':eE n tb VT VO cnt VA (.ans i)=some ⟨48,3,.slice (some ⟨g,0,none⟩) (cnt i) c',cnt i,cJ 3 λ_=>zaF⟩:=by rw[<-e];exact pB hi
 have key:∀ j,j<3->w.cell? ⟨g,k*3+j,none⟩=some (zaF j):=λj hj=>by
  have:=Mems.cell h hr' (j:=k*3+j) (by omega);rw[this,jH hj]
 have hg:(List.replicate (cnt i) (⟨false,0,[]⟩:Ans))[k]=⟨false,0,[]⟩:=by simp
 refine⟨g,0,nilS,?_,?_,?_,?_,?_,?_⟩
 ·rw [hv] at e;cases e;rfl
 ·rw [Nat.zero_add,hg];exact key 0 (by omega)
 ·rw [Nat.zero_add,hg];exact key 1 (by omega)
 ·rw [Nat.zero_add];exact key 2 (by omega)
 ·rw [hg];exact⟨none,0,rfl,λi hi=>absurd hi (Nat.not_lt_zero _)⟩
 ·rw [hg];exact Nat.zero_le _
section
variable {w0:World}{nt:Nat}{tA:Option Addr}{cp Tb To:Nat}{A:Nat->Option Addr}{len cap:Nat->Nat}{ops:Nat->List OpI}
theorem nothing_ok (htA:0<nt->tA=some ⟨Tb,To,none⟩) (hnt:nt<=maxLen) (hin:OpsH w0 (min nt 64) Tb To A len cap ops) :
  Calls Try.prog 23 #[.slice tA nt cp] w0 λe w'=>∃ Aa ca,e=.returned (.agg #[.slice Aa (min nt 64) ca,.slice none 0 0,.slice none 0 0,.bool false]) /\
   (∀ wf:World,(∀ x,w0.heap.size<=x->wf.heap[x]?=w'.heap[x]?)->TraceAt wf (min nt 64) (kA ops) [] [] Aa ca (.slice none 0 0) (.slice none 0 0))/\Below w0.heap.size w0 w':=by
 have HI:=qd hin;clear hin;generalize hwz:w0.heap.size=wz;have HWZ:=qd hwz;clear hwz
 go_enter Try.func23,Try.ntmps23
 refine fD λK hK=>?_;go_wp2;refine hK.out _ _ ?_;clear hK K;have hb2:=Blk.new w0 31 #[.slice none 0 0,.slice none 0 0,.slice none 0 0,.bool false];have bw1:Below wz w0 (w0.alloc (.cells #[.slice none 0 0,.slice none 0 0,.slice none 0 0,.bool false] 31)):=(Below.refl _ w0).alloc (Nat.le_of_eq HWZ.out.symm) _;have hs1:(w0.alloc (.cells #[.slice none 0 0,.slice none 0 0,.slice none 0 0,.bool false] 31)).heap.size=wz+1:=by rw[World.size_alloc,HWZ.out]
 rw[HWZ.out] at hb2;rw[HWZ.out];generalize World.alloc w0 _=w1 at *;have HI1:=qd (HI.out.below (by rw[HWZ.out];exact bw1));have HB:=qd (And.intro hb2 (And.intro bw1 hs1));clear hb2 bw1 hs1 HI
 go_wp2_with fail
 refine(nD w1 tA nt cp Tb To htA hnt A len cap ops HI1.out).mono ?_;rintro e w2 ⟨tb,VT,VO,rfl,hT,bw2⟩;dsimp only;have holen:=HI1.out.olen;generalize hn:min nt 64=n at *;have hn64:n<=64:=by omega
 have HN:=qd hn;clear hn;obtain⟨TA,tc,hVT⟩:=cB hT (r:=.T) (thT _ _ _ _ _ _);subst hVT;have hVO:∀ i,i<n->∃ A c,VO i=.slice A (ops i).length c:=λi hi=>cB hT (r:=.op i) (thOp hi);have hlen:∀ i,i<n->(ops i).length<=65536:=λi hi=>by rw[holen i hi];omega
 obtain⟨mb,hmb⟩:∃ mb,mb=w1.heap.size:=⟨_,rfl⟩;rw[<-hmb] at hT bw2;have hM:=nt_of hT;have HC:=qd (And.intro hVO hlen);have HMB:=qd hmb
 have HMM:=qd (show ∃ VA,Mems mb (eE n tb (.slice TA n tc) VO (iP ops 0 0) VA) w2/\Below mb w1 w2 from ⟨_,(by
  have e:iP ops 0 0=λ_=>0:=by funext i;unfold iP;simp
  rw[e];exact hM),bw2⟩)
 clear hVO hlen hT bw2 hM holen hmb
 go_wp2_with fail
 go_loopw [4] (λi wr=>∃ k:Nat,k<=n/\i=.int .i64 k/\∃ VA,Mems mb (eE n tb (.slice TA n tc) VO (iP ops k 0) VA) wr/\Below mb w1 wr) (λi _=>n-(intOf i).toNat)
 case atStart=>exact⟨0,Nat.zero_le _,rfl,HMM.out⟩
 case round =>
  clear HMM;obtain⟨k,hk,rfl,VA,h⟩:=hrel;have HM:=qd h;clear h
  by_cases hlt:k<n
  ·have d1:decide (k<n)=true:=decide_eq_true hlt
   obtain⟨oA,oc,hVk⟩:=HC.out.1 k hlt;have hl:=HC.out.2 k hlt;obtain⟨m,hm⟩:∃ m,m=(ops k).length:=⟨_,rfl⟩;rw[<-hm] at hVk hl;have HVK:=qd hVk;have HMK:=qd hm;clear hVk hm
   go_wp2_with fail
   go_loopw [16] (λ_ wx=>∃ (j:Nat) (VA:Nat->Value),j<=m/\Mems mb (eE n tb (.slice TA n tc) VO (iP ops k j) VA) wx/\Below mb w1 wx) (λ_ wx=>m-lB wx ⟨tb k,1,none⟩)
   case atStart=>exact⟨0,VA,Nat.zero_le _,HM.out⟩
   case round =>
    clear HM;obtain⟨j,VA,hj,h⟩:=hrel;have hcj:iP ops k j k=j:=by unfold iP;simp
    obtain⟨g,c,hT,hgc,hcm⟩:=bS h.1 (r:=.T) (e:=116) (sz:=1) (v:=.slice TA n tc) (n:=n) (f:=λj=>.pointer (some ⟨tb j,0,none⟩)) rfl (by omega);cases hT;unfold maxLen at hcm;have cT:wr.cell? ⟨g,k,none⟩=some (.pointer (some ⟨tb k,0,none⟩)):=h.1.cell (r:=.T) (cap:=tc) (n:=n) (e:=116) (sz:=1) (f:=λj=>.pointer (some ⟨tb j,0,none⟩)) rfl (by omega);have c1:wr.cell? ⟨tb k,1,none⟩=some (.int .i64 j):=by rw[kR h.1 hlt 1 (by omega)];simp[ntF,hcj]
    have c0:wr.cell? ⟨tb k,0,none⟩=some (.slice oA m oc):=by rw[kR h.1 hlt 0 (by omega)];exact congrArg some HVK.out
    have HM:=qd h;have HCJ:=qd hcj;clear h hcj
    by_cases hjl:j<m
    ·have d2:decide (j<m)=true:=decide_eq_true hjl
     have hme:lB wr ⟨tb k,1,none⟩=j:=by rw[fC c1];simp
     have HME:=qd hme;clear hme
     go_wp2_with fail
     rename_i K0 hK0
     go_quiet (fail)
     have hmd:=Mems.drewN HM.out.1 nq;have bwd:=HM.out.2.trans (Below.drewN (Below.refl mb wr) nq);clear HM;generalize World.drewN wr nq=w3 at *;refine hK0 _ _ ?_;clear hK0 K0 c1 c0 cT;have cT:w3.cell? ⟨g,k,none⟩=some (.pointer (some ⟨tb k,0,none⟩)):=hmd.cell (r:=.T) (cap:=tc) (n:=n) (e:=116) (sz:=1) (f:=λj=>.pointer (some ⟨tb j,0,none⟩)) rfl (by omega);have HM:=qd (And.intro hmd bwd);clear hmd bwd
     go_wp2_with fail
     have hmw:mb<=w3.heap.size:=Nat.le_trans (Nat.le_of_eq HMB.out) HM.out.2.size;refine(ntend_ok HM.out.1 hmw hlt (by rw[HCJ.out];omega)).mono ?_;rintro e w4 ⟨rfl,⟨vg,hm4⟩,bw4⟩;dsimp only
     have e4:(λi=>if i=k then iP ops k j k+1 else iP ops k j i)=iP ops k (j+1):=by
      funext i
      unfold iP
      by_cases e:i=k
      ·subst e;simp
      ·simp [e]
     rw[e4] at hm4;have HM4:=qd (And.intro hm4 (HM.out.2.trans bw4))
     have ho4:lB w4 ⟨tb k,1,none⟩=j+1:=by
      rw[fC (kR hm4 hlt 1 (by omega))]
      simp[iP]
     have HO4:=qd ho4;clear hm4 bw4 ho4 HM cT e4;go_wp2;go_roundw
     case rel=>exact⟨j+1,_,by omega,HM4.out⟩
     case measure=>rw[HO4.out,HME.out];omega
    ·have d2:decide (j<m)=false:=decide_eq_false hjl
     have hjm:j=(ops k).length:=by have:=HMK.out;omega
     have HJ:=qd hjm;clear hjm
     go_wp2_with fail
     rename_i K0 hK0
     go_quiet (fail)
     have hmd:=Mems.drewN HM.out.1 nq;have bwd:=HM.out.2.trans (Below.drewN (Below.refl mb wr) nq);clear HM;generalize World.drewN wr nq=w3 at *;refine hK0 _ _ ?_;clear hK0 K0 c1 c0 cT
     have e4:iP ops k j=iP ops (k+1) 0:=by
      funext i
      unfold iP
      rcases Nat.lt_trichotomy i k with h | h | h
      ·simp [h,show i<k+1 by omega]
      ·subst h;simp[HJ.out]
      ·simp [show ¬i<k by omega,show ¬i=k by omega,show ¬i<k+1 by omega]
     rw[e4] at hmd;have HM5:=qd (show ∃ VA,Mems mb (eE n tb (.slice (some ⟨g,0,none⟩) n tc) VO (iP ops (k+1) 0) VA) w3/\Below mb w1 w3 from ⟨_,hmd,bwd⟩);clear hmd bwd e4;go_wp2;go_roundw
     case rel=>exact⟨k+1,by omega,by go_num,HM5.out⟩
     case measure=>simp[intOf];omega
  ·have ek:k=n:=by omega
   have d1:decide (k<n)=false:=decide_eq_false hlt;have HK:=qd ek;clear ek hlt hk
   go_wp2_with fail
   have hni:NumsIn wr none 0 []:=⟨Nat.le_refl _,Nat.zero_le _,λi hi=>absurd hi (Nat.not_lt_zero _)⟩;refine(nW wr none 0 [] hni (λ_=>rfl) (by simp) 0).mono ?_;rintro e w3 ⟨vs,rfl,hbt,hown,bw3⟩;dsimp only;have hmw:mb<=wr.heap.size:=Nat.le_trans (Nat.le_of_eq HMB.out) HM.out.2.size;have hm3:=HM.out.1.same λb hb=>bw3.block b hb;have bwm:=HM.out.2.trans (bw3.mono hmw);obtain⟨ub,hub⟩:∃ ub,ub=wr.heap.size:=⟨_,rfl⟩;rw[<-hub] at hbt ⊢;have c4:=hbt.cell 4;have c5:=hbt.cell 5
   simp at c4 c5
   have HM3:=qd (And.intro hm3 bwm)
   have htr:TrIn w3 ub (.slice none 0 0) false n TA tb VA:=by
    refine⟨c4,c5,λi hi=>?_,λi hi=>?_⟩
    ·obtain ⟨g,c,hT,hgc,hcm⟩:=bS hm3 (r:=.T) (e:=116) (sz:=1) (v:=.slice TA n tc) (n:=n) (f:=λj=>.pointer (some ⟨tb j,0,none⟩)) rfl (by omega)
     cases hT;exact⟨g,rfl,hm3.cell (r:=.T) (cap:=tc) (n:=n) (e:=116) (sz:=1) (f:=λj=>.pointer (some ⟨tb j,0,none⟩)) rfl (by omega)⟩
    ·refine ⟨kR hm3 hi 12 (by omega),?_⟩
     obtain⟨A,c,e⟩:=cB hm3 (pB hi);exact⟨A,_,c,e⟩
   have HTR:=qd (nC w3 ub none 0 0 false n TA tc tb VA none 0 0 hn64 htr);clear hbt hown bw3 hm3 bwm c4 c5 htr HM hni hub
   go_wp2_with fail
   refine HTR.out.mono ?_;rintro e w4 ⟨va',rfl,hva,bw4⟩;dsimp only;obtain⟨aA,ac,rfl⟩:=aQ hva;have hmw3:mb<=w3.heap.size:=Nat.le_trans (Nat.le_of_eq HMB.out) HM3.out.2.size;have bw9:Below mb w1 w4:=HM3.out.2.trans (bw4.mono hmw3);have hw1:wz<w1.heap.size:=HB.out.1.lt;have hb2:Blk w4 wz 31 _:=HB.out.1.below bw9 (by rw[HMB.out];exact hw1);have o0:=hb2.cell 0;have o1:=hb2.cell 1;have o2:=hb2.cell 2;have o3:=hb2.cell 3;have z0:=hb2.frozen 0;have z1:=hb2.frozen 1;have z2:=hb2.frozen 2;have z3:=hb2.frozen 3
   simp at o0 o1 o2 o3
   have HY:=qd (And.intro hva (And.intro bw4 (And.intro bw9 (And.intro hb2 hmw3))));clear hva bw4 bw9 hb2 hw1 HTR hmw hmw3;go_wp2;have hbf:=(((HY.out.2.2.2.1.set_ 0 (.slice aA n ac)).set_ 1 (.slice none 0 0)).set_ 2 (.slice none 0 0)).set_ 3 (.bool false);simp only[zA] at hbf;have hwm:wz<mb:=by have:=HB.out.1.lt;have:=HMB.out;omega
   have far:∀ x,mb<=x->((((w4.setCell ⟨wz,0,none⟩ (.slice aA n ac)).setCell ⟨wz,1,none⟩ (.slice none 0 0)).setCell ⟨wz,2,none⟩ (.slice none 0 0)).setCell ⟨wz,3,none⟩ (.bool false)).heap[x]?=w4.heap[x]?:=λx hx=>by
    have hne:x≠wz:=by omega
    rw[Below.heap_setCell _ _ _ _ hne,Below.heap_setCell _ _ _ _ hne,Below.heap_setCell _ _ _ _ hne,Below.heap_setCell _ _ _ _ hne]
   have bw0:Below wz w0 w4:=HB.out.2.1.trans (HY.out.2.2.1.mono (by omega));have bwf:=(((bw0.setCell (p:=⟨wz,0,none⟩) (Nat.le_refl _) (.slice aA n ac)).setCell (p:=⟨wz,1,none⟩) (Nat.le_refl _) (.slice none 0 0)).setCell (p:=⟨wz,2,none⟩) (Nat.le_refl _) (.slice none 0 0)).setCell (p:=⟨wz,3,none⟩) (Nat.le_refl _) (.bool false);have hm4:=HM3.out.1.same (w':=w4) λb hb=>HY.out.2.1.block b hb
   have hT:=λwf (hf:∀ x,mb<=x->wf.heap[x]?=w4.heap[x]?)=>show TraceAt wf n (kA ops) [] [] aA ac (.slice none 0 0) (.slice none 0 0) from by
    refine⟨⟨⟨none,0,rfl,λi hi=>absurd hi (Nat.not_lt_zero _)⟩,Nat.zero_le _⟩,⟨⟨none,0,rfl,λi hi=>absurd hi (Nat.not_lt_zero _)⟩,Nat.zero_le _⟩,λi hi=>?_⟩;have hma:=nt_answers (Mems.up12 hm4 (w':=wf) λx hx _=>hf x hx) hi;rw[show iP ops k 0 i=(ops i).length from by unfold iP;rw[if_pos (by have:=HK.out;omega)]] at hma;have hr:=iS HY.out.1 (w':=wf) λx hx _=>hf x (Nat.le_trans HY.out.2.2.2.2 hx)
    rcases hr.2 with⟨_,z⟩ | ⟨g,cap,cur,e,_⟩
    ·omega
    ·cases e
     refine⟨g,0,VA i,rfl,?_,hma⟩;rw[Nat.zero_add];exact(hr.cellAt i (by omega)).trans (cQ (by omega))
   have hT:=λ(wg:World) (hg:∀ x,mb<=x->wg.heap[x]?=_)=>hT wg λx hx=>(hg x hx).trans (far x hx);clear far bw0 hm4;generalize World.setCell _ _ _=wf at *;have d0:=hbf.cell 0;have d1:=hbf.cell 1;have d2:=hbf.cell 2;have d3:=hbf.cell 3
   simp at d0 d1 d2 d3
   refine bodyPost_ret (v:=.agg #[.slice aA n ac,.slice none 0 0,.slice none 0 0,.bool false]) (by simp[results,Try.f23,go_sem,d0,d1,d2,d3]) rfl ?_;rw[HN.out];exact⟨aA,ac,rfl,λwg hg=>hT wg λx hx=>hg x (by omega),bwf⟩
end
theorem new12_bad (w:World) (a b:Int) (h:¬(fits a/\0<=b/\b<=64)):Calls Try.prog 22 #[.int .i64 a,.int .i64 b] w λe w'=>e=.returned (.pointer none)/\Below w.heap.size w w':=by
 have HH:=qd h;clear h
 by_cases c1:b<0
 ·have d1:decide (b<0)=true:=decide_eq_true c1
  go_enter Try.func22,Try.ntmps22
  go_wp2_with fail
  refine(kO a w).mono ?_;rintro e w' ⟨h,rfl⟩
  rcases h with⟨rfl,hf⟩ | ⟨rfl,hf⟩
  ·go_wp2
   go_ret;exact⟨rfl,Below.refl _ _⟩
  ·go_wp2
   go_ret;exact⟨rfl,Below.refl _ _⟩
 ·have d1:decide (b<0)=false:=decide_eq_false c1
  by_cases c2:64<b
  ·have d2:decide (64<b)=true:=decide_eq_true c2
   go_enter Try.func22,Try.ntmps22
   go_wp2_with fail
   refine(kO a w).mono ?_;rintro e w' ⟨h,rfl⟩
   rcases h with⟨rfl,hf⟩ | ⟨rfl,hf⟩
   ·go_wp2
    go_ret;exact⟨rfl,Below.refl _ _⟩
   ·go_wp2
    go_ret;exact⟨rfl,Below.refl _ _⟩
  ·have d2:decide (64<b)=false:=decide_eq_false c2
   go_enter Try.func22,Try.ntmps22
   go_wp2_with fail
   refine(kO a w).mono ?_;rintro e w' ⟨h,rfl⟩
   rcases h with⟨rfl,hf⟩ | ⟨rfl,hf⟩
   ·exact absurd ⟨hf,by omega,by omega⟩ HH.out
   ·go_wp2
    go_ret;exact⟨rfl,Below.refl _ _⟩
section
variable {w0:World}{a b:Int}{nt:Nat}{tA:Option Addr}{cp Tb To:Nat}{A:Nat->Option Addr}{len cap:Nat->Nat}{ops:Nat->List OpI}{sA:Option Addr}{sc:Nat}{xs:List Int}{most:Int}
theorem play12_bad (hbad:¬(fits a/\0<=b/\b<=64)) (hin:PlIn w0 nt tA Tb To A len cap ops sA sc xs) :
  Calls Try.prog 9 #[.int .i64 a,.int .i64 b,.slice tA nt cp,.slice sA xs.length sc,.int .i64 most] w0 λe w'=>∃ Aa ca,e=.returned (.agg #[.slice Aa (min nt 64) ca,.slice none 0 0,.slice none 0 0,.bool false]) /\
   TraceAt w' (min nt 64) (kA ops) [] [] Aa ca (.slice none 0 0) (.slice none 0 0)/\Below w0.heap.size w0 w':=by
 have HI:=qd hin;clear hin;generalize hwz:w0.heap.size=wz;have HWZ:=qd hwz;clear hwz
 go_enter Try.func9,Try.ntmps9
 refine fD λK hK=>?_;go_wp2;refine hK.out _ _ ?_;clear hK K;have hb10:=Blk.new w0 31 #[.slice none 0 0,.slice none 0 0,.slice none 0 0,.bool false];have bw1:Below wz w0 (w0.alloc (.cells #[.slice none 0 0,.slice none 0 0,.slice none 0 0,.bool false] 31)):=(Below.refl _ w0).alloc (Nat.le_of_eq HWZ.out.symm) _;have hs1:(w0.alloc (.cells #[.slice none 0 0,.slice none 0 0,.slice none 0 0,.bool false] 31)).heap.size=wz+1:=by rw[World.size_alloc,HWZ.out]
 rw[HWZ.out] at hb10;rw[HWZ.out];generalize World.alloc w0 _=w1 at *;have HI1:=qd (HI.out.below (by rw[HWZ.out];exact bw1));have HB:=qd (And.intro hb10 (And.intro bw1 hs1));have HBAD:=qd hbad;clear hb10 bw1 hs1 hbad
 go_wp2_with fail
 refine(new12_bad w1 a b HBAD.out).mono ?_;rintro e w2 ⟨rfl,bw2⟩;dsimp only;have HI2:=qd (HI1.out.below bw2);have HB2:=qd bw2;clear bw2
 go_wp2_with fail
 refine(nothing_ok HI2.out.tA_ HI2.out.nt_ HI2.out.ops_).mono ?_;rintro e w3 ⟨Aa,ca,rfl,hT,bw3⟩;dsimp only
 have bw9:Below (wz+1) w1 w3:=by
  have h2:=HB2.out;rw[HB.out.2.2] at h2;exact h2.trans (bw3.mono (by have:=h2.size;rw[HB.out.2.2] at this;exact this))
 have hb2:Blk w3 wz 31 _:=HB.out.1.below bw9 (Nat.lt_succ_self _);have o0:=hb2.cell 0;have o1:=hb2.cell 1;have o2:=hb2.cell 2;have o3:=hb2.cell 3;have z0:=hb2.frozen 0;have z1:=hb2.frozen 1;have z2:=hb2.frozen 2;have z3:=hb2.frozen 3
 simp at o0 o1 o2 o3
 have hsz2:wz+1<=w2.heap.size:=by have:=HB2.out.size;rw[HB.out.2.2] at this;exact this
 have HY:=qd (And.intro hT (And.intro bw9 (And.intro hb2 hsz2)));clear hT bw9 hb2 bw3 hsz2;generalize hn:min nt 64=n at *;have HN:=qd hn;clear hn;go_wp2;have hbf:=(((HY.out.2.2.1.set_ 0 (.slice Aa n ca)).set_ 1 (.slice none 0 0)).set_ 2 (.slice none 0 0)).set_ 3 (.bool false);simp only[zA] at hbf
 have far:∀ x,wz+1<=x->((((w3.setCell ⟨wz,0,none⟩ (.slice Aa n ca)).setCell ⟨wz,1,none⟩ (.slice none 0 0)).setCell ⟨wz,2,none⟩ (.slice none 0 0)).setCell ⟨wz,3,none⟩ (.bool false)).heap[x]?=w3.heap[x]?:=λx hx=>by
  have hne:x≠wz:=by omega
  rw[Below.heap_setCell _ _ _ _ hne,Below.heap_setCell _ _ _ _ hne,Below.heap_setCell _ _ _ _ hne,Below.heap_setCell _ _ _ _ hne]
 have bw0:Below wz w0 w3:=HB.out.2.1.trans (HY.out.2.1.mono (by omega));have bwf:=(((bw0.setCell (p:=⟨wz,0,none⟩) (Nat.le_refl _) (.slice Aa n ca)).setCell (p:=⟨wz,1,none⟩) (Nat.le_refl _) (.slice none 0 0)).setCell (p:=⟨wz,2,none⟩) (Nat.le_refl _) (.slice none 0 0)).setCell (p:=⟨wz,3,none⟩) (Nat.le_refl _) (.bool false);have hT:=HY.out.1 _ λx hx=>far x (Nat.le_trans HY.out.2.2.2 hx);clear far bw0;generalize World.setCell _ _ _=wf at *;have d0:=hbf.cell 0;have d1:=hbf.cell 1;have d2:=hbf.cell 2;have d3:=hbf.cell 3
 simp at d0 d1 d2 d3
 refine bodyPost_ret (v:=.agg #[.slice Aa n ca,.slice none 0 0,.slice none 0 0,.bool false]) (by simp[results,Try.f9,go_sem,d0,d1,d2,d3]) rfl ?_;rw[HN.out];exact⟨Aa,ca,rfl,hT,bwf⟩
end
end Go.Proofs.Ytlcplealnbekeaa
