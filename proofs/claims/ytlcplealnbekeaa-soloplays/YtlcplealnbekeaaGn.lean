/- DERIVED. The document's machine of layer 12 in memory while its rows grow (New). -/
import Derived.Test.YtlcplealnbekeaaGm
import Derived.Test.YtlcplealnbekeaaGh
import Derived.Laws.AppendOwnNone
set_option linter.unusedVariables false
set_option linter.unusedSectionVars false
set_option linter.unusedSimpArgs false
set_option maxHeartbeats 4000000
set_option maxRecDepth 100000
namespace Go.Proofs.Ytlcplealnbekeaa
open Go.RowKit Go.Turn
open Go.ConcN (upd upd_ne upd_same)
structure TU where
 sched:List Int
 at_:Nat
 round:Nat
 most:Nat
 order:List Int
 stuck:Bool
namespace TU
def left (e:Nat->Bool):Nat->Nat
 | 0=>0
 | j+1=>left e j+(if e j then 0 else 1)
def may (n:Nat) (e:Nat->Bool) (t:Int):Prop:=0<=t/\t<n/\e t.toNat=false
instance (n:Nat) (e:Nat->Bool) (t:Int):Decidable (may n e t):=by unfold may;infer_instance
def scan (n:Nat) (e:Nat->Bool):List Int->Nat × Option Nat
 | []=>(0,none)
 | t::l=>if may n e t then(1,some t.toNat) else((scan n e l).1+1,(scan n e l).2)
def next (n:Nat) (e:Nat->Bool):Nat->Nat->Nat
 | 0,r=>r
 | f+1,r=>if e r then next n e f ((r+1)%n) else r
def pick (u:TU) (n:Nat) (e:Nat->Bool):TU × Option Nat:=
 if left e n=0 then(u,none)
 else if u.most<=u.order.length then({ u with stuck:=true },none)
 else
  let c:=scan n e (u.sched.drop u.at_)
  let u1:TU:={ u with at_:=u.at_+c.1 }
  match c.2 with
  | some t=>({ u1 with order:=u.order++[(t:Int)] },some t)
  | none =>
    let r:=next n e n u.round
    ({ u1 with round:=(r+1)%n,order:=u.order++[(r:Int)] },some r)
def told:Option Nat->Int
 | some t=>t
 | none=>-1
theorem left_pos {e:Nat->Bool}{n:Nat}(h:left e n≠0):∃ i,i<n/\e i=false:=by
 induction n with
 | zero=>exact absurd rfl h
 | succ n ih =>
   cases he:e n with
   | false=>exact⟨n,by omega,he⟩
   | true =>
     simp only[left,he,if_true] at h;obtain⟨i,h1,h2⟩:=ih (by omega);exact⟨i,by omega,h2⟩
theorem left_le (e:Nat->Bool):∀ n,left e n<=n
 | 0=>Nat.le_refl _
 | n+1=>by
   have:=left_le e n;simp only[left]
   split <;> omega
def ScanT (u:TU) (n:Nat) (e:Nat->Bool) (k:Nat):Prop:=u.at_<=k/\k<=u.sched.length/\scan n e (u.sched.drop u.at_)=(k-u.at_+(scan n e (u.sched.drop k)).1,(scan n e (u.sched.drop k)).2)
section
variable {u:TU}{n k:Nat}{e:Nat->Bool}
theorem ScanT.start (h:u.at_<=u.sched.length):ScanT u n e u.at_:=⟨Nat.le_refl _,h,by simp⟩
theorem drop_eq (hk:k<u.sched.length):u.sched.drop k=u.sched.getD k 0::u.sched.drop (k+1):=by
 rw[List.drop_eq_getElem_cons hk,List.getD_eq_getElem?_getD,List.getElem?_eq_getElem hk]
 rfl
theorem ScanT.over (h:ScanT u n e k) (hk:u.sched.length<=k):scan n e (u.sched.drop u.at_)=(k-u.at_,none):=by
 rw[h.2.2,List.drop_of_length_le hk]
 rfl
theorem ScanT.skip (h:ScanT u n e k) (hk:k<u.sched.length) (hm:¬may n e (u.sched.getD k 0)):ScanT u n e (k+1):=by
 obtain⟨h1,h2,h3⟩:=h;refine⟨by omega,by omega,?_⟩;rw[h3,drop_eq hk];simp only[scan,if_neg hm,Prod.mk.injEq,and_true]
 omega
theorem ScanT.found (h:ScanT u n e k) (hk:k<u.sched.length) (hm:may n e (u.sched.getD k 0)):scan n e (u.sched.drop u.at_)=(k+1-u.at_,some (u.sched.getD k 0).toNat):=by
 obtain⟨h1,h2,h3⟩:=h;rw[h3,drop_eq hk];simp only[scan,if_pos hm,Prod.mk.injEq,and_true]
 omega
end
def dist (i0 n r:Nat):Nat:=if r<=i0 then i0-r else i0+n-r
theorem dist_lt {i0 n r:Nat}(hi:i0<n) (hr:r<n):dist i0 n r<n:=by unfold dist;split <;> omega
theorem dist_step {i0 n r:Nat}(hi:i0<n) (hr:r<n) (hne:r≠i0):dist i0 n ((r+1)%n)+1=dist i0 n r:=by
 by_cases h:r+1<n
 ·rw [Nat.mod_eq_of_lt h];unfold dist;split <;> split <;> omega
 ·have e:r+1=n:=by omega
  rw[e,Nat.mod_self];unfold dist;split <;> split <;> omega
theorem next_stop {n:Nat}{e:Nat->Bool}{r:Nat}(h:e r=false):∀ f,next n e f r=r
 | 0=>rfl
 | f+1=>by simp[next,h]
end TU
def tuF (vs vo:Value) (u:TU):Nat->Value
 | 0=>vs
 | 1=>.int .i64 u.at_
 | 2=>.int .i64 u.round
 | 3=>.int .i64 u.most
 | 4=>vo
 | _=>.bool u.stuck
def fI (v:Value) (l:List Int):Row:=⟨3,1,v,l.length,λj=>.int .i64 (l.getD j 0)⟩
def xU (ub:Nat) (vs vo:Value) (u:TU) (Y:Nat->Option Row):Nat->Option Row
 | 0=>some ⟨120,6,.slice (some ⟨ub,0,none⟩) 1 1,1,tuF vs vo u⟩
 | 1=>some (fI vs u.sched)
 | 2=>some (fI vo u.order)
 | k+3=>Y k
def dS (B mb:Nat) (tb:Nat->Nat) (st:RS) (V:Rt->Value) (ub:Nat) (vs vo:Value) (u:TU) (Y:Nat->Option Row) (w:World):Prop:=Mems B (aY mb tb { st with X:=xU ub vs vo u Y } V) w
section
variable {B mb ub:Nat}{tb:Nat->Nat}{st:RS}{V:Rt->Value}{vs vo:Value}{u:TU}{Y:Nat->Option Row}{w w':World}
theorem eB (h:dS B mb tb st V ub vs vo u Y w) (k:Nat) (hk:k<6):w.cell? ⟨ub,k,none⟩=some (tuF vs vo u k):=Mems.cell (r:=.ext 0) h rfl (by omega)
theorem qY (h:dS B mb tb st V ub vs vo u Y w) (k:Nat):w.frozen? ⟨ub,k,none⟩=false:=Mems.frozen (r:=.ext 0) h rfl k
theorem uset (h:dS B mb tb st V ub vs vo u Y w) (u':TU) (k:Nat) (x:Value) (hf:∀ j,j<6->tuF vs vo u' j=if j=k then x else tuF vs vo u j) (h1:u'.sched=u.sched) (h2:u'.order=u.order):dS B mb tb st V ub vs vo u' Y (w.setCell ⟨ub,k,none⟩ x):=by
 refine Mems.set (r:=.ext 0) (f':=tuF vs vo u') h rfl k x rfl (λj hj=>hf j (by omega)) λr hr=>?_;cases r with
 | ext j =>
   rcases j with _ | _ | _ | j
   ·exact absurd rfl hr
   ·show some (fI vs u'.sched)=some (fI vs u.sched);rw[h1]
   ·show some (fI vo u'.order)=some (fI vo u.order);rw[h2]
   ·rfl
 | _=>rfl
theorem ucells (h:dS B mb tb st V ub vs vo u Y w) {g c:Nat}(hv:vs=.slice (some ⟨g,0,none⟩) u.sched.length c) {k:Nat}(hk:k<u.sched.length):w.cell? ⟨g,k,none⟩=some (.int .i64 (u.sched.getD k 0)):=
 Mems.cell (r:=.ext 1) (cap:=c) (n:=u.sched.length) (e:=3) (sz:=1) (f:=λj=>.int .i64 (u.sched.getD j 0)) h (by rw[<-hv];rfl) (by omega)
theorem mK (h:dS B mb tb st V ub vs vo u Y w) {g c:Nat}(hv:V .T=.slice (some ⟨g,0,none⟩) st.n c) {i:Nat}(hi:i<st.n):w.cell? ⟨g,i,none⟩=some (.pointer (some ⟨tb i,0,none⟩)):=
 Mems.cell (r:=.T) (cap:=c) (n:=st.n) (e:=116) (sz:=1) (f:=λj=>.pointer (some ⟨tb j,0,none⟩)) h (by rw[<-hv];rfl) (by omega)
theorem uended (h:dS B mb tb st V ub vs vo u Y w) {i:Nat}(hi:i<st.n):w.cell? ⟨tb i,13,none⟩=some (.bool (st.ended i)):=aS (st:={ st with X:=xU ub vs vo u Y }) h hi 13 (by omega)
def xA (ub:Nat) (vs vo:Value) (u:TU) (Y:Nat->Option Row) (vg:Value) (y:Int):Nat->Option Row:=λk=>if k=2 then some (fI vg (u.order++[y])) else xU ub vs vo u Y k
theorem uapp (h:dS B mb tb st V ub vs vo u Y w) {w1:World}{vg:Value}{y:Int}(hown:w1.ownsRow B 3 1 vg (u.order.length+1) (aK u.order.length (λj=>.int .i64 (u.order.getD j 0))++[.int .i64 y])) (hg:w.grownBy w1 vo.ownBlock) (hv:vg.ownBlock=vo.ownBlock\/vg.ownBlock=some w.heap.size) :
  Mems B (aY mb tb { st with X:=xA ub vs vo u Y vg y } V) w1:=by
 have e:aK (u.order.length+1) (λj=>(.int .i64 ((u.order++[y]).getD j 0):Value))=aK u.order.length (λj=>.int .i64 (u.order.getD j 0))++[.int .i64 y]:=by
  rw[show ([.int .i64 y]:List Value)=aK 1 (λ_=>.int .i64 y) from rfl,dO];refine bU λj hj=>?_
  by_cases hlt:j<u.order.length
  ·rw [if_pos hlt,List.getD_eq_getElem?_getD,List.getElem?_append_left hlt,<-List.getD_eq_getElem?_getD]
  ·rw [if_neg hlt,show j=u.order.length by omega];simp
 refine Mems.app (r:=.ext 2) (d:=fI vo u.order) (d':=fI vg (u.order++[y])) h rfl rfl (λr hr=>?_) hg ?_ hv
 ·cases r with
  | ext j =>
    have:j≠2:=λz=>hr (by rw[z])
    show xA ub vs vo u Y vg y j=xU ub vs vo u Y j
    exact if_neg this
  | _=>rfl
 ·unfold Row.At fI
  simp only[List.length_append,List.length_singleton,Nat.mul_one];rw[e];exact hown
theorem ushut {vg:Value}{y:Int}(h:Mems B (aY mb tb { st with X:=xA ub vs vo u Y vg y } V) w):dS B mb tb st V ub vs vg { u with order:=u.order++[y] } Y (w.setCell ⟨ub,4,none⟩ vg):=by
 refine Mems.set (r:=.ext 0) (f':=tuF vs vg { u with order:=u.order++[y] }) h rfl 4 vg rfl (λj hj=>?_) λr hr=>?_
 ·rcases j with _ | _ | _ | _ | _ | _ | j <;> simp[tuF]
 ·cases r with
  | ext j =>
    rcases j with _ | _ | _ | j
    ·exact absurd rfl hr
    ·rfl
    ·rfl
    ·rfl
  | _=>rfl
theorem uown (h:dS B mb tb st V ub vs vo u Y w):w.ownsRow B 3 1 vo u.order.length (aK u.order.length (λj=>.int .i64 (u.order.getD j 0))):=by
 have k:=Mems.at_ h (r:=.ext 2) (d:=fI vo u.order) rfl;unfold Row.At fI at k;simp only[Nat.mul_one] at k;exact k
end
end Go.Proofs.Ytlcplealnbekeaa
namespace Go.Proofs.Ytlcplealnbekeaa
open Go.RowKit Go.Turn
open Go.ConcN (upd upd_ne upd_same)
def lB (w:World) (a:Addr):Nat:=match w.cell? a with
 | some (.int _ n)=>n.toNat
 | _=>0
theorem fC {w:World}{a:Addr}{k:IntKind}{n:Int}(h:w.cell? a=some (.int k n)):lB w a=n.toNat:=by unfold lB;rw[h]
theorem Try.infoIn:(Try.prog.info? 3).map (λi=>(i.zero,i.size,i.bytes))=some (some (.int .i64 0),1,8):=by kernel_rfl
theorem newA1 (w:World) (v:Value) (t:TypeId):∀ j u,[v][j]?=some u->(w.alloc (.cells #[v] t)).cell? ((⟨w.heap.size,0,none⟩:Addr).add j)=some u:=by
 intro j u h;cases j with
 | zero =>
   simp only[List.getElem?_cons_zero,Option.some.injEq] at h;subst h;exact(Blk.new w t #[v]).cell 0
 | succ j=>simp at h
theorem kS (w:World) (v:Value) (t:TypeId) {b:Nat}(hb:w.heap.size=b):∀ j u,[v][j]?=some u->(w.alloc (.cells #[v] t)).cell? ((⟨b,0,none⟩:Addr).add j)=some u:=hb▸newA1 w v t
section
variable {B mb ub:Nat}{tb:Nat->Nat}{st:RS}{V:Rt->Value}{vs vo:Value}{u:TU}{Y:Nat->Option Row}{w w':World}
theorem pick12_ok (h:dS B mb tb st V ub vs vo u Y w) (hB:B<=w.heap.size) (hn:st.n<=64) (hat:u.at_<=u.sched.length) (hr:u.round<st.n\/st.n=0) (hm:u.most<=1048576) :
  Calls Try.prog 27 #[.pointer (some ⟨ub,0,none⟩),V .T] w λx w'=>x=.returned (.int .i64 (TU.told (u.pick st.n st.ended).2))/\(∃ vo',dS B mb tb st V ub vs vo' (u.pick st.n st.ended).1 Y w')/\Below B w w':=by
 have hBu:B<=ub:=(Mems.lt (r:=.ext 0) h rfl (b:=ub) rfl).1;obtain⟨oA,oc,hvo⟩:=cB h (r:=.ext 2) (e:=3) (sz:=1) (n:=u.order.length) (v:=vo) (f:=λj=>.int .i64 (u.order.getD j 0)) rfl;obtain⟨sA,sc,hvs⟩:=cB h (r:=.ext 1) (e:=3) (sz:=1) (n:=u.sched.length) (v:=vs) (f:=λj=>.int .i64 (u.sched.getD j 0)) rfl;obtain⟨tA,tc,hvt⟩:=cB h (r:=.T) (e:=116) (sz:=1) (n:=st.n) (v:=V .T) (f:=λj=>.pointer (some ⟨tb j,0,none⟩)) rfl;have HT:=qd hvt;rw[hvt];have HM:=qd (And.intro h (Below.refl B w));have HV:=qd (And.intro hvo hvs);clear h hvo hvs hvt;obtain⟨sf,hsf⟩:∃ sf,sf=u.pick st.n st.ended:=⟨_,rfl⟩;rw[<-hsf];have HF:=qd hsf;clear hsf
 go_enter Try.func27,Try.ntmps27
 go_wp2
 go_loopw [5,6] (λl i wr=>∃ j:Nat,j<=st.n/\i=.int .i64 j/\l=.int .i64 (TU.left st.ended j:Nat)/\wr=w) (λ_ i _=>st.n-(intOf i).toNat)
 case atStart=>exact⟨0,Nat.zero_le _,rfl,rfl,rfl⟩
 case round =>
  obtain⟨j,hj,rfl,rfl,rfl⟩:=hrel
  by_cases hlt:j<st.n
  ·obtain ⟨g,c,hT,hgc,hcm⟩:=bS HM.out.1 (r:=.T) (e:=116) (sz:=1) (v:=V .T) (n:=st.n) (f:=λj=>.pointer (some ⟨tb j,0,none⟩)) rfl (by omega)
   have eT:=HT.out.symm.trans hT;cases eT;have cT:=mK HM.out.1 hT hlt;have cE:=uended HM.out.1 hlt;unfold maxLen at hcm;have hl:=TU.left_le st.ended j;generalize hll:TU.left st.ended j=ll at *;have HL:=qd hll;clear hT hll;have d0:decide (j<st.n)=true:=decide_eq_true hlt;cases he:st.ended j with
   | false =>
     rw[he] at cE;have HE:=qd he;clear he;go_wp2;go_roundw
     case rel=>exact⟨j+1,by omega,by go_num,by simp[TU.left,HE.out,HL.out],trivial⟩
     case measure=>simp[intOf];omega
   | true =>
     rw[he] at cE;have HE:=qd he;clear he;go_wp2;go_roundw
     case rel=>exact⟨j+1,by omega,by go_num,by simp[TU.left,HE.out,HL.out],trivial⟩
     case measure=>simp[intOf];omega
  ·have ej : j=st.n:=by omega
   subst ej;have d0:decide (st.n<st.n)=false:=decide_eq_false hlt
   by_cases hl0:TU.left st.ended st.n=0
   ·have HE:Hid (sf=(u,none)):=qd (HF.out.trans (if_pos hl0))
    have d1:(((TU.left st.ended st.n:Nat):Int)==0)=true:=by rw[hl0];rfl
    generalize TU.left st.ended st.n=ll at *;clear hl0;go_wp2;go_ret;rw[HE.out];exact⟨rfl,⟨vo,HM.out.1⟩,HM.out.2⟩
   ·have HE:=qd (HF.out.trans (if_neg hl0))
    have d1:(((TU.left st.ended st.n:Nat):Int)==0)=false:=by
     have:((TU.left st.ended st.n:Nat):Int)≠0:=by omega
     simpa using this
    have HL:=qd (TU.left_pos hl0);generalize TU.left st.ended st.n=ll at *;clear hl0;go_wp2;have t4:wr.cell? ⟨ub,4,none⟩=some (.slice oA u.order.length oc):=(eB HM.out.1 4 (by omega)).trans (congrArg some HV.out.1);have t3:wr.cell? ⟨ub,3,none⟩=some (.int .i64 u.most):=eB HM.out.1 3 (by omega);rename_i K0 hK0
    by_cases c2:u.most<=u.order.length
    ·have d2:decide ((u.most:Int)<=(u.order.length:Int))=true:=decide_eq_true (by omega)
     have d3:decide (u.most<=u.order.length)=true:=decide_eq_true c2;have HE2:=qd (HE.out.trans (if_pos c2));clear c2 HE
     go_quiet (fail)
     replace HM:=qd (show dS B mb tb st V ub vs vo u Y _/\Below B _ _ from And.intro (Mems.drewN HM.out.1 nq) (HM.out.2.trans (Below.drewN (Below.refl B _) nq)));generalize World.drewN _ nq=w1 at *;refine hK0 _ _ ?_;clear hK0 K0 t4 t3;have t5:=eB HM.out.1 5 (by omega);have z5:=qY HM.out.1 5;go_wp2;go_ret;rw[HE2.out];refine⟨rfl,⟨vo,uset HM.out.1 _ 5 (.bool true) (λj hj=>?_) rfl rfl⟩,HM.out.2.setCell (p:=⟨ub,5,none⟩) hBu _⟩
     rcases j with _ | _ | _ | _ | _ | _ | j <;> first | omega | simp[tuF]
    ·have d2 : decide ((u.most:Int)<=(u.order.length:Int))=false:=decide_eq_false (by omega)
     have d3:decide (u.most<=u.order.length)=false:=decide_eq_false c2;have HE2:=qd (HE.out.trans (if_neg c2));clear HE
     go_quiet (fail)
     replace HM:=qd (show dS B mb tb st V ub vs vo u Y _/\Below B _ _ from And.intro (Mems.drewN HM.out.1 nq) (HM.out.2.trans (Below.drewN (Below.refl B _) nq)));generalize World.drewN _ nq=w1 at *;refine hK0 _ _ ?_;clear hK0 K0 t4 t3;go_wp2;have HS:=qd (TU.ScanT.start (n:=st.n) (e:=st.ended) hat);obtain⟨w0,hw0⟩:∃ w0,w0=wr:=⟨_,rfl⟩;subst hw0
     go_loopw [7] (λ_ wx=>∃ k:Nat,dS B mb tb st V ub vs vo { u with at_:=k } Y wx/\Below B w0 wx/\TU.ScanT u st.n st.ended k) (λ_ wx=>u.sched.length-lB wx ⟨ub,1,none⟩)
     case atStart=>exact⟨u.at_,HM.out.1,HM.out.2,HS.out⟩
     case round =>
      obtain⟨k,h,hb,hs⟩:=hrel;clear HM HS;have hk1:=hs.1;have hk2:=hs.2.1;have t1:wr.cell? ⟨ub,1,none⟩=some (.int .i64 k):=eB h 1 (by omega);have t0:wr.cell? ⟨ub,0,none⟩=some (.slice sA u.sched.length sc):=(eB h 0 (by omega)).trans (congrArg some HV.out.2);have HM:=qd (And.intro h hb);have HS:=qd hs;clear h hb hs
      by_cases hlt:k<u.sched.length
      ·have d2:decide ((k:Int)<(u.sched.length:Int))=true:=decide_eq_true (by omega)
       have d3:decide (k<u.sched.length)=true:=decide_eq_true hlt;have hme:lB wr ⟨ub,1,none⟩=k:=by rw[fC t1];simp
       have HME:=qd hme;obtain⟨g,c,hG,hgc,hcm⟩:=bS (r:=.ext 1) HM.out.1 (e:=3) (sz:=1) (v:=vs) (n:=u.sched.length) (f:=λj=>.int .i64 (u.sched.getD j 0)) rfl (by omega);have eG:=HV.out.2.symm.trans hG;cases eG;unfold maxLen at hcm;have hll:(u.sched.length:Int)<=9223372036854775807:=by omega
       clear hme;go_wp2;rename_i K0 hK0
       go_quiet (fail)
       replace HM:=qd (show dS B mb tb st V ub vs vo { u with at_:=k } Y _/\Below B _ _ from And.intro (Mems.drewN HM.out.1 nq) (HM.out.2.trans (Below.drewN (Below.refl B _) nq)));generalize World.drewN _ nq=w2 at *;refine hK0 _ _ ?_;clear hK0 K0 t1 t0;have t1:w2.cell? ⟨ub,1,none⟩=some (.int .i64 k):=eB HM.out.1 1 (by omega);have t0:w2.cell? ⟨ub,0,none⟩=some (.slice (some ⟨g,0,none⟩) u.sched.length sc):=(eB HM.out.1 0 (by omega)).trans (congrArg some hG);have cS:=ucells HM.out.1 hG hlt;obtain⟨t,ht⟩:∃ t,t=u.sched.getD k 0:=⟨_,rfl⟩;rw[<-ht] at cS;have HTT:=qd ht;clear ht;go_wp2;rename_i K0 hK0
       go_quiet (fail)
       replace HM:=qd (show dS B mb tb st V ub vs vo { u with at_:=k } Y _/\Below B _ _ from And.intro (Mems.drewN HM.out.1 nq) (HM.out.2.trans (Below.drewN (Below.refl B _) nq)));generalize World.drewN _ nq=w3 at *;refine hK0 _ _ ?_;clear hK0 K0 t1 t0 cS;have t1:w3.cell? ⟨ub,1,none⟩=some (.int .i64 k):=eB HM.out.1 1 (by omega);have z1:=qY HM.out.1 1;refine fD λK hK=>?_;go_wp2;refine hK.out _ _ ?_;clear hK K;clear t1 z1;rw[show ((k:Int)+1)=((k+1:Nat):Int) from by omega];replace HM:=qd (show dS B mb tb st V ub vs vo { u with at_:=k+1 } Y (w3.setCell ⟨ub,1,none⟩ (.int .i64 ((k+1:Nat):Int)))/\Below B w0 (w3.setCell ⟨ub,1,none⟩ (.int .i64 ((k+1:Nat):Int))) from And.intro (uset HM.out.1 _ 1 _ (λj hj=>by rcases j with _ | _ | _ | _ | _ | _ | j <;> first | omega | simp[tuF]) rfl rfl) (HM.out.2.setCell (p:=⟨ub,1,none⟩) hBu _));generalize World.setCell w3 _ _=w4 at *
       by_cases q1:0<=t
       ·have d4:decide (0<=t)=true:=decide_eq_true q1
        by_cases q2:t<st.n
        ·have d5:decide (t<st.n)=true:=decide_eq_true q2
         obtain⟨tn,rfl⟩:∃ tn:Nat,t=tn:=⟨t.toNat,by omega⟩;have q3:tn<st.n:=by omega
         obtain⟨g2,c2,hT,hgc2,hcm2⟩:=bS (r:=.T) HM.out.1 (e:=116) (sz:=1) (v:=V .T) (n:=st.n) (f:=λj=>.pointer (some ⟨tb j,0,none⟩)) rfl (show 0<st.n by omega);have eT:=HT.out.symm.trans hT;cases eT;have cT:=mK HM.out.1 hT q3;have cE:=uended HM.out.1 q3;have d6:decide (tn<st.n)=true:=decide_eq_true q3;cases he:st.ended tn with
         | true =>
           rw[he] at cE;have HN:=qd (show ¬TU.may st.n st.ended (tn:Int) from λz=>by have:=z.2.2;simp[he] at this);clear he hT;clear d2 d3;go_wp2;go_roundw
           case rel=>exact⟨k+1,HM.out.1,HM.out.2,HS.out.skip hlt (HTT.out▸HN.out)⟩
           case measure=>rw[HME.out,fC (eB HM.out.1 1 (by omega))];simp;omega
         | false =>
           rw[he] at cE;have HN:=qd (show TU.may st.n st.ended (tn:Int) from ⟨q1,q2,by simpa using he⟩);clear he hT
           have HQ:Hid (sf=({ u with at_:=k+1,order:=u.order++[(tn:Int)] },some tn)):=qd (by
            have e:=HE2.out;rw[HS.out.found hlt (HTT.out▸HN.out),<-HTT.out] at e;simp only[Int.toNat_natCast] at e;rw[e,show u.at_+(k+1-u.at_)=k+1 by omega])
           clear HE2 d2 d3;have t4:w4.cell? ⟨ub,4,none⟩=some (.slice oA u.order.length oc):=(eB HM.out.1 4 (by omega)).trans (congrArg some HV.out.1);obtain⟨i0,hi0,hz0,hz1,hz2⟩:=info_parts Try.infoIn;have how:=uown HM.out.1;rw[HV.out.1] at how;have HOW:=qd how;have hBw:=Nat.le_trans hB HM.out.2.size;have hBw2:=hBw
           try rw[World.size_setCell] at hBw2
           clear how
           go_wp2_with (at_builtin;refine wpList_append_lies _ rfl _ _ 23 rfl B 3 i0 (.int .i64 0) 1 8 Try.underlying23 hi0 hz0 hz1 hz2 rfl (by decide) (.slice oA u.order.length oc) u.order.length _ rfl (HOW.out.alloc _) ⟨w4.heap.size,0,none⟩ 1 1 [.int .i64 (tn:Int)] rfl rfl (kS _ _ _ (by first | rfl | simp)) (by simp[Value.oneCell']) (by omega) ?c3 ?c4 ?c5 (w4.heap.size+1) (by simp) ?_)
           case c3=>unfold maxLen;omega
           case c4=>omega
           case c5=>first | omega |(rw[World.size_alloc];omega)
           intro gg cap2 w5 hown hgrow hgat hgl
           have hm5:=uapp (y:=(tn:Int)) (Mems.alloc HM.out.1 (.cells #[.int .i64 (tn:Int)] 3)) hown (by rw[HV.out.1];exact hgrow) (by
            rw[HV.out.1]
            rcases hgat with z | z
            ·exact .inl z.symm
            ·right; rw[z];simp[Value.ownBlock])
           have bw5:Below B _ w5:=(HM.out.2.alloc hBw _).grown hgrow (by rw[World.size_alloc];omega) (λk hk=>(HOW.out.lt k hk).1);have t4:=Mems.cell (r:=.ext 0) (j:=4) hm5 rfl (by omega);have z4:=Mems.frozen (r:=.ext 0) hm5 rfl 4;have HM5:=qd (And.intro hm5 bw5);clear hm5 bw5 hown hgrow hgat hgl HOW HM;go_wp2;go_ret;rw[HQ.out];exact⟨rfl,⟨_,ushut HM5.out.1⟩,HM5.out.2.setCell (p:=⟨ub,4,none⟩) hBu _⟩
        ·have d5:decide (t<st.n)=false:=decide_eq_false q2
         have HN:=qd (show ¬TU.may st.n st.ended t from λz=>q2 z.2.1);clear d2 d3;go_wp2;go_roundw
         case rel=>exact⟨k+1,HM.out.1,HM.out.2,HS.out.skip hlt (HTT.out▸HN.out)⟩
         case measure=>rw[HME.out,fC (eB HM.out.1 1 (by omega))];simp;omega
       ·have d4:decide (0<=t)=false:=decide_eq_false q1
        have HN:=qd (show ¬TU.may st.n st.ended t from λz=>q1 z.1);clear d2 d3;go_wp2;go_roundw
        case rel=>exact⟨k+1,HM.out.1,HM.out.2,HS.out.skip hlt (HTT.out▸HN.out)⟩
        case measure=>rw[HME.out,fC (eB HM.out.1 1 (by omega))];simp;omega
      ·have d2:decide ((k:Int)<(u.sched.length:Int))=false:=decide_eq_false (by omega)
       have d3:decide (k<u.sched.length)=false:=decide_eq_false hlt
       have HQ:=qd (show sf=({ u with at_:=k,round:=(TU.next st.n st.ended st.n u.round+1)%st.n,order:=u.order++[(TU.next st.n st.ended st.n u.round:Int)] },some (TU.next st.n st.ended st.n u.round)) from by
        have e:=HE2.out;rw[HS.out.over (by omega)] at e;dsimp only at e;rw[e,show u.at_+(k-u.at_)=k by omega])
       clear HE2 HS;go_wp2;rename_i K0 hK0
       go_quiet (fail)
       replace HM:=qd (show dS B mb tb st V ub vs vo { u with at_:=k } Y _/\Below B _ _ from And.intro (Mems.drewN HM.out.1 nq) (HM.out.2.trans (Below.drewN (Below.refl B _) nq)));generalize World.drewN _ nq=w2 at *;refine hK0 _ _ ?_;clear hK0 K0 t1 t0 d2 d3;go_wp2;obtain⟨i0,hi0,he0⟩:=HL.out;have hn0:0<st.n:=by omega
       have ez:((st.n:Int)==0)=false:=by
        have:(st.n:Int)≠0:=by omega
        simpa using this
       have HST:=qd (show u.round<st.n by omega)
       go_loopw [] (λwx=>∃ r f:Nat,dS B mb tb st V ub vs vo { u with at_:=k,round:=r } Y wx/\Below B w0 wx/\r<st.n/\TU.dist i0 st.n r<f/\TU.next st.n st.ended st.n u.round=TU.next st.n st.ended f r) (λwx=>TU.dist i0 st.n (lB wx ⟨ub,2,none⟩))
       case atStart=>exact⟨u.round,st.n,HM.out.1,HM.out.2,HST.out,TU.dist_lt hi0 HST.out,rfl⟩
       case round =>
        obtain⟨r,f,h,hb,hr,hd,hx⟩:=hrel;have t2:wr.cell? ⟨ub,2,none⟩=some (.int .i64 r):=eB h 2 (by omega);have z2:=qY h 2;obtain⟨g2,c2,hT,hgc2,hcm2⟩:=bS (r:=.T) h (e:=116) (sz:=1) (v:=V .T) (n:=st.n) (f:=λj=>.pointer (some ⟨tb j,0,none⟩)) rfl hn0;have eT:=HT.out.symm.trans hT;cases eT;have cT:=mK h hT hr;have cE:=uended h hr;unfold maxLen at hcm2;have hme:lB wr ⟨ub,2,none⟩=r:=by rw[fC t2];simp
        have HME:=qd hme;have em:Int.tmod ((r:Int)+1) (st.n:Int)=(((r+1)%st.n:Nat):Int):=by rw[Int.tmod_eq_emod_of_nonneg (by omega)];simp
        clear HM;have HM:=qd (And.intro h hb);have HX:=qd (And.intro hd hx);clear h hb hd hx hme hT
        have hm6:dS B mb tb st V ub vs vo { u with at_:=k,round:=(r+1)%st.n } Y (wr.setCell ⟨ub,2,none⟩ (.int .i64 (((r:Int)+1)%(st.n:Int)))):=by
         refine uset HM.out.1 _ 2 _ (λj hj=>?_) rfl rfl
         rcases j with _ | _ | _ | _ | _ | _ | j <;> first | omega | simp[tuF]
        have HM6:=qd (And.intro hm6 (HM.out.2.setCell (p:=⟨ub,2,none⟩) hBu (.int .i64 (((r:Int)+1)%(st.n:Int)))));clear hm6;cases he:st.ended r with
        | true =>
          rw[he] at cE;have HR:=qd he;clear he;go_wp2;go_roundw
          case rel =>
           have hne:r≠i0:=λz=>by rw[z,he0] at HR;cases HR.out
           have hds:=TU.dist_step hi0 hr hne;obtain⟨f',rfl⟩:∃ f',f=f'+1:=⟨f-1,by have:=HX.out.1;omega⟩;exact⟨(r+1)%st.n,f',HM6.out.1,HM6.out.2,Nat.mod_lt _ hn0,by have:=HX.out.1;omega,HX.out.2.trans (if_pos HR.out)⟩
          case measure =>
           have hne:r≠i0:=λz=>by rw[z,he0] at HR;cases HR.out
           have hds:=TU.dist_step hi0 hr hne;rw[HME.out,fC (eB HM6.out.1 2 (by omega))];simp only[Int.toNat_natCast]
           omega
        | false =>
          rw[he] at cE;have HR:=qd he;clear he;have t4:wr.cell? ⟨ub,4,none⟩=some (.slice oA u.order.length oc):=(eB HM.out.1 4 (by omega)).trans (congrArg some HV.out.1);have HQ2:Hid (sf=({ u with at_:=k,round:=(r+1)%st.n,order:=u.order++[(r:Int)] },some r)):=qd (by rw[HQ.out,HX.out.2,TU.next_stop HR.out]);clear HM HQ;have HM:=HM6;clear HM6;obtain⟨i0,hi0,hz0,hz1,hz2⟩:=info_parts Try.infoIn;have how:=uown HM.out.1;rw[HV.out.1] at how;have HOW:=qd how;have hBw:=Nat.le_trans hB HM.out.2.size;have hBw2:=hBw
          try rw[World.size_setCell] at hBw2
          clear how
          go_wp2_with (at_builtin;refine wpList_append_lies _ rfl _ _ 23 rfl B 3 i0 (.int .i64 0) 1 8 Try.underlying23 hi0 hz0 hz1 hz2 rfl (by decide) (.slice oA u.order.length oc) u.order.length _ rfl (HOW.out.alloc _) ⟨wr.heap.size,0,none⟩ 1 1 [.int .i64 (r:Int)] rfl rfl (kS _ _ _ (by first | rfl | simp)) (by simp[Value.oneCell']) (by omega) ?c3 ?c4 ?c5 (wr.heap.size+1) (by simp) ?_)
          case c3=>unfold maxLen;omega
          case c4=>omega
          case c5=>first | omega |(rw[World.size_alloc];omega)
          intro gg cap2 w5 hown hgrow hgat hgl
          have hm5:=uapp (y:=(r:Int)) (Mems.alloc HM.out.1 (.cells #[.int .i64 (r:Int)] 3)) hown (by rw[HV.out.1];exact hgrow) (by
           rw[HV.out.1]
           rcases hgat with z | z
           ·exact .inl z.symm
           ·right; rw[z];simp[Value.ownBlock])
          have bw5:Below B _ w5:=(HM.out.2.alloc hBw _).grown hgrow (by rw[World.size_alloc];omega) (λk hk=>(HOW.out.lt k hk).1);have t4:=Mems.cell (r:=.ext 0) (j:=4) hm5 rfl (by omega);have z4:=Mems.frozen (r:=.ext 0) hm5 rfl 4;have HM5:=qd (And.intro hm5 bw5);clear hm5 bw5 hown hgrow hgat hgl HOW HM;go_wp2;go_ret;rw[HQ2.out];exact⟨rfl,⟨_,ushut HM5.out.1⟩,HM5.out.2.setCell (p:=⟨ub,4,none⟩) hBu _⟩
end
end Go.Proofs.Ytlcplealnbekeaa
namespace Go.Proofs.Ytlcplealnbekeaa
open Go.RowKit Go.Turn
open Go.ConcN (upd upd_ne upd_same)
theorem fZ {w:World}{base:Nat}{e t:TypeId}{sz n b:Nat}{v:Value}{xs:List Value}{cs:Array Value}(h:w.ownsRow base e sz v n xs) (hb:Blk w b t cs) (ht:t≠e):∀ g,v.ownBlock=some g->g≠b:=by
 intro g hg hgb;obtain⟨-,-,c,hc⟩:=own_lt h hg;subst hgb;have e1:=(show w.heap[g]?=_ from hb).symm.trans (show w.heap[g]?=_ from hc);simp only[Option.some.injEq,Obj.cells.injEq] at e1;exact ht e1.2.1
theorem own_keptV {w w':World}{Z:Nat->Prop}{base:Nat}{e:TypeId}{size n:Nat}{v:Value}{xs:List Value}(h:w.ownsRow base e size v n xs) (hk:Kept Z w w') (hz:∀ b,v.ownBlock=some b->¬Z b):w'.ownsRow base e size v n xs:=by
 obtain⟨h1,h2⟩:=h;refine⟨h1,?_⟩
 rcases h2 with h2 | ⟨g,cap,cur,e1,hg,hb,r⟩
 ·exact .inl h2
 ·exact .inr ⟨g,cap,cur,e1,hg,(hk.block g (show Blk w g e cur from hb).lt (hz g (by rw[e1];rfl))).trans hb,r⟩
theorem nV {w1:World}{ub n j:Nat}{v u:Value}{xs:List Value}{cs:Array Value}(hb:Blk w1 ub 120 cs) (hown:w1.ownsRow ub 3 1 v n xs):(w1.setCell ⟨ub,j,none⟩ u).ownsRow ub 3 1 v n xs:=
 own_keptV hown (Kept.setCell (S:=λb=>b=ub) w1 (p:=⟨ub,j,none⟩) rfl u) (λb hb'=>fZ hown hb (by decide) b hb')
theorem nW (w:World) (sA:Option Addr) (sc:Nat) (xs:List Int) (hs:NumsIn w sA sc xs) (hnil:sA=none->sc=0) (hl:xs.length<=17592186044416) (most:Int) :
  Calls Try.prog 26 #[.slice sA xs.length sc,.int .i64 most] w λe w'=>∃ vs,e=.returned (.pointer (some ⟨w.heap.size,0,none⟩))/\Blk w' w.heap.size 120 #[vs,.int .i64 0,.int .i64 0,.int .i64 (bA most 0 1048576),.slice none 0 0,.bool false]/\w'.ownsRow w.heap.size 3 1 vs xs.length (xs.map (Value.int .i64))/\Below w.heap.size w w':=by
 have HS:=qd (And.intro hs hnil);clear hs hnil;obtain⟨i0,hi0,hz0,hz1,hz2⟩:=info_parts Try.infoIn
 go_enter Try.func26,Try.ntmps26
 cases sA with
 | none =>
   have hx:xs.length=0:=by
    rcases Nat.eq_zero_or_pos xs.length with z | z
    ·exact z
    ·obtain ⟨b,o,e,_⟩:=HS.out.1.cells 0 z
     cases e
   have hc:=HS.out.2 rfl;subst hc;have hxs:xs=[]:=List.length_eq_zero_iff.1 hx;subst hxs
   by_cases q1:most<0
   ·have d1:decide (most<0)=true:=decide_eq_true q1
    have HH:=qd (show bA most 0 1048576=0 from if_pos q1);clear q1 hx
    go_wp2_with (at_builtin;refine wpList_append_own_none rfl _ _ 23 rfl w.heap.size 3 i0 1 Try.underlying23 hi0 (.slice none 0 0) 0 [] rfl (World.ownsRow_nil _ _ _ _) rfl ?_)
    go_ret;refine⟨rfl,.slice none 0 0,?_,World.ownsRow_nil _ _ _ _,(Below.refl _ w).alloc (Nat.le_refl _) _⟩;rw[HH.out];exact Blk.new w _ _
   ·have d1:decide (most<0)=false:=decide_eq_false q1
    by_cases q2:1048576<most
    ·have d2:decide (1048576<most)=true:=decide_eq_true q2
     have HH:=qd (show bA most 0 1048576=1048576 from (if_neg q1).trans (if_pos q2));clear q1 q2 hx
     go_wp2_with (at_builtin;refine wpList_append_own_none rfl _ _ 23 rfl w.heap.size 3 i0 1 Try.underlying23 hi0 (.slice none 0 0) 0 [] rfl (World.ownsRow_nil _ _ _ _) rfl ?_)
     go_ret;refine⟨rfl,.slice none 0 0,?_,World.ownsRow_nil _ _ _ _,(Below.refl _ w).alloc (Nat.le_refl _) _⟩;rw[HH.out];exact Blk.new w _ _
    ·have d2:decide (1048576<most)=false:=decide_eq_false q2
     have HH:=qd (show bA most 0 1048576=most from (if_neg q1).trans (if_neg q2));clear q1 q2 hx
     go_wp2_with (at_builtin;refine wpList_append_own_none rfl _ _ 23 rfl w.heap.size 3 i0 1 Try.underlying23 hi0 (.slice none 0 0) 0 [] rfl (World.ownsRow_nil _ _ _ _) rfl ?_)
     go_ret;refine⟨rfl,.slice none 0 0,?_,World.ownsRow_nil _ _ _ _,(Below.refl _ w).alloc (Nat.le_refl _) _⟩;rw[HH.out];exact Blk.new w _ _
 | some ad =>
   by_cases q1:most<0
   ·have d1:decide (most<0)=true:=decide_eq_true q1
    have HH:=qd (show bA most 0 1048576=0 from if_pos q1);clear q1
    go_wp2_with (at_builtin;refine wpList_append_own _ rfl _ _ 23 rfl w.heap.size 3 i0 (.int .i64 0) 1 8 Try.underlying23 hi0 hz0 hz1 hz2 rfl (by decide) (.slice none 0 0) 0 [] rfl (World.ownsRow_nil _ _ _ _) ad xs.length sc (xs.map (Value.int .i64)) rfl (by simp) ?c2 ?c1 ?c3 ?c4 ?c5 ?_)
    case c2 =>
     intro j u hu;obtain⟨hj,e⟩:=List.getElem?_eq_some_iff.1 hu;have hj':j<xs.length:=by simpa using hj
     obtain⟨b,o,e2,e3⟩:=HS.out.1.cells j hj';cases e2;have e4:=cY e3 (Kept.alloc (S:=λ_=>False) w (.cells #[.slice none 0 0,.int .i64 0,.int .i64 0,.int .i64 most,.slice none 0 0,.bool false] 120)) id;rw[show (⟨b,o,none⟩:Addr).add j=⟨b,o+j,none⟩ from by unfold Addr.add;split <;> simp_all];rw[e4,<-e]
     simp[List.getD_eq_getElem?_getD,List.getElem?_eq_getElem hj']
    case c1=>intro u hu;simp only[List.mem_map] at hu;obtain⟨_,_,rfl⟩:=hu;rfl
    case c3=>unfold maxLen;omega
    case c4=>omega
    case c5=>rw[World.size_alloc];omega
    intro v' w1 hown hgrow hgl;obtain⟨A1,c1,rfl⟩:=aQ hown;have hb:Blk w1 w.heap.size 120 #[.slice none 0 0,.int .i64 0,.int .i64 0,.int .i64 most,.slice none 0 0,.bool false]:=(Blk.new w _ _).grown hgrow (by simp[Value.ownBlock]);have bw:Below w.heap.size w w1:=((Below.refl _ w).alloc (Nat.le_refl _) _).grown hgrow (by rw[World.size_alloc];omega) (λk hk=>by cases hk);clear hgl;have c0:w1.cell? ⟨w.heap.size,0,none⟩=some (.slice none 0 0):=hb.cell 0;have c3:w1.cell? ⟨w.heap.size,3,none⟩=some (.int .i64 most):=hb.cell 3;have z0:=hb.frozen 0;have z3:=hb.frozen 3;have HB:=qd (And.intro hb (And.intro bw hown));clear hb bw hown hgrow
    try rw[Nat.zero_add]
    generalize hub:w.heap.size=ub at *;have HU:=qd hub;clear hub;go_wp2;go_ret;obtain⟨hb,bw,hown⟩:=HB.out;have hb2:=hb.set_ 0 (.slice A1 xs.length c1);have bw2:=bw.setCell (p:=⟨ub,0,none⟩) (Nat.le_refl _) (.slice A1 xs.length c1);have hown2:=nV (j:=0) (u:=.slice A1 xs.length c1) hb hown;rw[HH.out,HU.out]
    (exact⟨_,rfl,hb2.set_ 3 (.int .i64 0),nV hb2 hown2,bw2.setCell (p:=⟨ub,3,none⟩) (Nat.le_refl _) _⟩)
   ·have d1:decide (most<0)=false:=decide_eq_false q1
    by_cases q2:1048576<most
    ·have d2:decide (1048576<most)=true:=decide_eq_true q2
     have HH:=qd (show bA most 0 1048576=1048576 from (if_neg q1).trans (if_pos q2));clear q1 q2
     go_wp2_with (at_builtin;refine wpList_append_own _ rfl _ _ 23 rfl w.heap.size 3 i0 (.int .i64 0) 1 8 Try.underlying23 hi0 hz0 hz1 hz2 rfl (by decide) (.slice none 0 0) 0 [] rfl (World.ownsRow_nil _ _ _ _) ad xs.length sc (xs.map (Value.int .i64)) rfl (by simp) ?c2 ?c1 ?c3 ?c4 ?c5 ?_)
     case c2 =>
      intro j u hu;obtain⟨hj,e⟩:=List.getElem?_eq_some_iff.1 hu;have hj':j<xs.length:=by simpa using hj
      obtain⟨b,o,e2,e3⟩:=HS.out.1.cells j hj';cases e2;have e4:=cY e3 (Kept.alloc (S:=λ_=>False) w (.cells #[.slice none 0 0,.int .i64 0,.int .i64 0,.int .i64 most,.slice none 0 0,.bool false] 120)) id;rw[show (⟨b,o,none⟩:Addr).add j=⟨b,o+j,none⟩ from by unfold Addr.add;split <;> simp_all];rw[e4,<-e]
      simp[List.getD_eq_getElem?_getD,List.getElem?_eq_getElem hj']
     case c1=>intro u hu;simp only[List.mem_map] at hu;obtain⟨_,_,rfl⟩:=hu;rfl
     case c3=>unfold maxLen;omega
     case c4=>omega
     case c5=>rw[World.size_alloc];omega
     intro v' w1 hown hgrow hgl;obtain⟨A1,c1,rfl⟩:=aQ hown;have hb:Blk w1 w.heap.size 120 #[.slice none 0 0,.int .i64 0,.int .i64 0,.int .i64 most,.slice none 0 0,.bool false]:=(Blk.new w _ _).grown hgrow (by simp[Value.ownBlock]);have bw:Below w.heap.size w w1:=((Below.refl _ w).alloc (Nat.le_refl _) _).grown hgrow (by rw[World.size_alloc];omega) (λk hk=>by cases hk);clear hgl;have c0:w1.cell? ⟨w.heap.size,0,none⟩=some (.slice none 0 0):=hb.cell 0;have c3:w1.cell? ⟨w.heap.size,3,none⟩=some (.int .i64 most):=hb.cell 3;have z0:=hb.frozen 0;have z3:=hb.frozen 3;have HB:=qd (And.intro hb (And.intro bw hown));clear hb bw hown hgrow
     try rw[Nat.zero_add]
     generalize hub:w.heap.size=ub at *;have HU:=qd hub;clear hub;go_wp2;go_ret;obtain⟨hb,bw,hown⟩:=HB.out;have hb2:=hb.set_ 0 (.slice A1 xs.length c1);have bw2:=bw.setCell (p:=⟨ub,0,none⟩) (Nat.le_refl _) (.slice A1 xs.length c1);have hown2:=nV (j:=0) (u:=.slice A1 xs.length c1) hb hown;rw[HH.out,HU.out]
     (exact⟨_,rfl,hb2.set_ 3 (.int .i64 1048576),nV hb2 hown2,bw2.setCell (p:=⟨ub,3,none⟩) (Nat.le_refl _) _⟩)
    ·have d2:decide (1048576<most)=false:=decide_eq_false q2
     have HH:=qd (show bA most 0 1048576=most from (if_neg q1).trans (if_neg q2));clear q1 q2
     go_wp2_with (at_builtin;refine wpList_append_own _ rfl _ _ 23 rfl w.heap.size 3 i0 (.int .i64 0) 1 8 Try.underlying23 hi0 hz0 hz1 hz2 rfl (by decide) (.slice none 0 0) 0 [] rfl (World.ownsRow_nil _ _ _ _) ad xs.length sc (xs.map (Value.int .i64)) rfl (by simp) ?c2 ?c1 ?c3 ?c4 ?c5 ?_)
     case c2 =>
      intro j u hu;obtain⟨hj,e⟩:=List.getElem?_eq_some_iff.1 hu;have hj':j<xs.length:=by simpa using hj
      obtain⟨b,o,e2,e3⟩:=HS.out.1.cells j hj';cases e2;have e4:=cY e3 (Kept.alloc (S:=λ_=>False) w (.cells #[.slice none 0 0,.int .i64 0,.int .i64 0,.int .i64 most,.slice none 0 0,.bool false] 120)) id;rw[show (⟨b,o,none⟩:Addr).add j=⟨b,o+j,none⟩ from by unfold Addr.add;split <;> simp_all];rw[e4,<-e]
      simp[List.getD_eq_getElem?_getD,List.getElem?_eq_getElem hj']
     case c1=>intro u hu;simp only[List.mem_map] at hu;obtain⟨_,_,rfl⟩:=hu;rfl
     case c3=>unfold maxLen;omega
     case c4=>omega
     case c5=>rw[World.size_alloc];omega
     intro v' w1 hown hgrow hgl;obtain⟨A1,c1,rfl⟩:=aQ hown;have hb:Blk w1 w.heap.size 120 #[.slice none 0 0,.int .i64 0,.int .i64 0,.int .i64 most,.slice none 0 0,.bool false]:=(Blk.new w _ _).grown hgrow (by simp[Value.ownBlock]);have bw:Below w.heap.size w w1:=((Below.refl _ w).alloc (Nat.le_refl _) _).grown hgrow (by rw[World.size_alloc];omega) (λk hk=>by cases hk);clear hgl;have c0:w1.cell? ⟨w.heap.size,0,none⟩=some (.slice none 0 0):=hb.cell 0;have c3:w1.cell? ⟨w.heap.size,3,none⟩=some (.int .i64 most):=hb.cell 3;have z0:=hb.frozen 0;have z3:=hb.frozen 3;have HB:=qd (And.intro hb (And.intro bw hown));clear hb bw hown hgrow
     try rw[Nat.zero_add]
     generalize hub:w.heap.size=ub at *;have HU:=qd hub;clear hub;go_wp2;go_ret;obtain⟨hb,bw,hown⟩:=HB.out;have hb2:=hb.set_ 0 (.slice A1 xs.length c1);have bw2:=bw.setCell (p:=⟨ub,0,none⟩) (Nat.le_refl _) (.slice A1 xs.length c1);have hown2:=nV (j:=0) (u:=.slice A1 xs.length c1) hb hown;rw[HH.out,HU.out]
     (exact⟨_,rfl,hb2,hown2,bw2⟩)
end Go.Proofs.Ytlcplealnbekeaa
namespace Go.Proofs.Ytlcplealnbekeaa
open Go.RowKit Go.Turn
open Go.ConcN (upd upd_ne upd_same)
theorem Try.infoOp:(Try.prog.info? 46).map (λi=>(i.zero,i.size,i.bytes))=some (some (.agg #[.int .i64 0,.int .i64 0,.int .i64 0,.int .i64 0]),4,32):=by kernel_rfl
theorem Try.infoThp:(Try.prog.info? 116).map (λi=>(i.zero,i.size,i.bytes))=some (some (.pointer none),1,8):=by kernel_rfl
theorem nD (w0:World) (tA:Option Addr) (nt cp Tb To:Nat) (htA:0<nt->tA=some ⟨Tb,To,none⟩) (hnt:nt<=maxLen) (A:Nat->Option Addr) (len cap:Nat->Nat) (ops:Nat->List OpI) (hin:OpsH w0 (min nt 64) Tb To A len cap ops) :
  Calls Try.prog 24 #[.slice tA nt cp] w0 λe w'=>∃ tb VT VO,e=.returned VT/\Mems w0.heap.size (cR (min nt 64) (min nt 64) tb VT VO ops) w'/\Below w0.heap.size w0 w':=by
 unfold maxLen at hnt;have HI:=qd hin;have HA:=qd htA;clear hin htA;obtain⟨n,hn⟩:∃ n,n=min nt 64:=⟨_,rfl⟩;rw[<-hn] at HI ⊢;have hn64:n<=64:=by omega
 have hnn:n<=nt:=by omega
 have HN:=qd hn;clear hn;generalize hwz:w0.heap.size=wz;have HWZ:=qd hwz;clear hwz
 go_enter Try.func24,Try.ntmps24
 go_wp2
 go_loopw [3,4] (λout i wr=>∃ (k:Nat) (tb:Nat->Nat) (VT:Value) (VO:Nat->Value),k<=n/\out=VT/\i=.int .i64 k/\(Mems wz (cR k k tb VT VO ops) wr/\Below wz w0 wr)) (λ_ i _=>n-(intOf i).toNat)
 case atStart=>exact⟨0,λ_=>0,.slice none 0 0,λ_=>nilS,Nat.zero_le _,rfl,rfl,⟨λ_=>none,λr d hr=>by
  cases r with
  | T=>cases hr;exact⟨⟨by simp[aK],.inl ⟨rfl,rfl⟩⟩,λb hb=>by cases hb⟩
  | th i=>simp[cR] at hr
  | op i=>simp[cR] at hr
  | _=>cases hr⟩,Below.refl _ _⟩
 case round =>
  obtain⟨k,tb,VT,VO,hk,rfl,rfl,h⟩:=hrel;have HM:=qd h;clear h
  by_cases hlt:k<n
  ·have d1:decide (k<nt)=true:=decide_eq_true (by omega)
   have d2:decide ((k:Int)<64)=true:=decide_eq_true (by omega);have tA':=HA.out (by omega);subst tA';go_wp2;have hBw:wz<=wr.heap.size:=Nat.le_trans (Nat.le_of_eq HWZ.out.symm) HM.out.2.size;have hm1:=th_new HM.out.1 hBw;have hb1:=HM.out.2.alloc hBw (.cells #[nilS,.int .i64 0,.int .i64 0,.int .i64 0,.int .i64 0,.int .i64 0,.int .i64 0,.int .i64 0,.int .i64 0,.int .i64 0,.int .i64 0,nilS,nilS,.bool false] 115);obtain⟨tb1,htb⟩:∃ tb1:Nat->Nat,tb1=λi=>if i=k then wr.heap.size else tb i:=⟨_,rfl⟩;obtain⟨VO1,hVO⟩:∃ VO1:Nat->Value,VO1=λi=>if i=k then nilS else VO i:=⟨_,rfl⟩;rw[<-htb,<-hVO] at hm1;have hbk:tb1 k=wr.heap.size:=by rw[htb];simp
   have HM1:=qd (And.intro hm1 hb1);clear hm1 hb1 htb hVO HM;unfold nilS at HM1;generalize World.alloc wr _=w1 at *;rw[<-hbk];clear hbk hBw;have hlen:=HI.out.olen k hlt;have hle:=HI.out.le k hlt;have hmx:=HI.out.max k hlt;unfold maxLen at hmx;obtain⟨m,hm⟩:∃ m,m=(ops k).length:=⟨_,rfl⟩;rw[<-hm] at hlen;have HMM:=qd hm;clear hm
   go_loopw [6] (λi wx=>∃ (j:Nat) (VO1:Nat->Value),j<=m/\i=.int .i64 j/\(Mems wz (cR k (k+1) tb1 u3 VO1 (fF ops k j)) wx/\Below wz w0 wx)) (λi _=>m-(intOf i).toNat)
   case atStart=>exact⟨0,VO1,Nat.zero_le _,rfl,HM1.out⟩
   case round =>
    clear HM1;obtain⟨j,VO1,hj,rfl,h⟩:=hrel;have HM:=qd h;clear h;have hk1:k<k+1:=Nat.lt_succ_self k;have r0:wr.cell? ⟨Tb,To+k,none⟩=some (.slice (A k) (len k) (cap k)):=(World.cell?_of_block (a:=⟨Tb,To+k,none⟩) (HM.out.2.block Tb (by rw[<-HWZ.out];exact bG (HI.out.row k hlt)))).trans (HI.out.row k hlt)
    by_cases hjl:j<m
    ·have hkt:k<nt:=by omega
     have hjk:j<len k:=by omega
     have d3:decide (j<len k)=true:=decide_eq_true (by omega);have d4:decide ((j:Int)<65536)=true:=decide_eq_true (by omega);obtain⟨o,ho⟩:∃ o,(ops k)[j]?=some o:=⟨_,List.getElem?_eq_getElem (by have:=HMM.out;omega)⟩;obtain⟨ob,oo,hAk,c0,c1,c2,c3⟩:=HI.out.op k hlt j o ho;have HOb:=qd (bG c0);rw[hAk] at r0;have hjo:(fF ops k j k).length=j:=by simp[fF];have:=HMM.out;omega
     obtain⟨lA,lc,hVk⟩:=cB HM.out.1 (r:=.op k) (thOp hk1);rw[hjo] at hVk;have t0:wr.cell? ⟨tb1 k,0,none⟩=some (.slice lA j lc):=(HM.out.1.cell (thTh hk1) (j:=0) (by omega)).trans (congrArg some hVk);have ck:∀ (x:Nat) (v:Value),w0.cell? ⟨ob,x,none⟩=some v->wr.cell? ⟨ob,x,none⟩=some v:=λx v h=>(World.cell?_of_block (a:=⟨ob,x,none⟩) (HM.out.2.block ob (by rw[<-HWZ.out];exact HOb.out))).trans h;have HT:=qd (And.intro t0 (And.intro r0 (And.intro (ck _ _ c0) (And.intro (ck _ _ c1) (And.intro (ck _ _ c2) (ck _ _ c3))))));have hrow:=HM.out.1.at_ (thOp (k:=k) (tb:=tb1) (VT:=u3) (VO:=VO1) (ops:=fF ops k j) hk1);unfold Row.At at hrow;simp only[hVk,hjo] at hrow;have hnb:∀ b,(Value.slice lA j lc).ownBlock=some b->wz<=b:=λb hb=>(hrow.lt b hb).1
     have hHN:(¬(Value.slice lA j lc).ownBlock=some (tb1 k))/\(¬(Value.slice lA j lc).ownBlock=some Tb)/\¬(Value.slice lA j lc).ownBlock=some ob:=by
      refine⟨λz=>cD HM.out.1 (thTh (k:=k) (tb:=tb1) (VT:=u3) (VO:=VO1) (ops:=fF ops k j) hk1) (thOp (k:=k) (tb:=tb1) (VT:=u3) (VO:=VO1) (ops:=fF ops k j) hk1) (by simp) (b:=tb1 k) rfl (by rw[hVk];exact z),λz=>?_,λz=>?_⟩
      ·have:=hnb _ z;have:=bG (HI.out.row k hlt);have:=HWZ.out;omega
      ·have:=hnb _ z;have:=HOb.out;have:=HWZ.out;omega
     have HN2:=qd hHN;have HVK:=qd hVk;have HOW:=qd hrow;have HO:=qd ho;clear hHN hVk hrow ho hnb ck c0 c1 c2 c3 hAk hjo t0;go_wp2;rename_i K0 hK0;refine bV (S:=Kept (λb=>(Value.slice lA j lc).ownBlock=some b) wr) 16 (by kernel_rfl) (by kernel_rfl) (by kernel_rfl) ?_;simp only[idle,zB,Nat.reduceAdd];have HS:=qd (Kept.drewN (λb=>(Value.slice lA j lc).ownBlock=some b) wr 1)
     iterate 12
      with_reducible first | refine rdL 0 16 32 ?_ | refine rdL 1 15 33 ?_ | refine rdL 2 14 34 ?_ | refine rdL 3 13 35 ?_ | refine rdL 4 12 36 ?_ | refine rdL 5 11 37 ?_ | refine rdL 6 10 38 ?_ | refine rdL 7 9 39 ?_ | refine rdL 8 8 40 ?_ | refine rdL 9 7 41 ?_ | refine rdL 10 6 42 ?_ | refine rdL 11 5 43 ?_
      refine⟨_,rfl,rfl,by kernel_rfl,by kernel_rfl,by kernel_rfl,(λc a w h=>h),rfl,HS.out,?_⟩;apply Exists.intro;refine⟨λwq hw=>?_,?_⟩
      ·have q0:=cY HT.out.1 hw HN2.out.1
       have q1:=cY HT.out.2.1 hw HN2.out.2.1;have q2:=cY HT.out.2.2.1 hw HN2.out.2.2;have q3:=cY HT.out.2.2.2.1 hw HN2.out.2.2;have q4:=cY HT.out.2.2.2.2.1 hw HN2.out.2.2;have q5:=cY HT.out.2.2.2.2.2 hw HN2.out.2.2;go_simp
       rfl
      simp only[Act.put,zA]
     have hkd:=HS.out;have hmd:=HM.out.1.drewN 1;have bwd:=HM.out.2.trans (Below.drewN (Below.refl wz wr) 1);have hBd:wz<=(wr.drewN 1).heap.size:=Nat.le_trans (Nat.le_of_eq HWZ.out.symm) HM.out.2.size;have how2:wr.drew.ownsRow wz 46 4 (.slice lA j lc) j (aK (j*4) (cJ 4 (oqF (fF ops k j k)))):=HOW.out.drew;clear HS HT HOW;change Kept _ wr wr.drew at hkd;change Mems wz _ wr.drew at hmd;change Below wz w0 wr.drew at bwd;change wz<=wr.drew.heap.size at hBd;generalize World.drew wr=wd at *;refine cW (i:=12) (fuel:=4) (by kernel_rfl) rfl rfl λK' hK'=>?_;unfold Oper.wp;go_simp;have hk6:=hkd.trans (Kept.alloc (S:=λb=>(Value.slice lA j lc).ownBlock=some b) wd (.cells #[.int .i64 o.kind,.int .i64 o.a,.int .i64 o.b,.int .i64 o.c] 46));refine hK' _ _ hk6 ?_;clear hK' K'
     try simp only[Act.put,zA]
     obtain⟨i0,hi0,hz0,hz1,hz2⟩:=info_parts Try.infoOp;refine cW (i:=13) (fuel:=3) (by kernel_rfl) rfl rfl λK' hK'=>?_;refine wp_append_lies (P:=Try.prog) (wd.alloc (.cells #[.int .i64 o.kind,.int .i64 o.a,.int .i64 o.b,.int .i64 o.c] 46)) (.tmp 36) (.tmp 44) 44 rfl wz 46 i0 _ 4 32 Try.underlying44 hi0 hz0 hz1 hz2 rfl (by decide) (.slice lA j lc) j _ rfl (how2.alloc _) ⟨wd.heap.size,0,none⟩ 1 1 [.int .i64 o.kind,.int .i64 o.a,.int .i64 o.b,.int .i64 o.c] rfl rfl (World.news_of_block (cs:=#[.int .i64 o.kind,.int .i64 o.a,.int .i64 o.b,.int .i64 o.c]) (t:=46) (fr:=(0,0)) (Blk.new wd 46 #[.int .i64 o.kind,.int .i64 o.a,.int .i64 o.b,.int .i64 o.c])) (by simp[Value.oneCell']) (by omega) (by unfold maxLen;omega) (by omega) (by simp;omega) (wd.heap.size+1) (by simp) ?_;intro gg cap2 w3 hown hgrow hgat hgl;have hopk:fF ops k j k=(ops k).take j:=if_pos rfl;rw[hopk] at hown
     have hm3:=th_app (Mems.alloc hmd (.cells #[.int .i64 o.kind,.int .i64 o.a,.int .i64 o.b,.int .i64 o.c] 46)) (by have:=HMM.out;omega) HO.out hown (by rw[HVK.out];exact hgrow) (by
      rw[HVK.out]
      rcases hgat with z | z
      ·exact .inl z.symm
      ·right; rw[z];simp[Value.ownBlock])
     have hkw:=hk6.trans (Kept.grown (S:=λb=>(Value.slice lA j lc).ownBlock=some b) hgrow (λk hk=>hk));have bw3:Below wz w0 w3:=(bwd.alloc hBd _).grown hgrow (by simp;omega) (λk hk=>(how2.lt k hk).1);have t0:w3.cell? ⟨tb1 k,0,none⟩=some (.slice lA j lc):=(Mems.cell hm3 (r:=.th k) ((if_neg (by simp)).trans (thTh hk1)) (j:=0) (by omega)).trans (congrArg some HVK.out);have z0:w3.frozen? ⟨tb1 k,0,none⟩=false:=Mems.frozen hm3 (r:=.th k) ((if_neg (by simp)).trans (thTh hk1)) 0;have hBk:wz<=tb1 k:=(Mems.lt hm3 (r:=.th k) ((if_neg (by simp)).trans (thTh hk1)) rfl).1;refine hK' _ _ hkw ?_;clear hK' K' hown hgrow hgat hgl hk6 how2 hmd bwd hkd hBd hopk;have HKW:=qd hkw;have HM2:=qd (And.intro hm3 bw3);have HBK:=qd hBk;clear hkw hm3 bw3 hBk HM
     try simp only[Act.put,zA,List.getElem_toArray,List.getElem_cons_zero,List.getElem_cons_succ]
     refine cW (i:=14) (fuel:=2) (by kernel_rfl) rfl rfl λK' hK'=>?_;unfold Oper.wp;go_simp;refine hK' _ _ HKW.out ?_;clear hK' K'
     try simp only[Act.put,zA]
     refine cW (i:=15) (fuel:=1) (by kernel_rfl) rfl rfl λK' hK'=>?_;unfold Oper.wp;go_simp;refine hK' _ _ HKW.out ?_;clear hK' K'
     try simp only[Act.put,zA]
     refine cW (i:=16) (fuel:=0) (by kernel_rfl) rfl rfl λK' hK'=>?_;unfold Oper.wp;go_simp;refine hK' _ _ HKW.out ?_;clear hK' K'
     try simp only[Act.put,zA]
     clear HKW;refine wpAnyH_done (by kernel_rfl) ?_ _;simp only[Exit.then];refine aX (m:=16) rfl ?_;go_wp2;clear t0 z0;have hm4:=th_shut (by have:=HMM.out;omega) HM2.out.1;have bw4:=HM2.out.2.setCell (p:=⟨tb1 k,0,none⟩) HBK.out (.slice (some ⟨gg,0,none⟩) (j+1) cap2);have HM:=qd (And.intro hm4 bw4);clear hm4 bw4 HM2;generalize w3.setCell ⟨tb1 k,0,none⟩ (.slice (some ⟨gg,0,none⟩) (j+1) cap2)=w4 at *;go_wp2;go_roundw
     case rel=>exact⟨j+1,_,by omega,by go_num,HM.out⟩
     case measure=>simp[intOf];omega
    ·have hkt:k<nt:=by omega
     have hjm:(ops k).length<=j:=by have:=HMM.out;omega
     obtain⟨TA,tc,hTk⟩:=cB HM.out.1 (r:=.T) (thT _ _ _ _ _ _);have hrow:=HM.out.1.at_ (thT k (k+1) tb1 u3 VO1 (fF ops k j));unfold Row.At at hrow;simp only[Nat.mul_one,hTk] at hrow;have HOW:=qd hrow;have HTK:=qd hTk;have HJM:=qd hjm;have hBw:wz<=wr.heap.size:=Nat.le_trans (Nat.le_of_eq HWZ.out.symm) HM.out.2.size;clear hrow hjm;obtain⟨i0,hi0,hz0,hz1,hz2⟩:=info_parts Try.infoThp;subst hTk
     by_cases c:65536<len k
     ·have hjk:j<len k:=by omega
      have d3:decide (j<len k)=true:=decide_eq_true (by omega);have d4:decide ((j:Int)<65536)=false:=decide_eq_false (by omega);clear c hlen hmx hle hj hjl
      go_wp2_with (at_builtin;refine wpList_append_lies _ rfl _ _ 72 rfl wz 116 i0 (.pointer none) 1 8 Try.underlying72 hi0 hz0 hz1 hz2 rfl (by decide) (.slice TA k tc) k _ rfl (HOW.out.alloc _) ⟨wr.heap.size,0,none⟩ 1 1 [.pointer (some ⟨tb1 k,0,none⟩)] rfl rfl (kS _ _ _ (by first | rfl | simp)) (by simp[Value.oneCell']) (by omega) ?c3 ?c4 ?c5 (wr.heap.size+1) (by simp) ?_)
      case c3=>unfold maxLen;omega
      case c4=>omega
      case c5=>first | omega |(rw[World.size_alloc];omega)
      intro gg cap2 w5 hown hgrow hgat hgl
      have hm5:=th_list HJM.out (Mems.alloc HM.out.1 (.cells #[.pointer (some ⟨tb1 k,0,none⟩)] 116)) hown hgrow (by
       rcases hgat with z | z
       ·exact .inl z.symm
       ·right; rw[z];simp[Value.ownBlock])
      have bw5:Below wz w0 w5:=(HM.out.2.alloc hBw _).grown hgrow (by first | omega |(rw[World.size_alloc];omega)) (λk hk=>(HOW.out.lt k hk).1);have HM5:=qd (And.intro hm5 bw5);clear hm5 bw5 hown hgrow hgat hgl HOW HM;go_wp2;go_roundw
      case rel=>exact⟨k+1,tb1,_,VO1,by omega,rfl,by go_num,HM5.out⟩
      case measure=>simp[intOf];omega
     ·have d3:decide (j<len k)=false:=decide_eq_false (by omega)
      clear c hlen hmx hle hj hjl
      go_wp2_with (at_builtin;refine wpList_append_lies _ rfl _ _ 72 rfl wz 116 i0 (.pointer none) 1 8 Try.underlying72 hi0 hz0 hz1 hz2 rfl (by decide) (.slice TA k tc) k _ rfl (HOW.out.alloc _) ⟨wr.heap.size,0,none⟩ 1 1 [.pointer (some ⟨tb1 k,0,none⟩)] rfl rfl (kS _ _ _ (by first | rfl | simp)) (by simp[Value.oneCell']) (by omega) ?c3 ?c4 ?c5 (wr.heap.size+1) (by simp) ?_)
      case c3=>unfold maxLen;omega
      case c4=>omega
      case c5=>first | omega |(rw[World.size_alloc];omega)
      intro gg cap2 w5 hown hgrow hgat hgl
      have hm5:=th_list HJM.out (Mems.alloc HM.out.1 (.cells #[.pointer (some ⟨tb1 k,0,none⟩)] 116)) hown hgrow (by
       rcases hgat with z | z
       ·exact .inl z.symm
       ·right; rw[z];simp[Value.ownBlock])
      have bw5:Below wz w0 w5:=(HM.out.2.alloc hBw _).grown hgrow (by first | omega |(rw[World.size_alloc];omega)) (λk hk=>(HOW.out.lt k hk).1);have HM5:=qd (And.intro hm5 bw5);clear hm5 bw5 hown hgrow hgat hgl HOW HM;go_wp2;go_roundw
      case rel=>exact⟨k+1,tb1,_,VO1,by omega,rfl,by go_num,HM5.out⟩
      case measure=>simp[intOf];omega
  ·by_cases c:64<nt
   ·have hk64:k=64:=by have:=HN.out;omega
    have d1:decide (k<nt)=true:=decide_eq_true (by omega);have d2:decide ((k:Int)<64)=false:=decide_eq_false (by omega);have HK:=qd (show k=n by omega);clear hk64 c hlt hk;go_wp2;go_ret;exact⟨tb,u3,VO,rfl,HK.out▸HM.out.1,HM.out.2⟩
   ·have d1:decide (k<nt)=false:=decide_eq_false (by have:=HN.out;omega)
    have HK:=qd (show k=n by omega);clear c hlt hk;go_wp2;go_ret;exact⟨tb,u3,VO,rfl,HK.out▸HM.out.1,HM.out.2⟩
end Go.Proofs.Ytlcplealnbekeaa
namespace Go.Proofs.Ytlcplealnbekeaa
open Go.RowKit Go.Turn
open Go.ConcN (upd upd_ne upd_same)
theorem Try.infoAl:(Try.prog.info? 43).map (λi=>(i.zero,i.size,i.bytes))=some (some (.slice none 0 0),1,24):=by kernel_rfl
structure TrIn (w:World) (ub:Nat) (vo:Value) (stk:Bool) (n:Nat) (TA:Option Addr) (tb:Nat->Nat) (va:Nat->Value):Prop where
 o:w.cell? ⟨ub,4,none⟩=some vo
 s:w.cell? ⟨ub,5,none⟩=some (.bool stk)
 t:∀ i,i<n->∃ g,TA=some ⟨g,0,none⟩/\w.cell? ⟨g,i,none⟩=some (.pointer (some ⟨tb i,0,none⟩))
 a:∀ i,i<n->w.cell? ⟨tb i,12,none⟩=some (va i)/\∃ A l c,va i=.slice A l c
structure TrS (wz:Nat) (w0:World) (b6 b7:Nat) (oA:Option Addr) (ol oc:Nat) (sA:Option Addr) (sl sc:Nat) (stk:Bool) (va:Nat->Value) (k:Nat) (v:Value) (w:World):Prop where
 b6_:Blk w b6 31 #[.slice none 0 0,.slice none 0 0,.slice none 0 0,.bool false]
 b7_:Blk w b7 31 #[v,.slice oA ol oc,.slice sA sl sc,.bool stk]
 own:w.ownsRow wz 43 1 v k (aK k va)
 bw:Below wz w0 w
theorem _root_.Go.Proofs.Ytlcplealnbekeaa.Blk.set_far {w:World}{b b':Nat}{t:TypeId}{cs:Array Value}(h:Blk w b t cs) (hb:b≠b') (i:Nat) (u:Value):Blk (w.setCell ⟨b',i,none⟩ u) b t cs:=(Below.heap_setCell _ _ _ _ hb).trans h
theorem nC (w0:World) (ub:Nat) (oA:Option Addr) (ol oc:Nat) (stk:Bool) (n:Nat) (TA:Option Addr) (tc:Nat) (tb:Nat->Nat) (va:Nat->Value) (sA:Option Addr) (sl sc:Nat) (hn:n<=64) (hin:TrIn w0 ub (.slice oA ol oc) stk n TA tb va) :
  Calls Try.prog 28 #[.pointer (some ⟨ub,0,none⟩),.slice TA n tc,.slice sA sl sc] w0 λe w'=>∃ va',e=.returned (.agg #[va',.slice oA ol oc,.slice sA sl sc,.bool stk])/\w'.ownsRow w0.heap.size 43 1 va' n (aK n va)/\Below w0.heap.size w0 w':=by
 have c4:=hin.o;have c5:=hin.s;have HI:=qd hin;clear hin;generalize hwz:w0.heap.size=wz;have HWZ:=qd hwz;clear hwz
 go_enter Try.func28,Try.ntmps28
 go_wp2;have hb6:=Blk.new w0 31 #[.slice none 0 0,.slice none 0 0,.slice none 0 0,.bool false];have bw1:Below wz w0 (w0.alloc (.cells #[.slice none 0 0,.slice none 0 0,.slice none 0 0,.bool false] 31)):=(Below.refl _ w0).alloc (Nat.le_of_eq HWZ.out.symm) _;obtain⟨b6,h6⟩:∃ b6,b6=w0.heap.size:=⟨_,rfl⟩;rw[<-h6] at hb6 ⊢;have H6:=qd (h6.trans HWZ.out);clear h6;generalize World.alloc w0 _=w1 at *;have kc:∀ (b x:Nat) (v:Value),w0.cell? ⟨b,x,none⟩=some v->w1.cell? ⟨b,x,none⟩=some v:=λb x v h=>(World.cell?_of_block (a:=⟨b,x,none⟩) (bw1.block b (by rw[<-HWZ.out];exact bG h))).trans h;have HT0:=qd (kc _ _ _ c4);have HT1:=qd (kc _ _ _ c5);have HB6:=qd hb6;have HBW:=qd bw1;clear kc c4 c5 hb6 bw1;rename_i K0 hK0;refine bV (S:=Kept (λ_=>False) w1) 11 (by kernel_rfl) (by kernel_rfl) (by kernel_rfl) ?_;simp only[idle,zB,Nat.reduceAdd];have HS:=qd (Kept.drewN (λ_=>False) w1 1)
 iterate 10
  with_reducible first | refine rdL 0 11 9 ?_ | refine rdL 1 10 10 ?_ | refine rdL 2 9 11 ?_ | refine rdL 3 8 12 ?_ | refine rdL 4 7 13 ?_ | refine rdL 5 6 14 ?_ | refine rdL 6 5 15 ?_ | refine rdL 7 4 16 ?_ | refine rdL 8 3 17 ?_ | refine rdL 9 2 18 ?_
  refine⟨_,rfl,rfl,by kernel_rfl,by kernel_rfl,by kernel_rfl,(λc a w h=>h),rfl,HS.out,?_⟩;apply Exists.intro;refine⟨λwq hw=>?_,?_⟩
  ·have q0:=cY HT0.out hw id
   have q1:=cY HT1.out hw id;go_simp
   rfl
  simp only[Act.put,zA]
 have hkd:=HS.out;have hb6:Blk w1.drew b6 31 #[.slice none 0 0,.slice none 0 0,.slice none 0 0,.bool false]:=HB6.out;have bwd:=HBW.out.trans (Below.drewN (Below.refl wz w1) 1);change Below wz w0 w1.drew at bwd;change Kept _ w1 w1.drew at hkd;clear HS HT0 HT1 HB6 HBW;generalize World.drew w1=wd at *;refine cW (i:=10) (fuel:=1) (by kernel_rfl) rfl rfl λK' hK'=>?_;unfold Oper.wp;go_simp;have hk6:=hkd.trans (Kept.alloc (S:=λ_=>False) wd (.cells #[.slice none 0 0,.slice none 0 0,.slice none 0 0,.bool false] 31));refine hK' _ _ hk6 ?_;clear hK' K'
 try simp only[Act.put,zA]
 have HKW:=qd hk6;refine cW (i:=11) (fuel:=0) (by kernel_rfl) rfl rfl λK' hK'=>?_;unfold Oper.wp;go_simp;refine hK' _ _ HKW.out ?_;clear hK' K' HKW hk6 hkd
 try simp only[Act.put,zA]
 refine wpAnyH_done (by kernel_rfl) ?_ _;simp only[Exit.then];refine aX (m:=11) rfl ?_;have hb7:=Blk.new wd 31 #[.slice none 0 0,.slice none 0 0,.slice none 0 0,.bool false];have hb6:=hb6.alloc (.cells #[.slice none 0 0,.slice none 0 0,.slice none 0 0,.bool false] 31);have bwz:wz<=wd.heap.size:=Nat.le_trans (Nat.le_of_eq HWZ.out.symm) bwd.size;have bw2:=bwd.alloc bwz (.cells #[.slice none 0 0,.slice none 0 0,.slice none 0 0,.bool false] 31);have h67:b6<wd.heap.size:=by rename_i hb;exact hb.lt
 obtain⟨b7,h7⟩:∃ b7,b7=wd.heap.size:=⟨_,rfl⟩;rw[<-h7] at hb7 h67 bwz ⊢;clear h7 bwd;generalize World.alloc wd _=w2 at *;have o0:=hb7.cell 0;have o1:=hb7.cell 1;have o2:=hb7.cell 2;have o3:=hb7.cell 3;have z0:=hb7.frozen 0;have z1:=hb7.frozen 1;have z2:=hb7.frozen 2;have z3:=hb7.frozen 3
 simp at o0 o1 o2 o3
 have HX:=qd (And.intro hb6 (And.intro hb7 (And.intro bw2 (And.intro bwz h67))));clear hb6 hb7 bw2 bwz h67;go_wp2;have hb7:=(((HX.out.2.1.set_ 0 (.slice none 0 0)).set_ 1 (.slice oA ol oc)).set_ 2 (.slice sA sl sc)).set_ 3 (.bool stk);simp only[zA] at hb7;have hw7:wz<=b7:=HX.out.2.2.2.1;have hb6:Blk _ b6 _ _:=(((HX.out.1.set_far (b':=b7) (by have:=HX.out.2.2.2.2;omega) 0 (.slice none 0 0)).set_far (b':=b7) (by have:=HX.out.2.2.2.2;omega) 1 (.slice oA ol oc)).set_far (b':=b7) (by have:=HX.out.2.2.2.2;omega) 2 (.slice sA sl sc)).set_far (b':=b7) (by have:=HX.out.2.2.2.2;omega) 3 (.bool stk);have bw3:=(((HX.out.2.2.1.setCell (p:=⟨b7,0,none⟩) hw7 (.slice none 0 0)).setCell (p:=⟨b7,1,none⟩) hw7 (.slice oA ol oc)).setCell (p:=⟨b7,2,none⟩) hw7 (.slice sA sl sc)).setCell (p:=⟨b7,3,none⟩) hw7 (.bool stk);have hle:=HX.out.2.2.2.2;have HY:=qd (show TrS wz w0 b6 b7 oA ol oc sA sl sc stk va 0 (.slice none 0 0) _ from ⟨hb6,hb7,World.ownsRow_nil _ _ _ _,bw3⟩);clear hb6 hb7 bw3 HX o0 o1 o2 o3 z0 z1 z2 z3;have HW7:=qd (And.intro hw7 hle);clear hw7 hle;generalize World.setCell _ _ _=w3 at *
 go_loopw [8] (λi wr=>∃ (k:Nat) (v:Value),k<=n/\i=.int .i64 k/\TrS wz w0 b6 b7 oA ol oc sA sl sc stk va k v wr) (λi _=>n-(intOf i).toNat)
 case atStart=>exact⟨0,_,Nat.zero_le _,rfl,HY.out⟩
 case round =>
  clear HY;obtain⟨k,v,hk,rfl,h⟩:=hrel;obtain⟨vA,vc,rfl⟩:=aQ h.own;have HS0:=qd h;clear h
  by_cases hlt:k<n
  ·have d1:decide (k<n)=true:=decide_eq_true hlt
   obtain⟨g,hg,ct⟩:=HI.out.t k hlt;obtain⟨ca,aA,al,ac,hva⟩:=HI.out.a k hlt;rw[hva] at ca;subst hg;have kc:∀ (b x:Nat) (v:Value),w0.cell? ⟨b,x,none⟩=some v->wr.cell? ⟨b,x,none⟩=some v:=λb x v h=>(World.cell?_of_block (a:=⟨b,x,none⟩) (HS0.out.bw.block b (by rw[<-HWZ.out];exact bG h))).trans h;have q0:=HS0.out.b7_.cell 0
   simp at q0
   have HT:=qd (And.intro q0 (And.intro (kc _ _ _ ct) (kc _ _ _ ca)));have hnb:∀ b,(Value.slice vA k vc).ownBlock=some b->wz<=b:=λb hb=>(HS0.out.own.lt b hb).1
   have hHN:(¬(Value.slice vA k vc).ownBlock=some b7)/\(¬(Value.slice vA k vc).ownBlock=some g)/\¬(Value.slice vA k vc).ownBlock=some (tb k):=by
    refine⟨λz=>fZ HS0.out.own HS0.out.b7_ (by decide) b7 z rfl,λz=>?_,λz=>?_⟩
    ·have:=hnb _ z;have:=bG ct;have:=HWZ.out;omega
    ·have:=hnb _ z;have:=bG ca;have:=HWZ.out;omega
   have HN2:=qd hHN;have HVA:=qd hva;clear hHN hnb kc q0 ct ca hva;go_wp2;rename_i K0 hK0;refine bV (S:=Kept (λb=>(Value.slice vA k vc).ownBlock=some b) wr) 12 (by kernel_rfl) (by kernel_rfl) (by kernel_rfl) ?_;simp only[idle,zB,Nat.reduceAdd];have HS:=qd (Kept.drewN (λb=>(Value.slice vA k vc).ownBlock=some b) wr 1)
   iterate 9
    with_reducible first | refine rdL 0 12 25 ?_ | refine rdL 1 11 26 ?_ | refine rdL 2 10 27 ?_ | refine rdL 3 9 28 ?_ | refine rdL 4 8 29 ?_ | refine rdL 5 7 30 ?_ | refine rdL 6 6 31 ?_ | refine rdL 7 5 32 ?_ | refine rdL 8 4 33 ?_
    refine⟨_,rfl,rfl,by kernel_rfl,by kernel_rfl,by kernel_rfl,(λc a w h=>h),rfl,HS.out,?_⟩;apply Exists.intro;refine⟨λwq hw=>?_,?_⟩
    ·have q0:=cY HT.out.1 hw HN2.out.1
     have q1:=cY HT.out.2.1 hw HN2.out.2.1;have q2:=cY HT.out.2.2 hw HN2.out.2.2;go_simp
     rfl
    simp only[Act.put,zA]
   have hkd:=HS.out;have hs0:TrS wz w0 b6 b7 oA ol oc sA sl sc stk va k (.slice vA k vc) wr.drew:=⟨HS0.out.b6_,HS0.out.b7_,HS0.out.own.drew,HS0.out.bw.trans (Below.drewN (Below.refl wz wr) 1)⟩;change Kept _ wr wr.drew at hkd;clear HS HT HS0;generalize World.drew wr=wd at *;have hBd:wz<=wd.heap.size:=Nat.le_trans (Nat.le_of_eq HWZ.out.symm) hs0.bw.size;refine cW (i:=9) (fuel:=3) (by kernel_rfl) rfl rfl λK' hK'=>?_;unfold Oper.wp;go_simp;have hk6:=hkd.trans (Kept.alloc (S:=λb=>(Value.slice vA k vc).ownBlock=some b) wd (.cells #[.slice aA al ac] 43));refine hK' _ _ hk6 ?_;clear hK' K'
   try simp only[Act.put,zA]
   obtain⟨i0,hi0,hz0,hz1,hz2⟩:=info_parts Try.infoAl;refine cW (i:=10) (fuel:=2) (by kernel_rfl) rfl rfl λK' hK'=>?_;refine wp_append_lies (P:=Try.prog) (wd.alloc (.cells #[.slice aA al ac] 43)) (.tmp 26) (.tmp 34) 28 rfl wz 43 i0 _ 1 24 Try.underlying28 hi0 hz0 hz1 hz2 rfl (by decide) (.slice vA k vc) k _ rfl (hs0.own.alloc _) ⟨wd.heap.size,0,none⟩ 1 1 [.slice aA al ac] rfl rfl (kS _ _ _ (by first | rfl | simp)) (by simp[Value.oneCell']) (by omega) (by unfold maxLen;omega) (by omega) (by simp;omega) (wd.heap.size+1) (by simp) ?_;intro gg cap2 w5 hown hgrow hgat hgl;have hkw:=hk6.trans (Kept.grown (S:=λb=>(Value.slice vA k vc).ownBlock=some b) hgrow (λk hk=>hk));have bw5:Below wz w0 w5:=(hs0.bw.alloc hBd _).grown hgrow (by simp;omega) (λk hk=>(hs0.own.lt k hk).1);have hb6:Blk w5 b6 _ _:=(hs0.b6_.alloc (.cells #[.slice aA al ac] 43)).grown hgrow (λz=>fZ hs0.own hs0.b6_ (by decide) b6 z.symm rfl);have hb7:Blk w5 b7 _ _:=(hs0.b7_.alloc (.cells #[.slice aA al ac] 43)).grown hgrow (λz=>fZ hs0.own hs0.b7_ (by decide) b7 z.symm rfl);have t0:=hb7.cell 0;have z0:=hb7.frozen 0
   simp at t0
   have hown':w5.ownsRow wz 43 1 (.slice (some ⟨gg,0,none⟩) (k+1) cap2) (k+1) (aK (k+1) va):=by
    have e:aK (k+1) va=aK k va++[.slice aA al ac]:=by
     rw[show ([.slice aA al ac]:List Value)=aK 1 (λ_=>.slice aA al ac) from rfl,dO];refine bU λj hj=>?_
     by_cases hlt:j<k
     ·rw [if_pos hlt]
     ·rw [if_neg hlt,show j=k by omega,HVA.out]
    rw[e];exact hown
   refine hK' _ _ hkw ?_;clear hK' K' hown hgrow hgat hgl hk6 hs0 hkd hBd;have HKW:=qd hkw;have HZ:=qd (And.intro hb6 (And.intro hb7 (And.intro hown' bw5)));clear hkw hb6 hb7 hown' bw5
   try simp only[Act.put,zA,List.getElem_toArray,List.getElem_cons_zero,List.getElem_cons_succ]
   refine cW (i:=11) (fuel:=1) (by kernel_rfl) rfl rfl λK' hK'=>?_;unfold Oper.wp;go_simp;refine hK' _ _ HKW.out ?_;clear hK' K'
   try simp only[Act.put,zA]
   refine cW (i:=12) (fuel:=0) (by kernel_rfl) rfl rfl λK' hK'=>?_;unfold Oper.wp;go_simp;refine hK' _ _ HKW.out ?_;clear hK' K'
   try simp only[Act.put,zA]
   clear HKW;refine wpAnyH_done (by kernel_rfl) ?_ _;simp only[Exit.then];refine aX (m:=12) rfl ?_;go_wp2;clear t0 z0;have hb7:=HZ.out.2.1.set_ 0 (.slice (some ⟨gg,0,none⟩) (k+1) cap2);simp only[zA] at hb7
   have hs1:TrS wz w0 b6 b7 oA ol oc sA sl sc stk va (k+1) (.slice (some ⟨gg,0,none⟩) (k+1) cap2) (w5.setCell ⟨b7,0,none⟩ (.slice (some ⟨gg,0,none⟩) (k+1) cap2)):=
    ⟨HZ.out.1.set_far (by have:=HW7.out.2;omega) 0 _,hb7,bT HZ.out.2.2.1 (λb hb=>Below.heap_setCell _ _ _ _ (fZ HZ.out.2.2.1 HZ.out.2.1 (by decide) b hb)),HZ.out.2.2.2.setCell (p:=⟨b7,0,none⟩) HW7.out.1 _⟩
   have HS1:=qd hs1;clear hs1 hb7 HZ;generalize World.setCell w5 _ _=w6 at *;go_wp2;go_roundw
   case rel=>exact⟨k+1,_,by omega,by go_num,HS1.out⟩
   case measure=>simp[intOf];omega
  ·have ek:k=n:=by omega
   subst ek;have d1:decide (k<k)=false:=decide_eq_false (by omega);have q0:=HS0.out.b7_.cell 0;have q1:=HS0.out.b7_.cell 1;have q2:=HS0.out.b7_.cell 2;have q3:=HS0.out.b7_.cell 3
   simp at q0 q1 q2 q3
   have p0:=HS0.out.b6_.frozen 0;have p1:=HS0.out.b6_.frozen 1;have p2:=HS0.out.b6_.frozen 2;have p3:=HS0.out.b6_.frozen 3;have r0:=HS0.out.b6_.cell 0;have r1:=HS0.out.b6_.cell 1;have r2:=HS0.out.b6_.cell 2;have r3:=HS0.out.b6_.cell 3
   simp at r0 r1 r2 r3
   go_wp2;have hb:=HS0.out.b6_.set_ 0 (.slice vA k vc) |>.set_ 1 (.slice oA ol oc) |>.set_ 2 (.slice sA sl sc) |>.set_ 3 (.bool stk)
   simp only[zA] at hb;have h6:wz<=b6:=Nat.le_of_eq H6.out.symm;have bw:=(((HS0.out.bw.setCell (p:=⟨b6,0,none⟩) h6 (.slice vA k vc)).setCell (p:=⟨b6,1,none⟩) h6 (.slice oA ol oc)).setCell (p:=⟨b6,2,none⟩) h6 (.slice sA sl sc)).setCell (p:=⟨b6,3,none⟩) h6 (.bool stk)
   have hown:World.ownsRow ((((wr.setCell ⟨b6,0,none⟩ (.slice vA k vc)).setCell ⟨b6,1,none⟩ (.slice oA ol oc)).setCell ⟨b6,2,none⟩ (.slice sA sl sc)).setCell ⟨b6,3,none⟩ (.bool stk)) wz 43 1 (.slice vA k vc) k (aK k va):=bT HS0.out.own λb hb=>by
    have hne:=fZ HS0.out.own HS0.out.b6_ (by decide) b hb;rw[Below.heap_setCell _ _ _ _ hne,Below.heap_setCell _ _ _ _ hne,Below.heap_setCell _ _ _ _ hne,Below.heap_setCell _ _ _ _ hne]
   clear q0 q1 q2 q3 p0 p1 p2 p3 r0 r1 r2 r3;generalize World.setCell _ _ _=wf at *;have e0:=hb.cell 0;have e1:=hb.cell 1;have e2:=hb.cell 2;have e3:=hb.cell 3
   simp at e0 e1 e2 e3
   refine bodyPost_ret (v:=.agg #[.slice vA k vc,.slice oA ol oc,.slice sA sl sc,.bool stk]) (by simp[results,Try.f28,go_sem,e0,e1,e2,e3]) rfl ?_;exact⟨_,rfl,hown,bw⟩
end Go.Proofs.Ytlcplealnbekeaa
namespace Go.Proofs.Ytlcplealnbekeaa
open Go.RowKit
open Go.ConcN (upd upd_ne upd_same)
namespace RS
def withX (m:RS) (Y:Nat->Option Row):RS:={ m with X:=Y }
theorem ite_X (c:Prop) [Decidable c] (a b:RS) (Y:Nat->Option Row):(if c then a else b).withX Y=if c then a.withX Y else b.withX Y:=by split <;> rfl
theorem jV (m:RS) (Y:Nat->Option Row) (i j:Nat) (x:Int):(m.withX Y).setN i j x=(m.setN i j x).withX Y:=rfl
theorem qZ (m:RS) (Y:Nat->Option Row) (i p:Nat):(m.withX Y).stand i p=(m.stand i p).withX Y:=rfl
theorem end_X (m:RS) (Y:Nat->Option Row) (i:Nat) (a:Ans):(m.withX Y).end_ i a=(m.end_ i a).withX Y:=rfl
theorem lN (m:RS) (Y:Nat->Option Row) (i:Nat) (o:OpI):(m.withX Y).claimed i o=(m.claimed i o).withX Y:=by
 unfold claimed;dsimp only;simp only[ite_X]
 repeat' ((with_reducible refine ite_congr ?_ (λ_=>?_) (λ_=>?_));exact rfl)
 all_goals rfl
theorem claim_X (m:RS) (Y:Nat->Option Row) (i:Nat) (o:OpI):(m.withX Y).claim i o=(m.claim i o).withX Y:=by
 unfold claim;dsimp only;simp only[ite_X]
 repeat' ((with_reducible refine ite_congr ?_ (λ_=>?_) (λ_=>?_));exact rfl)
 ·rfl
 ·rfl
 ·rfl
 ·exact lN { m.setN i 2 0 with cached:=4611686018427387904,old:=m.cached } Y i o
 ·exact lN m Y i o
theorem begin_X (m:RS) (Y:Nat->Option Row) (i:Nat) (o:OpI):(m.withX Y).begin_ i o=(m.begin_ i o).withX Y:=by
 unfold begin_;rw[show (m.withX Y).size=m.size from rfl];generalize bA (bA o.a (-1) 2147483647) 1 2147483647=x3;generalize bA o.a (-1) 2147483647=x1;generalize bA o.b 0 (m.size+1)=x2;simp only[ite_X]
 repeat' ((with_reducible refine ite_congr ?_ (λ_=>?_) (λ_=>?_));exact rfl)
 ·rw [jV];exact claim_X (m.setN i 0 x1) Y i o
 ·rw [jV,jV];exact claim_X ((m.setN i 0 x1).setN i 0 x2) Y i o
 ·exact end_X m Y i _
 ·rw [jV,qZ]
 ·rw [jV,qZ]
 ·rw [jV,jV,qZ]
 ·exact end_X m Y i _
theorem settle_X (Y:Nat->Option Row) (i:Nat):∀ (f:Nat) (m:RS),(m.withX Y).settle i f=(m.settle i f).withX Y
 | 0,m=>rfl
 | f + 1,m=>by
   simp only[settle]
   by_cases h:m.pc i=0
   ·rw [if_pos h,if_pos (show (m.withX Y).pc i=0 from h)]
    show (match (m.ops i)[m.at_ i]? with | some o=>settle ((m.withX Y).begin_ i o) i f | none=>m.withX Y)=_
    cases (m.ops i)[m.at_ i]? with
    | none=>rfl
    | some o=>show settle ((m.withX Y).begin_ i o) i f=_;rw[begin_X];exact settle_X Y i f _
   ·rw [if_neg h,if_neg (show ¬(m.withX Y).pc i=0 from h)]
theorem settled_X (m:RS) (Y:Nat->Option Row) (i:Nat):(m.withX Y).settled i=(m.settled i).withX Y:=by
 unfold settled;dsimp only;rw[show ((m.withX Y).ops i).length+1-(m.withX Y).at_ i=(m.ops i).length+1-m.at_ i from rfl,settle_X]
 rfl
theorem pS (m:RS) (Y:Nat->Option Row) (i:Nat) (e:Int):(m.withX Y).refused i e=(m.refused i e).withX Y:=by
 unfold refused
 by_cases h:m.L i=[]
 ·rw [if_pos h];exact if_pos h
 ·rw [if_neg h];exact if_neg h
theorem write_X (m:RS) (Y:Nat->Option Row) (i:Nat) (o:OpI):(m.withX Y).write i o=(m.write i o).withX Y:=by
 unfold write;dsimp only;simp only[ite_X]
 repeat' ((with_reducible refine ite_congr ?_ (λ_=>?_) (λ_=>?_));exact rfl)
 all_goals rfl
theorem read_X (m:RS) (Y:Nat->Option Row) (i:Nat) (o:OpI):(m.withX Y).read i o=(m.read i o).withX Y:=by
 unfold read;dsimp only;simp only[ite_X]
 repeat' ((with_reducible refine ite_congr ?_ (λ_=>?_) (λ_=>?_));exact rfl)
 all_goals first
  | exact pS m Y i _
  | exact pS ((m.setN i 5 (m.S ((m.place (i-1)+1+((m.L i).length:Int))%(m.size:Int)).toNat)).stand i 52) Y i _
  | rfl
theorem step_X (m:RS) (Y:Nat->Option Row) (i:Nat) (o:OpI):(m.withX Y).step i o=(m.step i o).withX Y:=by
 unfold step;dsimp only
 by_cases h:m.pc i=10
 ·rw [if_pos h];refine(if_pos h).trans ?_
  by_cases k:m.N i 2+1=m.rd
  ·rw [if_pos k];exact(if_pos k).trans (lN { m.setN i 2 (m.N i 2+1) with cached:=if m.num (m.N i 2).toNat<m.cached then m.num (m.N i 2).toNat else m.cached } Y i o)
  ·rw [if_neg k];exact if_neg k
 ·rw [if_neg h];refine(if_neg h).trans ?_
  by_cases k:m.pc i<40
  ·rw [if_pos k];exact(if_pos k).trans (write_X m Y i o)
  ·rw [if_neg k];exact(if_neg k).trans (read_X m Y i o)
theorem does_X (m:RS) (Y:Nat->Option Row) (i:Nat):(m.withX Y).does i=(m.does i).withX Y:=by
 unfold does
 show (match (m.ops i)[m.at_ i]? with | some o=>((m.withX Y).step i o).settled i | none=>m.withX Y)=_
 cases (m.ops i)[m.at_ i]? with
 | none=>rfl
 | some o=>show ((m.withX Y).step i o).settled i=_;rw[step_X,settled_X]
theorem At.withX {m:RS}{i:Nat}{o:OpI}(Y:Nat->Option Row) (h:At m i o):At (m.withX Y) i o:=by
 cases h with
 | look hp hi hk h1 h2 h3 h4 h5=>exact .look hp hi hk h1 h2 h3 h4 h5
 | put hp hi hk h1 h2 h3=>exact .put hp hi hk h1 h2 h3
 | pub hp hi hk h1 h2 h3=>exact .pub hp hi hk h1 h2 h3
 | get hp hi hr hk h1 h2 h3 h4 h5=>exact .get hp hi hr hk h1 h2 h3 h4 h5
theorem Ok.withX {m:RS}(h:m.Ok) (Y:Nat->Option Row):(m.withX Y).Ok:=
 ⟨h.n,h.s0,h.s1,h.rd,h.nx0,h.nx1,h.ca0,h.ca1,h.dn0,h.dn1,h.cu0,h.cu1,h.nu,h.pl,h.len,h.at_,h.ans,h.op,h.nil,fun j hj hp=>by
   obtain⟨o,h1,h2⟩:=h.live j hj hp;exact⟨o,h1,h2.withX Y⟩⟩
theorem ok_does {m:RS}(h:m.Ok) {i:Nat}(hi:i<m.n) (hp:m.pc i≠0):(m.does i).Ok:=by
 obtain⟨o,ho,-⟩:=h.live i hi hp;unfold RS.does;rw[ho];refine Ok.settled (h.step hi hp ho) ?_
 show i<(m.step i o).n
 have e:(m.step i o).n=m.n:=by
  unfold step write read claimed refused;dsimp only
  repeat' split
  all_goals rfl
 rw[e];exact hi
end RS
end Go.Proofs.Ytlcplealnbekeaa
namespace Go.Proofs.Ytlcplealnbekeaa
open Go.RowKit
open Go.ConcN (upd upd_ne upd_same)
namespace RS
def Settled (m:RS) (i:Nat):Prop:=m.ended i=decide ((m.ops i).length<=m.at_ i)/\(m.pc i=0->(m.ops i).length<=m.at_ i)
theorem nJ (i:Nat):∀ (f:Nat) (m:RS),(m.ops i).length<=m.at_ i+f->(m.settle i f).pc i=0->((m.settle i f).ops i).length<=(m.settle i f).at_ i
 | 0,m,h,_=>by simpa [settle] using h
 | f + 1,m,h,hp=>by
   by_cases h0:m.pc i=0
   ·cases ho:(m.ops i)[m.at_ i]? with
    | none =>
      rw[settle_none ho];exact List.getElem?_eq_none_iff.1 ho
    | some o =>
      have e:m.settle i (f+1)=(m.begin_ i o).settle i f:=by simp only[settle,if_pos h0,ho]
      rw[e] at hp ⊢;have hs:=same_begin m i o
      rcases went_begin m i o with⟨q1,q2⟩ | ⟨q1,q2⟩
      ·exact nJ i f _ (by rw[hs.ops,q2];omega) hp
      ·rw [settle_pc q1] at hp
       exact absurd hp q1
   ·rw [settle_pc h0] at hp
    exact absurd hp h0
theorem settled_at (m:RS) (i:Nat):Settled (m.settled i) i:=by
 refine⟨?_,λhp=>?_⟩
 ·show upd _ i _ i=decide ((((m.settle i ((m.ops i).length+1-m.at_ i))).ops i).length<=_)
  rw[upd_same,(same_settle i _ m).ops]
  rfl
 ·exact nJ i _ m (by omega) hp
theorem lW (m:RS) (i j:Nat) (hj:j≠i) (h:Settled m j):Settled (m.settled i) j:=by
 have s:=same_settle i ((m.ops i).length+1-m.at_ i) m;obtain⟨e1,e2,e3,e4,e5,e6⟩:=s.o j hj;unfold settled Settled;dsimp only;rw[upd_ne _ _ hj,e6,e1,e3,s.ops];exact h
theorem same_step (m:RS) (i:Nat) (o:OpI) (j:Nat) (hj:j≠i):(m.step i o).at_ j=m.at_ j/\(m.step i o).pc j=m.pc j/\(m.step i o).ended j=m.ended j/\(m.step i o).ops=m.ops:=by
 unfold step write read claimed refused;dsimp only
 repeat' split
 all_goals (refine⟨?_,?_,?_,?_⟩ <;> first | rfl |(simp only[end_,stand,setN,upd_ne _ _ hj]))
theorem does_settled (m:RS) (i:Nat) (hl:∃ o,(m.ops i)[m.at_ i]?=some o) (h:∀ j,j<m.n->j≠i->Settled m j):∀ j,j<m.n->Settled (m.does i) j:=λj hj=>by
 obtain⟨o,ho⟩:=hl;unfold does;rw[ho];dsimp only
 by_cases e:j=i
 ·subst e
  exact settled_at _ _
 ·refine lW _ i j e ?_
  obtain⟨q1,q2,q3,q4⟩:=same_step m i o j e;unfold Settled;rw[q1,q2,q3,q4];exact h j hj e
end RS
namespace TU
theorem scan_may {n:Nat}{e:Nat->Bool}:∀ {l:List Int}{t:Nat},(scan n e l).2=some t->t<n/\e t=false
 | [],t,h=>by simp[scan] at h
 | x :: l,t,h=>by
   unfold scan at h
   by_cases hm:may n e x
   ·rw [if_pos hm] at h
    simp only[Option.some.injEq] at h;obtain⟨h1,h2,h3⟩:=hm;subst h;exact⟨by omega,h3⟩
   ·rw [if_neg hm] at h
    exact scan_may h
theorem next_may {n:Nat}{e:Nat->Bool}{i0:Nat}(hi:i0<n) (he:e i0=false):∀ {f r:Nat},r<n->dist i0 n r<f->next n e f r<n/\e (next n e f r)=false
 | 0,r,_,h=>by omega
 | f + 1,r,hr,h=>by
   unfold next;cases hc:e r with
   | false=>rw[if_neg (by simp)];exact⟨hr,hc⟩
   | true =>
     rw[if_pos rfl];have hne:r≠i0:=λz=>by rw[z,he] at hc;cases hc
     have:=dist_step hi hr hne;exact next_may hi he (Nat.mod_lt _ (by omega)) (by omega)
theorem pick_may {u:TU}{n:Nat}{e:Nat->Bool}{t:Nat}(hr:u.round<n\/n=0) (h:(u.pick n e).2=some t):t<n/\e t=false:=by
 unfold pick at h
 by_cases h1:left e n=0
 ·rw [if_pos h1] at h;cases h
 ·rw [if_neg h1] at h
  by_cases h2:u.most<=u.order.length
  ·rw [if_pos h2] at h;cases h
  ·rw [if_neg h2] at h
   dsimp only at h;cases hc:(scan n e (u.sched.drop u.at_)).2 with
   | some t'=>rw[hc] at h;cases h;exact scan_may hc
   | none =>
     rw[hc] at h;simp only[Option.some.injEq] at h;subst h;obtain⟨i0,hi0,he0⟩:=left_pos h1;exact next_may hi0 he0 (by omega) (dist_lt hi0 (by omega))
theorem scan_le {n:Nat}{e:Nat->Bool}:∀ l:List Int,(scan n e l).1<=l.length
 | []=>Nat.le_refl _
 | x::l=>by
   have:=scan_le (n:=n) (e:=e) l;unfold scan
   split
   ·simp
   ·simp only [List.length_cons];omega
theorem pick_keeps {u:TU}{n:Nat}{e:Nat->Bool}(ha:u.at_<=u.sched.length) (hr:u.round<n\/n=0):(u.pick n e).1.sched=u.sched/\(u.pick n e).1.most=u.most/\(u.pick n e).1.at_<=u.sched.length/\((u.pick n e).1.round<n\/n=0)/\(∀ t,(u.pick n e).2=some t->(u.pick n e).1.order=u.order++[(t:Int)]/\u.order.length<u.most):=by
 unfold pick
 by_cases h1:left e n=0
 ·rw [if_pos h1];exact⟨rfl,rfl,ha,hr,λt h=>by cases h⟩
 ·rw [if_neg h1]
  by_cases h2:u.most<=u.order.length
  ·rw [if_pos h2];exact⟨rfl,rfl,ha,hr,λt h=>by cases h⟩
  ·rw [if_neg h2]
   dsimp only;have hs:=scan_le (n:=n) (e:=e) (u.sched.drop u.at_);rw[List.length_drop] at hs;obtain⟨i0,hi0,-⟩:=left_pos h1;cases hc:(scan n e (u.sched.drop u.at_)).2 with
   | some t'=>exact⟨rfl,rfl,by dsimp only;omega,hr,λt h=>by cases h;exact⟨rfl,by omega⟩⟩
   | none=>exact⟨rfl,rfl,by dsimp only;omega,.inl (Nat.mod_lt _ (by omega)),λt h=>by cases h;exact⟨rfl,by omega⟩⟩
end TU
structure RR where
 m:RS
 u:TU
namespace RR
structure Ok (c:RR):Prop where
 m:c.m.Ok
 st:∀ j,j<c.m.n->c.m.Settled j
 at_:c.u.at_<=c.u.sched.length
 round:c.u.round<c.m.n\/c.m.n=0
 most:c.u.most<=1048576
def run:Nat->RR->RR
 | 0,c=>c
 | f+1,c=>match (c.u.pick c.m.n c.m.ended).2 with
   | some k=>run f ⟨c.m.does k,(c.u.pick c.m.n c.m.ended).1⟩
   | none=>⟨c.m,(c.u.pick c.m.n c.m.ended).1⟩
theorem does_n (m:RS) (i:Nat):(m.does i).n=m.n:=by
 unfold RS.does;cases (m.ops i)[m.at_ i]? with
 | none=>rfl
 | some o =>
   dsimp only
   show ((m.step i o).settle i _).n=m.n
   rw[(RS.same_settle i _ (m.step i o)).n];unfold RS.step RS.write RS.read RS.claimed RS.refused;dsimp only
   repeat' split
   all_goals rfl
theorem Ok.turn {c:RR}(h:c.Ok) {k:Nat}(hk:(c.u.pick c.m.n c.m.ended).2=some k):k<c.m.n/\c.m.pc k≠0/\(⟨c.m.does k,(c.u.pick c.m.n c.m.ended).1⟩:RR).Ok:=by
 obtain⟨h1,h2⟩:=TU.pick_may h.round hk;have hs:=h.st k h1
 have hat:c.m.at_ k<(c.m.ops k).length:=by
  have:=hs.1;rw[h2] at this;have:=of_decide_eq_false this.symm
  omega
 have hp:c.m.pc k≠0:=λz=>by have:=hs.2 z;omega
 obtain⟨e1,e2,e3,e4,-⟩:=TU.pick_keeps (e:=c.m.ended) h.at_ h.round;refine⟨h1,hp,⟨RS.ok_does h.m h1 hp,λj hj=>?_,?_,?_,?_⟩⟩
 ·exact RS.does_settled c.m k ⟨_,List.getElem?_eq_getElem hat⟩ (λj hj _=>h.st j hj) j (by rw[does_n] at hj;exact hj)
 ·show (c.u.pick c.m.n c.m.ended).1.at_<=(c.u.pick c.m.n c.m.ended).1.sched.length
  rw[e1];exact e3
 ·show _<(c.m.does k).n\/(c.m.does k).n=0
  rw[does_n];exact e4
 ·show (c.u.pick c.m.n c.m.ended).1.most<=_
  rw[e2];exact h.most
theorem run_turn {c:RR}{k f:Nat}(h:(c.u.pick c.m.n c.m.ended).2=some k):run (f+1) c=run f ⟨c.m.does k,(c.u.pick c.m.n c.m.ended).1⟩:=by simp only[run,h]
theorem run_over {c:RR}{f:Nat}(h:(c.u.pick c.m.n c.m.ended).2=none):run (f+1) c=⟨c.m,(c.u.pick c.m.n c.m.ended).1⟩:=by simp only[run,h]
def rest (c:RR):Nat:=c.u.most-c.u.order.length
theorem rest_turn {c:RR}(h:c.Ok) {k:Nat}(hk:(c.u.pick c.m.n c.m.ended).2=some k):rest ⟨c.m.does k,(c.u.pick c.m.n c.m.ended).1⟩+1=c.rest:=by
 obtain⟨e1,e2,e3,e4,e5⟩:=TU.pick_keeps (e:=c.m.ended) h.at_ h.round;obtain⟨e6,e7⟩:=e5 k hk;unfold rest;dsimp only;rw[e2,e6,List.length_append,List.length_singleton]
 omega
end RR
end Go.Proofs.Ytlcplealnbekeaa
namespace Go.Proofs.Ytlcplealnbekeaa
open Go.RowKit
open Go.ConcN (upd upd_ne upd_same)
namespace RS
def hire (m:RS) (l:List OpI):RS:={ m with n:=m.n+1,ops:=upd m.ops m.n l,ans:=upd m.ans m.n [],at_:=upd m.at_ m.n 0,pc:=upd m.pc m.n 0,N:=upd m.N m.n (λ_=>0),L:=upd m.L m.n [],ended:=upd m.ended m.n false }
def born (m:RS) (ops:Nat->List OpI):Nat->RS
 | 0=>m
 | k+1=>(m.born ops k).hire (ops k)
theorem At.hire {m:RS}{i:Nat}{o:OpI}(l:List OpI) (hi:i≠m.n) (h:At m i o):At (m.hire l) i o:=by
 have e1:(m.hire l).pc i=m.pc i:=upd_ne _ _ hi;have e2:(m.hire l).N i=m.N i:=upd_ne _ _ hi;have e3:(m.hire l).L i=m.L i:=upd_ne _ _ hi;cases h with
 | look hp hi hk h1 h2 h3 h4 h5=>exact .look (by rw[e1];exact hp) hi hk (by rw[e2];exact h1) (by rw[e2];exact h2) (by rw[e2];exact h3) (by rw[e2];exact h4) (by rw[e2];exact h5)
 | put hp hi hk h1 h2 h3=>exact .put (by rw[e1];exact hp) hi hk (by rw[e2];exact h1) (by rw[e2];exact h2) (by rw[e2];exact h3)
 | pub hp hi hk h1 h2 h3=>exact .pub (by rw[e1];exact hp) hi hk (by rw[e2];exact h1) (by rw[e2];exact h2) (by rw[e2];exact h3)
 | get hp hi hr hk h1 h2 h3 h4 h5=>exact .get (by rw[e1];exact hp) hi hr hk (by rw[e2];exact h1) (by rw[e2];exact h2) (by rw[e1,e3];exact h3) (by rw[e1,e2,e3];exact h4) (by rw[e1,e2,e3];exact h5)
theorem Ok.hire {m:RS}(h:m.Ok) {l:List OpI}(hn:m.n<64) (hl:l.length<=65536) (ho:∀ o∈l,o.Fits):(m.hire l).Ok:=by
 refine⟨?_,h.s0,h.s1,h.rd,h.nx0,h.nx1,h.ca0,h.ca1,h.dn0,h.dn1,h.cu0,h.cu1,h.nu,h.pl,λi hi=>?_,λi hi=>?_,λi hi=>?_,λi hi=>?_,λi hi=>?_,λi hi=>?_⟩
 ·show m.n+1<=64;omega
 all_goals
  have hi':i<m.n+1:=hi
  by_cases e:i=m.n
 ·subst e;show (upd m.ops m.n l m.n).length<=_;rw[upd_same];exact hl
 ·show (upd m.ops m.n l i).length<=_;rw[upd_ne _ _ e];exact h.len i (by omega)
 ·subst e;show upd m.at_ m.n 0 m.n<=_;rw[upd_same];exact Nat.zero_le _
 ·show upd m.at_ m.n 0 i<=(upd m.ops m.n l i).length;rw[upd_ne _ _ e,upd_ne _ _ e];exact h.at_ i (by omega)
 ·subst e;show (upd m.ans m.n [] m.n).length=upd m.at_ m.n 0 m.n;rw[upd_same,upd_same];rfl
 ·show (upd m.ans m.n [] i).length=upd m.at_ m.n 0 i;rw[upd_ne _ _ e,upd_ne _ _ e];exact h.ans i (by omega)
 ·subst e;show ∀ o∈upd m.ops m.n l m.n,o.Fits;rw[upd_same];exact ho
 ·show ∀ o∈upd m.ops m.n l i,o.Fits;rw[upd_ne _ _ e];exact h.op i (by omega)
 ·subst e;intro _;show upd m.L m.n [] m.n=[];rw[upd_same]
 ·show upd m.pc m.n 0 i=0->upd m.L m.n [] i=[];rw[upd_ne _ _ e,upd_ne _ _ e];exact h.nil i (by omega)
 ·subst e;intro hp;exact absurd (show upd m.pc m.n 0 m.n=0 from upd_same _ _ _) hp
 ·intro hp
  have hp':m.pc i≠0:=by rw[show (m.hire l).pc i=m.pc i from upd_ne _ _ e] at hp;exact hp
  obtain⟨o,h1,h2⟩:=h.live i (by omega) hp';exact⟨o,by show (upd m.ops m.n l i)[upd m.at_ m.n 0 i]?=some o;rw[upd_ne _ _ e,upd_ne _ _ e];exact h1,h2.hire l e⟩
theorem born_n (m:RS) (ops:Nat->List OpI):∀ k,(m.born ops k).n=m.n+k
 | 0=>rfl
 | k+1=>by
   show (m.born ops k).n+1=_
   rw[born_n m ops k]
   omega
theorem Ok.born {m:RS}(h:m.Ok) (hm:m.n=0) {ops:Nat->List OpI}{n:Nat}(hn:n<=64) (hl:∀ i,i<n->(ops i).length<=65536) (ho:∀ i,i<n->∀ o∈ops i,o.Fits):∀ k,k<=n->(m.born ops k).Ok
 | 0,_=>h
 | k+1,hk=>(Ok.born h hm hn hl ho k (by omega)).hire (by rw[born_n,hm];omega) (hl k (by omega)) (ho k (by omega))
def begun (m:RS):Nat->RS
 | 0=>m
 | k+1=>(m.begun k).settled k
theorem settled_n (m:RS) (i:Nat):(m.settled i).n=m.n:=(same_settle i _ m).n
theorem begun_n (m:RS):∀ k,(m.begun k).n=m.n
 | 0=>rfl
 | k+1=>(settled_n _ _).trans (begun_n m k)
theorem Ok.begun {m:RS}(h:m.Ok):∀ k,k<=m.n->(m.begun k).Ok/\∀ j,j<k->(m.begun k).Settled j
 | 0,_=>⟨h,λj hj=>absurd hj (Nat.not_lt_zero _)⟩
 | k+1,hk=>by
   obtain⟨h1,h2⟩:=Ok.begun h k (by omega);refine⟨h1.settled (by rw[begun_n];omega),λj hj=>?_⟩
   by_cases e:j=k
   ·subst e;exact settled_at _ _
   ·exact lW _ k j e (h2 j (by omega))
theorem _root_.Go.Proofs.Ytlcplealnbekeaa.RR.first {m:RS}(h:m.Ok) (xs:List Int) (most:Int):RR.Ok ⟨m.begun m.n,⟨xs,0,0,(bA most 0 1048576).toNat,[],false⟩⟩:=by
 obtain⟨h1,h2⟩:=Ok.begun h m.n (Nat.le_refl _);refine⟨h1,λj hj=>h2 j (by rw[<-begun_n m m.n];exact hj),Nat.zero_le _,?_,?_⟩
 ·rcases Nat.eq_zero_or_pos m.n with z | z
  ·exact .inr ((begun_n m m.n).trans z)
  ·exact .inl (by show 0<(m.begun m.n).n;rw[begun_n];exact z)
 ·have:=(held3_bd most 0 1048576 (by decide)).2
  show (bA most 0 1048576).toNat<=1048576
  omega
end RS
end Go.Proofs.Ytlcplealnbekeaa
namespace Go.Proofs.Ytlcplealnbekeaa
open Go.RowKit Go.Turn
open Go.ConcN (upd upd_ne upd_same)
inductive Nw where
 | box | S | V | Nu | Pl
 deriving DecidableEq
def Nw.ix:Nw->Nat
 | .S=>1
 | .V=>2
 | .Nu=>4
 | .Pl=>8
 | .box=>0
def Nw.c:Nw->Int
 | .S=>-2
 | .V=>0
 | _=>-1
def Nw.rt:Nw->Rt
 | .box=>.box
 | .S=>.S
 | .V=>.V
 | .Nu=>.Nu
 | .Pl=>.Pl
def kQ (K R:Int) (W:Nw->Value):Nat->Value
 | 0=>.int .i64 K
 | 1=>W .S
 | 2=>W .V
 | 3=>.int .i64 (-1)
 | 4=>W .Nu
 | 5=>.int .i64 0
 | 6=>.int .i64 (-1)
 | 7=>.int .i64 (-1)
 | 8=>W .Pl
 | 9=>nilS
 | _=>.int .i64 R
def iV (v:Value) (n:Nat) (c:Int):Row:=⟨2,1,v,n,λ_=>.int .i64 c⟩
def eP (mb:Nat) (K R:Int) (W:Nw->Value) (L:Nw->Nat):Nw->Option Row
 | .box=>some ⟨75,11,.slice (some ⟨mb,0,none⟩) 1 1,1,kQ K R W⟩
 | r=>some (iV (W r) (L r) r.c)
section
variable {B mb:Nat}{K R:Int}{W:Nw->Value}{L:Nw->Nat}{w w1:World}
theorem rN (h:Mems B (eP mb K R W L) w) (k:Nat) (hk:k<11):w.cell? ⟨mb,k,none⟩=some (kQ K R W k):=h.cell (r:=.box) rfl (by omega)
theorem nwrow {r:Nw}(hr:r≠.box):eP mb K R W L r=some (iV (W r) (L r) r.c):=by
 cases r <;> first | rfl | exact absurd rfl hr
theorem nwown (h:Mems B (eP mb K R W L) w) {r:Nw}(hr:r≠.box):w.ownsRow B 2 1 (W r) (L r) (aK (L r) (λ_=>.int .i64 r.c)):=by
 have k:=h.at_ (nwrow (mb:=mb) (K:=K) (R:=R) (W:=W) (L:=L) hr);unfold Row.At iV at k;simp only[Nat.mul_one] at k;exact k
theorem nwapp (h:Mems B (eP mb K R W L) w) {r:Nw}(hr:r≠.box) {v:Value}(hown:w1.ownsRow B 2 1 v (L r+1) (aK (L r) (λ_=>.int .i64 r.c)++[.int .i64 r.c])) (hg:w.grownBy w1 (W r).ownBlock) (hv:v.ownBlock=(W r).ownBlock\/v.ownBlock=some w.heap.size) :
  Mems B (λr'=>if r'=r then some (iV v (L r+1) r.c) else eP mb K R W L r') w1:=by
 refine h.app (r:=r) (d:=iV (W r) (L r) r.c) (d':=iV v (L r+1) r.c) (nwrow hr) (if_pos rfl) (λr' hr'=>if_neg hr') hg ?_ hv;unfold Row.At iV;simp only[Nat.mul_one]
 have e:aK (L r+1) (λ_=>(.int .i64 r.c:Value))=aK (L r) (λ_=>.int .i64 r.c)++[.int .i64 r.c]:=by
  rw[show ([.int .i64 r.c]:List Value)=aK 1 (λ_=>.int .i64 r.c) from rfl,dO];exact bU λj hj=>by split <;> rfl
 rw[e];exact hown
theorem nwshut {r:Nw}(hr:r≠.box) {v:Value}{n:Nat}(h:Mems B (λr'=>if r'=r then some (iV v n r.c) else eP mb K R W L r') w):Mems B (eP mb K R (λr'=>if r'=r then v else W r') (λr'=>if r'=r then n else L r')) (w.setCell ⟨mb,r.ix,none⟩ v):=by
 refine h.set (r:=.box) (e:=75) (sz:=11) (cap:=1) (n:=1) (f:=kQ K R W) (f':=kQ K R (λr'=>if r'=r then v else W r')) (if_neg (λz=>hr z.symm)) r.ix v rfl (λj hj=>?_) λr' hr'=>?_
 ·cases r <;> first | exact absurd rfl hr |(rcases j with _ | _ | _ | _ | _ | _ | _ | _ | _ | _ | j <;> simp[kQ,Nw.ix])
 ·rw [nwrow hr']
  by_cases e:r'=r
  ·subst e;simp
  ·rw [if_neg e,if_neg e,if_neg e,nwrow hr']
theorem jJ {r:Nw}(hr:r≠.box) {v:Value}{n:Nat}(h:Mems B (λr'=>if r'=r then some (iV v n r.c) else eP mb K R W L r') w) (k:Nat) (hk:k<11):w.cell? ⟨mb,k,none⟩=some (kQ K R W k)/\w.frozen? ⟨mb,k,none⟩=false:=
 ⟨h.cell (r:=.box) (e:=75) (sz:=11) (cap:=1) (n:=1) (f:=kQ K R W) (if_neg (λz=>hr z.symm)) (by omega),h.frozen (r:=.box) (e:=75) (sz:=11) (cap:=1) (n:=1) (f:=kQ K R W) (if_neg (λz=>hr z.symm)) k⟩
def bB (n r:Nat):RS where
 size:=n
 rd:=r
 S:=λ_=>-2
 V:=λ_=>0
 cur:=-1
 num:=λ_=>-1
 next:=0
 cached:=-1
 done:=-1
 place:=λ_=>-1
 n:=0
 ops:=λ_=>[]
 ans:=λ_=>[]
 at_:=λ_=>0
 pc:=λ_=>0
 N:=λ_ _=>0
 L:=λ_=>[]
 ended:=λ_=>false
 old:=-1
 X:=λ_=>none
def nwV (W:Nw->Value):Rt->Value
 | .S=>W .S
 | .V=>W .V
 | .Nu=>W .Nu
 | .Pl=>W .Pl
 | _=>nilS
theorem lR (n r:Nat) (h0:0<n) (h1:n<=65536) (hr:r<=64):(bB n r).Ok:=by
 refine⟨?_,?_,?_,?_,?_,?_,?_,?_,?_,?_,?_,?_,?_,?_,?_,?_,?_,?_,?_,?_⟩ <;> first |(intro i hi;exact absurd hi (Nat.not_lt_zero _)) | exact h0 | exact h1 | exact hr |(intro j _;simp[bB];done) |(simp[bB];done)
theorem nwdone {n r:Nat}(h:Mems B (eP mb n r W L) w) (hS:L .S=n) (hV:L .V=n) (hN:L .Nu=r) (hP:L .Pl=r) (tb:Nat->Nat):Mems B (aY mb tb (bB n r) (nwV W)) w:=by
 obtain⟨lab,k⟩:=h.ex;have ks:=k .S _ rfl;have kv:=k .V _ rfl;have kn:=k .Nu _ rfl;have kp:=k .Pl _ rfl;have kb:=k .box _ rfl;rw[hS] at ks;rw[hV] at kv;rw[hN] at kn;rw[hP] at kp;refine⟨λb=>(lab b).map Nw.rt,λr' d hd=>?_⟩;cases r' with
 | box =>
   cases hd;refine⟨?_,λb hb=>congrArg (Option.map Nw.rt) (kb.2 b hb)⟩
   have e:aK (1*11) (kQ n r W)=aK (1*11) (bxF (bB n r) (nwV W)):=bU λj hj=>by
    rcases j with _ | _ | _ | _ | _ | _ | _ | _ | _ | _ | _ | j <;> first | rfl | omega
   have k1:=kb.1;unfold Row.At at k1 ⊢;rw[<-e];exact k1
 | S=>cases hd;exact⟨ks.1,λb hb=>congrArg (Option.map Nw.rt) (ks.2 b hb)⟩
 | V=>cases hd;exact⟨kv.1,λb hb=>congrArg (Option.map Nw.rt) (kv.2 b hb)⟩
 | Nu=>cases hd;exact⟨kn.1,λb hb=>congrArg (Option.map Nw.rt) (kn.2 b hb)⟩
 | Pl=>cases hd;exact⟨kp.1,λb hb=>congrArg (Option.map Nw.rt) (kp.2 b hb)⟩
 | T=>cases hd;exact⟨⟨by simp[bB,aK],.inl ⟨rfl,rfl⟩⟩,λb hb=>by cases hb⟩
 | th i=>simp[aY,bW,bB] at hd
 | op i=>simp[aY,bW,bQ,bB] at hd
 | ans i=>simp[aY,bW,bQ,bB] at hd
 | L i=>simp[aY,bW,bQ,bB] at hd
 | ls i k=>simp[aY,bW,bQ,bB] at hd
 | ext k=>simp[aY,bW,bQ,bB] at hd
end
end Go.Proofs.Ytlcplealnbekeaa
