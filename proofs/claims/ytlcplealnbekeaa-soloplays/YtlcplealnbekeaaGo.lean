/- DERIVED. Traces that are the same (package carillonref03: SameNumbers, SameAnswers, Same). -/
import Derived.Test.YtlcplealnbekeaaGn
import Derived.Test.YtlcplealnbekeaaGl
import Derived.Test.YtlcplealnbekeaaGm
import Derived.Test.YtlcplealnbekeaaGh
import Derived.Laws.AppendOwnNone
set_option linter.unusedVariables false
set_option linter.unusedSectionVars false
set_option linter.unusedSimpArgs false
set_option maxHeartbeats 4000000
set_option maxRecDepth 100000
namespace Go.Proofs.Ytlcplealnbekeaa
open Go.RowKit Go.Turn Go.Tame Go.Conc
def dE (m:RS):Int:=if m.pc 0=10 then m.old else m.cached
def bX (m:RS):SSt:=({ next:=m.next,cached:=dE m,published:=m.done,cursor:=m.cur,num:=m.num,place:=m.place,st:=m.S,va:=m.V },m.ans)
abbrev KS:Type:=Ans->SSt->Tree SSt SSt
def finS (n k i:Nat) (rest:List OpI) (own:List Ans) (a:Ans) (st:SSt):Tree SSt SSt:=if st.2 i=own then thrQ (doS (I0 n k) i) i rest (own++[a]) (kN i a st) else .cut
def jO (n p:Nat) (q v:Int) (R:SSt->Tree SSt SSt):SSt->Tree SSt SSt:=
 if p=20 then λs1=>.yield (soloL.st s1 (q%n).toNat (2*(q / n)-1)) λs2=>.yield (soloL.va s2 (q%n).toNat v) λs3=>R (soloL.st s3 (q%n).toNat (2*(q / n)))
 else if p=21 then λs2=>.yield (soloL.va s2 (q%n).toNat v) λs3=>R (soloL.st s3 (q%n).toNat (2*(q / n)))
 else λs3=>R (soloL.st s3 (q%n).toNat (2*(q / n)))
def kB (n k:Nat) (K:KS) (o:OpI) (x q:Int) (j:Nat) (s:SSt):Tree SSt SSt:=
 fH (I0 n k) q ((iC o.a x.toNat).drop j) j s λs=>eO (wrap64 (wrap64 (q+x)-1)) s λ_ s=>K (eW q 0) s
def gB (n k:Nat) (K:KS) (o:OpI) (x:Int) (q e:Int) (s:SSt):Tree SSt SSt:=
 if o.kind=1 then K (eW q e) s else if e=0 then kB n k K o x q 0 s else K (eW 0 e) s
def iM (n k:Nat) (K:KS) (o:OpI) (p:Nat) (x q j f c nx:Int):SSt->Tree SSt SSt:=
 if p=10 then λs'=>fG (k-1-j.toNat) (j.toNat+1) (if s'.1.num j.toNat<c then s'.1.num j.toNat else c) s' λm s''=>jA x (nx+x-1-n) ({ s''.1 with cached:=m },s''.2) (gB n k K o x)
 else if p=30 then λs'=>K (eW (if o.kind=4 then f else 0) 0) ({ s'.1 with cursor:=q,published:=q },s'.2)
 else jO n p q (if o.kind=4 then wrap64 (o.a+(q-f)) else o.b) (if o.kind=2 then K (eW 0 0) else kB n k K o x f ((q-f).toNat+1))
def getS (n:Nat) (q x v:Int) (p:Nat) (K:Int->Int->SSt->Tree SSt SSt):SSt->Tree SSt SSt:=
 if p=51 then λs1=>if s1.1.st (q%n).toNat<2*(q / n) then K 0 6 s1 else if 2*(q / n)<s1.1.st (q%n).toNat then K 0 10 s1 else
  .yield s1 λs2=>.yield s2 λs3=>if s3.1.st (q%n).toNat=s1.1.st (q%n).toNat then K (s2.1.va (q%n).toNat) 0 s3 else K 0 10 s3
 else if p=52 then λs2=>.yield s2 λs3=>if s3.1.st (q%n).toNat=x then K (s2.1.va (q%n).toNat) 0 s3 else K 0 10 s3
 else λs3=>if s3.1.st (q%n).toNat=x then K v 0 s3 else K 0 10 s3
def rk (K:KS) (o:OpI) (ls:List Int) (e:Int) (s:SSt):Tree SSt SSt:=
 if o.kind=5 then(if e=0 then K (eW (ls.headD 0) 0) s else K (eW 0 e) s) else K ⟨e==0,bH 0 e,ls⟩ s
def rX (r:Nat) (pl:Int) (k:List Int->Int->SSt->Tree SSt SSt) (ls:List Int) (e:Int) (s2:SSt):Tree SSt SSt:=
 if e=0 then .yield s2 λs3=>k ls 0 ({ s3.1 with num:=uI s3.1.num r (pl+ls.length),place:=uI s3.1.place r (pl+ls.length) },s3.2) else k [] e s2
def bget (n k:Nat) (p:Int) (m:Nat) (ls:List Int) (K:List Int->Int->SSt->Tree SSt SSt) (v e:Int) (s:SSt):Tree SSt SSt:=
 if e=0 then eK (I0 n k) p m (ls++[v]) s K else if ls=[] then K [] e s else K ls 0 s
def nP (n k:Nat) (K:KS) (o:OpI) (r p:Nat) (pl x v c y:Int) (L:List Int):SSt->Tree SSt SSt:=
 if p=50 then λs1=>if s1.1.cursor<=pl then rk K o [] 4 s1 else eK (I0 n k) pl (min (s1.1.cursor-pl).toNat x.toNat) [] s1 (rX r pl (rk K o))
 else if p=54 then λs3=>rk K o L 0 ({ s3.1 with num:=uI s3.1.num r (pl+L.length),place:=uI s3.1.place r (pl+L.length) },s3.2)
 else getS n (pl+1+L.length) y v p (bget n k pl (min (c-pl).toNat x.toNat-L.length-1) L (rX r pl (rk K o)))
def dG (m:RS) (i:Nat):List OpI:=(m.ops i).drop (m.at_ i+1)
abbrev fJ (m:RS) (i:Nat):KS:=finS m.size m.rd i (dG m i) (m.ans i)
def gQ (m:RS) (i:Nat) (o:OpI):SSt->Tree SSt SSt:=
 if i=0 then iM m.size m.rd (fJ m i) o (m.pc i) (m.N i 0) (m.N i 1) (m.N i 2) (m.N i 6) m.cached m.next
 else nP m.size m.rd (fJ m i) o (i-1) (m.pc i) (m.place (i-1)) (m.N i 0) (m.N i 3) (m.N i 4) (m.N i 5) (m.L i)
def cM (m:RS) (i:Nat):Tree SSt SSt:=
 if m.pc i=0 then thrQ (doS (I0 m.size m.rd) i) i ((m.ops i).drop (m.at_ i)) (m.ans i) (bX m)
 else match (m.ops i)[m.at_ i]? with
  | some o=>.yield (bX m) (gQ m i o)
  | none=>.ret (bX m)
theorem bK {m:RS}{i:Nat}{o:OpI}(hp:m.pc i≠0) (ho:(m.ops i)[m.at_ i]?=some o):cM m i=.yield (bX m) (gQ m i o):=by
 unfold cM;rw[if_neg hp,ho]
theorem cU {m:RS}{o:OpI}{n k p:Nat}{x q j f c nx:Int}{rest:List OpI}{own:List Ans}(h1:m.size=n) (h2:m.rd=k) (h3:dG m 0=rest) (h4:m.ans 0=own) (h5:m.pc 0=p) (h6:m.N 0 0=x) (h7:m.N 0 1=q) (h8:m.N 0 2=j) (h9:m.N 0 6=f) (h10:m.cached=c) (h11:m.next=nx) :
  gQ m 0 o=iM n k (finS n k 0 rest own) o p x q j f c nx:=by
 subst h1 h2 h3 h4 h5 h6 h7 h8 h9 h10 h11;exact if_pos rfl
theorem dK {m:RS}{i:Nat}{o:OpI}{n k p:Nat}{pl x v c y:Int}{L:List Int}{rest:List OpI}{own:List Ans}(hi:i≠0) (h1:m.size=n) (h2:m.rd=k) (h3:dG m i=rest) (h4:m.ans i=own) (h5:m.pc i=p) (h6:m.place (i-1)=pl) (h7:m.N i 0=x) (h8:m.N i 3=v) (h9:m.N i 4=c) (h10:m.N i 5=y) (h11:m.L i=L) :
  gQ m i o=nP n k (finS n k i rest own) o (i-1) p pl x v c y L:=by
 subst h1 h2 h3 h4 h5 h6 h7 h8 h9 h10 h11;exact if_neg hi
theorem eX {m:RS}{a b c d:Int}{e f g h:Nat->Int}{l:Nat->List Ans}(h1:m.next=a) (h2:dE m=b) (h3:m.done=c) (h4:m.cur=d) (h5:m.num=e) (h6:m.place=f) (h7:m.S=g) (h8:m.V=h) (h9:m.ans=l):bX m=({ next:=a,cached:=b,published:=c,cursor:=d,num:=e,place:=f,st:=g,va:=h },l):=by
 subst h1 h2 h3 h4 h5 h6 h7 h8 h9
 rfl
theorem RS.stand_pc (m:RS) (i p:Nat):(m.stand i p).pc i=p:=Go.ConcN.upd_same _ _ _
theorem gP {m m':RS}{i:Nat}(a:Ans) (s:SSt) (hs:s.1=(bX (m'.end_ i a)).1) (hs2:s.2=m.ans) (hans:m'.ans=m.ans) (h1:m'.ops=m.ops) (h2:m'.at_ i=m.at_ i) (h3:m'.size=m.size) (h4:m'.rd=m.rd):fJ m i a s=cM (m'.end_ i a) i:=by
 unfold fJ finS cM;rw[if_pos (by rw[hs2]),if_pos (show (m'.end_ i a).pc i=0 from Go.ConcN.upd_same _ _ _)]
 have e1:(m'.end_ i a).at_ i=m.at_ i+1:=by
  show Go.ConcN.upd m'.at_ i (m'.at_ i+1) i=_
  rw[Go.ConcN.upd_same,h2]
 have e2:(m'.end_ i a).ans i=m.ans i++[a]:=by
  show Go.ConcN.upd m'.ans i (m'.ans i++[a]) i=_
  rw[Go.ConcN.upd_same,hans]
 have e3:bX (m'.end_ i a)=kN i a s:=by
  unfold kN;rw[hs,hs2];refine Prod.ext rfl ?_
  funext j
  show Go.ConcN.upd m'.ans i (m'.ans i++[a]) j=if j=i then m.ans j++[a] else m.ans j
  by_cases e:j=i
  ·subst e;rw[Go.ConcN.upd_same,if_pos rfl,hans]
  ·rw [Go.ConcN.upd_ne _ _ e,if_neg e,hans]
 rw[e1,e2,e3]
 show _=thrQ (doS (I0 m'.size m'.rd) i) i (List.drop (m.at_ i+1) (m'.ops i)) _ _
 rw[h3,h4,h1]
 rfl
theorem nM (a:Int) (x:Nat):(iC a x).length=x:=by simp[iC]
theorem pF {n k:Nat}{K:KS}{o:OpI}{x q:Int}{j:Nat}{s:SSt}(hj:(j:Int)<x) (h0:0<=q) (h1:q+x=s.1.next) (h2:s.1.next<=4611686018427387904) (h3:s.1.published<q) :
  kB n k K o x q j s=.yield s (jO n 20 (q+j) (wrap64 (o.a+j)) (kB n k K o x q (j+1))):=by
 have hd:(iC o.a x.toNat).drop j=wrap64 (o.a+j)::(iC o.a x.toNat).drop (j+1):=by
  have hl:j<(iC o.a x.toNat).length:=by rw[nM];omega
  rw[List.drop_eq_getElem_cons hl]
  congr 1
  simp[iC]
 have hw:wrap64 (q+j)=q+j:=by unfold wrap64;omega
 have hc:bL s.1 (q+j)=true:=by unfold bL;simp;omega
 have hb:InB (q+j):=by unfold InB;omega
 unfold kB;rw[hd]
 show iQ (I0 n k) (wrap64 (q+j)) (wrap64 (o.a+j)) s _=_
 rw[hw];unfold iQ putG;rw[if_pos hc,if_pos hb];unfold putT jO;rw[if_pos rfl]
 rfl
theorem wrest_pub {n k:Nat}{K:KS}{o:OpI}{x q:Int}{j:Nat}{s:SSt}(hj:(j:Int)=x) (hx:1<=x) (h0:0<=q) (h1:q+x=s.1.next) (h2:s.1.next<=4611686018427387904) (h3:s.1.published<q) :
  kB n k K o x q j s=.yield s λs'=>K (eW q 0) ({ s'.1 with cursor:=q+x-1,published:=q+x-1 },s'.2):=by
 have hd:(iC o.a x.toNat).drop j=[]:=List.drop_of_length_le (by rw[nM];omega);have hw:wrap64 (wrap64 (q+x)-1)=q+x-1:=by unfold wrap64;omega
 have hc:bL s.1 (q+x-1)=true:=by unfold bL;simp;omega
 unfold kB;rw[hd,hw]
 show (fH (I0 n k) q [] j s λs=>eO (q+x-1) s λ_ s=>K (eW q 0) s)=_
 rw[show fH (I0 n k) q [] j s (λs=>eO (q+x-1) s λ_ s=>K (eW q 0) s)=eO (q+x-1) s λ_ s=>K (eW q 0) s from by unfold fH;rfl];unfold eO;rw[if_pos hc]
theorem lC (e:Int) (h:e≠0):eW 0 e=⟨false,e,[]⟩:=by
 unfold eW bH;rw[if_neg h]
 simp[h]
theorem rY (q:Int):eW q 0=⟨true,q,[]⟩:=by simp[eW,bH]
theorem iI {m0 m:RS}{o:OpI}{s:SSt}(hs:s=({ next:=m.next,cached:=m.cached,published:=m.done,cursor:=m.cur,num:=m.num,place:=m.place,st:=m.S,va:=m.V },m.ans)) (ho:(m.ops 0)[m.at_ 0]?=some o) (hk:o.kind=1\/o.kind=4)
  (e1:m0.ops=m.ops) (e2:m0.at_ 0=m.at_ 0) (e3:m0.ans=m.ans) (e4:m0.size=m.size) (e5:m0.rd=m.rd) (h0:0<=m.next) (h1:1<=m.N 0 0) (h2:m.next+m.N 0 0<=4611686018427387904) (h3:m.done<m.next) :
  jA (m.N 0 0) (m.next+m.N 0 0-1-m.size) s (gB m0.size m0.rd (fJ m0 0) o (m.N 0 0))=cM (m.claimed 0 o) 0:=by
 have hw:wrap64 (m.next+m.N 0 0)=m.next+m.N 0 0:=by unfold wrap64;omega
 unfold jA RS.claimed;rw[show s.1.cached=m.cached from by rw[hs]]
 by_cases c:m.cached<m.next+m.N 0 0-1-m.size
 ·rw [if_pos c,if_pos c]
  have : gB m0.size m0.rd (fJ m0 0) o (m.N 0 0) 0 3 s=fJ m0 0 ⟨false,3,[]⟩ s:=by
   unfold gB;rw[lC 3 (by omega)]
   split
   ·rfl
   ·rw [if_neg (by omega)]
  rw[this];refine gP _ s ?_ (by rw[hs,e3]) e3.symm e1.symm e2.symm e4.symm e5.symm;rw[hs]
  show _=SoloSt.mk m.next (dE (m.end_ 0 _)) m.done m.cur m.num m.place m.S m.V
  rw[show dE (m.end_ 0 ⟨false,3,[]⟩)=m.cached from if_neg (show ¬Go.ConcN.upd m.pc 0 0 0=10 from by rw[Go.ConcN.upd_same];omega)]
 ·rw [if_neg c,if_neg c]
  dsimp only;rw[show s.1.next=m.next from by rw[hs],hw]
  rcases hk with hk | hk
  ·rw [if_pos hk]
   unfold gB;rw[if_pos hk,rY];refine gP (m':={ (m.setN 0 6 m.next).setN 0 1 m.next with next:=m.next+m.N 0 0 }) _ _ ?_ (by rw[hs,e3]) e3.symm e1.symm e2.symm e4.symm e5.symm;rw[hs]
   show _=SoloSt.mk (m.next+m.N 0 0) (dE (RS.end_ _ 0 _)) m.done m.cur m.num m.place m.S m.V
   rw[show dE (RS.end_ ({ (m.setN 0 6 m.next).setN 0 1 m.next with next:=m.next+m.N 0 0 }:RS) 0 ⟨true,m.next,[]⟩)=m.cached from if_neg (show ¬Go.ConcN.upd m.pc 0 0 0=10 from by rw[Go.ConcN.upd_same];omega)]
  ·rw [if_neg (by omega)]
   unfold gB;rw[if_neg (by omega),if_pos rfl];rw[pF (by omega) h0 rfl h2 (by rw[hs];exact h3)];obtain⟨m1,hm1⟩:∃ m1:RS,m1=RS.stand ({ (m.setN 0 6 m.next).setN 0 1 m.next with next:=m.next+m.N 0 0 }:RS) 0 20:=⟨_,rfl⟩;rw[<-hm1];have p1:m1.pc 0=20:=by rw[hm1];exact RS.stand_pc _ _ _
   have a0:m1.N 0 0=m.N 0 0:=by rw[hm1];simp[RS.stand,RS.setN,Go.ConcN.upd_same,Go.ConcN.upd_ne]
   have a1:m1.N 0 1=m.next:=by rw[hm1];simp[RS.stand,RS.setN,Go.ConcN.upd_same,Go.ConcN.upd_ne]
   have a6:m1.N 0 6=m.next:=by rw[hm1];simp[RS.stand,RS.setN,Go.ConcN.upd_same,Go.ConcN.upd_ne]
   rw[bK (o:=o) (by omega) (by rw[hm1];exact ho)]
   congr 1
   ·subst hs
    exact(eX (m:=m1) (by rw[hm1];rfl) ((if_neg (by omega)).trans (by rw[hm1];rfl)) (by rw[hm1];rfl) (by rw[hm1];rfl) (by rw[hm1];rfl) (by rw[hm1];rfl) (by rw[hm1];rfl) (by rw[hm1];rfl) (by rw[hm1];rfl)).symm
   ·rw [cU (n:=m0.size) (k:=m0.rd) (rest:=dG m0 0) (own:=m0.ans 0) (by rw[hm1];exact e4.symm) (by rw[hm1];exact e5.symm) (by rw[hm1];unfold dG;rw[e1,e2];rfl) (by rw[hm1,e3];rfl) p1 a0 a1 rfl a6 rfl rfl]
    unfold iM;rw[if_neg (by omega),if_neg (by omega),if_pos hk,if_neg (show ¬o.kind=2 from by omega)];rw[show m.next-m.next=0 from by omega]
    simp
theorem cI (m:RS) (h:¬m.pc 0=10):bX m=({ next:=m.next,cached:=m.cached,published:=m.done,cursor:=m.cur,num:=m.num,place:=m.place,st:=m.S,va:=m.V },m.ans):=
 eX rfl (if_neg h) rfl rfl rfl rfl rfl rfl rfl
theorem jY {n k:Nat}{K:KS}{o:OpI}{x e:Int}{s:SSt}(he:e≠0):gB n k K o x 0 e s=K ⟨false,e,[]⟩ s:=by
 unfold gB;rw[lC e he,if_neg he]
 split <;> rfl
theorem dR {m m':RS}{i:Nat}(a:Ans) (hi:i=0->¬m.pc 0=10) (hp:i≠0->m'.pc 0=m.pc 0) (e1:m'.next=m.next) (e2:m'.cached=m.cached) (e3:m'.done=m.done) (e4:m'.cur=m.cur) (e5:m'.num=m.num) (e6:m'.place=m.place) (e7:m'.S=m.S) (e8:m'.V=m.V) (e9:m'.old=m.old)
  (hans:m'.ans=m.ans) (h1:m'.ops=m.ops) (h2:m'.at_ i=m.at_ i) (h3:m'.size=m.size) (h4:m'.rd=m.rd):fJ m i a (bX m)=cM (m'.end_ i a) i:=by
 refine gP a _ (congrArg Prod.fst (eX (m:=m'.end_ i a) (l:=(m'.end_ i a).ans) e1 ?_ e3 e4 e5 e6 e7 e8 rfl)).symm rfl hans h1 h2 h3 h4
 show (if Go.ConcN.upd m'.pc i 0 0=10 then m'.old else m'.cached)=dE m
 unfold dE;rw[e2,e9]
 by_cases e:i=0
 ·subst e;rw[Go.ConcN.upd_same,if_neg (by omega),if_neg (hi rfl)]
 ·rw [Go.ConcN.upd_ne _ _ (λz=>e z.symm),hp e]
theorem oD {d j:Nat}{c:Int}{s:SSt}{K:Int->SSt->Tree SSt SSt}(h:0<d):fG d j c s K=.yield s λs'=>fG (d-1) (j+1) (if s'.1.num j<c then s'.1.num j else c) s' K:=by
 obtain⟨e,rfl⟩:∃ e,d=e+1:=⟨d-1,by omega⟩
 rfl
theorem oN {m:RS}{o:OpI}(hp:¬m.pc 0=10) (ho:(m.ops 0)[m.at_ 0]?=some o) (hk:o.kind=1\/o.kind=4) (hs1:m.size<=65536) (h0:0<=m.next) (h2:m.next<=4611686018427387904) (h3:m.done<m.next) :
  iJ (I0 m.size m.rd) (m.N 0 0) (bX m) (gB m.size m.rd (fJ m 0) o (m.N 0 0))=cM (m.claim 0 o) 0:=by
 unfold iJ RS.claim;rw[show (I0 m.size m.rd).n=m.size from rfl,show (I0 m.size m.rd).k=m.rd from rfl]
 by_cases c1:m.N 0 0<1
 ·rw [if_pos c1,if_pos (.inl c1),jY (by omega)]
  exact dR _ (λ_=>hp) (λ_=>rfl) rfl rfl rfl rfl rfl rfl rfl rfl rfl rfl rfl rfl rfl rfl
 rw[if_neg c1]
 by_cases c2:(m.size:Int)<m.N 0 0
 ·rw [if_pos c2,if_pos (.inr c2),jY (by omega)]
  exact dR _ (λ_=>hp) (λ_=>rfl) rfl rfl rfl rfl rfl rfl rfl rfl rfl rfl rfl rfl rfl rfl
 rw[if_neg c2,if_neg (show ¬(m.N 0 0<1\/(m.size:Int)<m.N 0 0) from by omega)];have hw:wrap64 (m.next+m.N 0 0)=m.next+m.N 0 0:=by unfold wrap64;omega
 have hW:oO (I0 m.size m.rd) (m.N 0 0) (bX m)=m.next+m.N 0 0-1-m.size:=by
  show wrap64 (wrap64 (wrap64 (m.next+m.N 0 0)-1)-m.size)=_
  rw[hw,show wrap64 (m.next+m.N 0 0-1)=m.next+m.N 0 0-1 from by unfold wrap64;omega];unfold wrap64;omega
 rw[hW,show (bX m).1.next=m.next from rfl,hw,show (bX m).1.cached=m.cached from if_neg hp]
 by_cases c3:4611686018427387904<m.next+m.N 0 0
 ·rw [if_pos c3,if_pos (show 4611686018427387904-m.N 0 0<m.next from by omega),jY (by omega)]
  exact dR _ (λ_=>hp) (λ_=>rfl) rfl rfl rfl rfl rfl rfl rfl rfl rfl rfl rfl rfl rfl rfl
 rw[if_neg c3,if_neg (show ¬4611686018427387904-m.N 0 0<m.next from by omega)]
 by_cases c4:m.cached<m.next+m.N 0 0-1-m.size
 ·rw [if_pos c4,if_pos c4]
  dsimp only
  by_cases c5:0<m.rd
  ·rw [if_pos c5]
   obtain⟨m1,hm1⟩:∃ m1:RS,m1=RS.stand ({ m.setN 0 2 0 with cached:=4611686018427387904,old:=m.cached }:RS) 0 10:=⟨_,rfl⟩;rw[<-hm1];have p1:m1.pc 0=10:=by rw[hm1];exact RS.stand_pc _ _ _
   have a0:m1.N 0 0=m.N 0 0:=by rw[hm1];simp[RS.stand,RS.setN,Go.ConcN.upd_same,Go.ConcN.upd_ne]
   have a2:m1.N 0 2=0:=by rw[hm1];simp[RS.stand,RS.setN,Go.ConcN.upd_same]
   rw[bK (o:=o) (by omega) (by rw[hm1];exact ho)];rw[cU (n:=m.size) (k:=m.rd) (rest:=dG m 0) (own:=m.ans 0) (by rw[hm1];rfl) (by rw[hm1];rfl) (by rw[hm1];rfl) (by rw[hm1];rfl) p1 a0 rfl a2 rfl (c:=4611686018427387904) (by rw[hm1];rfl) (nx:=m.next) (by rw[hm1];rfl)]
   have e1:bX m1=bX m:=by
    rw[cI m hp];exact eX (by rw[hm1];rfl) ((if_pos p1).trans (by rw[hm1];rfl)) (by rw[hm1];rfl) (by rw[hm1];rfl) (by rw[hm1];rfl) (by rw[hm1];rfl) (by rw[hm1];rfl) (by rw[hm1];rfl) (by rw[hm1];rfl)
   rw[e1];unfold iM;rw[if_pos rfl,oD c5]
   rfl
  ·rw [if_neg c5,show m.rd=0 from by omega]
   unfold fG;have:=iI (m0:=m) (m:={ m.setN 0 2 0 with cached:=4611686018427387904,old:=m.cached }) (o:=o) (s:=({ (bX m).1 with cached:=4611686018427387904 },(bX m).2)) rfl ho hk rfl rfl rfl rfl rfl h0 (by show 1<=(m.setN 0 2 0).N 0 0;simp[RS.setN,Go.ConcN.upd_same,Go.ConcN.upd_ne];omega) (by show m.next+(m.setN 0 2 0).N 0 0<=_;simp[RS.setN,Go.ConcN.upd_same,Go.ConcN.upd_ne];omega) h3;rw[show (RS.mk _ _ _ _ _ _ _ _ _ _ _ _ _ _ _ (m.setN 0 2 0).N _ _ _ _).N 0 0=m.N 0 0 from by simp[RS.setN,Go.ConcN.upd_same,Go.ConcN.upd_ne]] at this;rw[show m.rd=0 from by omega] at this;exact this
 ·rw [if_neg c4,if_neg c4]
  exact iI (m0:=m) (m:=m) (cI m hp) ho hk rfl rfl rfl rfl rfl h0 (by omega) (by omega) h3
theorem held_is (a:Int):eI a=bA a (-1) 2147483647:=by
 unfold eI bA
 split
 ·omega
 ·split <;> omega
theorem pH (n k:Nat) (b:Int):((gY (I0 n k) b:Nat):Int)=bA b 0 (n+1):=by
 unfold gY bA
 show ((min (max b 0) ((n:Int)+1)).toNat:Int)=_
 split
 ·omega
 ·split <;> omega
theorem stree_begin {m:RS}{i:Nat}{o:OpI}(hok:m.Ok) (hp:m.pc i=0) (hL:m.L i=[]) (ho:(m.ops i)[m.at_ i]?=some o):cM m i=cM (m.begin_ i o) i:=by
 have hd:(m.ops i).drop (m.at_ i)=o::dG m i:=by
  obtain⟨hlt,he⟩:=List.getElem?_eq_some_iff.1 ho;rw[List.drop_eq_getElem_cons hlt,he];rfl
 have hl:cM m i=doS (I0 m.size m.rd) i o (bX m) (fJ m i):=by
  unfold cM;rw[if_pos hp,hd]
  rfl
 rw[hl];unfold doS RS.begin_;rw[show (I0 m.size m.rd).k=m.rd from rfl]
 by_cases h0:i=0
 ·subst h0
  rw[if_pos rfl];unfold kC
  by_cases k1:o.kind=1
  ·rw [if_pos k1,if_pos ⟨rfl,k1⟩]
   have:=oN (m:=m.setN 0 0 (bA o.a (-1) 2147483647)) (o:=o) (by show ¬m.pc 0=10;omega) ho (.inl k1) hok.s1 hok.nx0 hok.nx1 hok.dn1;rw[show (m.setN 0 0 (bA o.a (-1) 2147483647)).N 0 0=bA o.a (-1) 2147483647 from by simp[RS.setN,Go.ConcN.upd_same]] at this;rw[<-this,held_is]
   show _=iJ (I0 m.size m.rd) _ (bX m) _
   congr 1
   funext q e s
   unfold gB;rw[if_pos k1]
   rfl
  rw[if_neg k1]
  by_cases k4:o.kind=4
  ·rw [if_neg (by omega),if_neg (by omega),if_pos k4,if_neg (by omega),if_pos ⟨rfl,k4⟩]
   have:=oN (m:=(m.setN 0 0 (bA o.a (-1) 2147483647)).setN 0 0 (bA o.b 0 (m.size+1))) (o:=o) (by show ¬m.pc 0=10;omega) ho (.inr k4) hok.s1 hok.nx0 hok.nx1 hok.dn1;rw[show ((m.setN 0 0 (bA o.a (-1) 2147483647)).setN 0 0 (bA o.b 0 (m.size+1))).N 0 0=bA o.b 0 (m.size+1) from by simp[RS.setN,Go.ConcN.upd_same]] at this;rw[<-this];unfold gE;rw[nM,pH]
   show _=iJ (I0 m.size m.rd) _ (bX m) _
   congr 1
   funext q e s
   unfold gB kB;rw[if_neg k1,show (bA o.b 0 (m.size+1)).toNat=gY (I0 m.size m.rd) o.b from by rw[<-pH m.size m.rd];rfl]
   rfl
  have hk14:¬(o.kind=1)/\¬(o.kind=4):=⟨k1,k4⟩;rw[if_neg (show ¬((0:Nat)=0/\o.kind=1) from λh=>k1 h.2),if_neg (show ¬((0:Nat)=0/\o.kind=4) from λh=>k4 h.2)]
  by_cases k2:o.kind=2
  ·rw [if_pos k2,if_pos (show (0:Nat)=0/\(o.kind=2\/o.kind=3) from ⟨rfl,.inl k2⟩)]
   unfold iQ
   by_cases c:m.next<=o.a\/o.a<=m.done\/o.a<0
   ·rw [if_pos c,if_neg (show ¬bL (bX m).1 o.a=true from by unfold bL;show ¬((decide _ && decide (o.a<m.next) && decide (m.done<o.a))=true);simp;omega)]
    dsimp only;rw[lC 1 (by omega)];exact dR _ (λh=>by rw[<-h,hp];omega) (λ_=>rfl) rfl rfl rfl rfl rfl rfl rfl rfl rfl rfl rfl rfl rfl rfl
   ·have hb:=hok.nx1
    rw[if_neg c,if_pos (show bL (bX m).1 o.a=true from by unfold bL;show (decide _ && decide (o.a<m.next) && decide (m.done<o.a))=true;simp;omega)];unfold putG;rw[if_pos (show InB o.a from by unfold InB;omega),if_neg (by omega:¬o.kind=3)];obtain⟨m1,hm1⟩:∃ m1:RS,m1=(m.setN 0 1 o.a).stand 0 20:=⟨_,rfl⟩;rw[<-hm1];have p1:m1.pc 0=20:=by rw[hm1];exact RS.stand_pc _ _ _
    rw[bK (o:=o) (by omega) (by rw[hm1];exact ho)];rw[cU (n:=m.size) (k:=m.rd) (rest:=dG m 0) (own:=m.ans 0) (by rw[hm1];rfl) (by rw[hm1];rfl) (by rw[hm1];rfl) (by rw[hm1];rfl) p1 rfl (q:=o.a) (by rw[hm1];simp[RS.stand,RS.setN,Go.ConcN.upd_same]) rfl rfl rfl rfl]
    rw [show bX m1=bX m from by
     rw[cI m (by omega)];exact eX (by rw[hm1];rfl) ((if_neg (by omega)).trans (by rw[hm1];rfl)) (by rw[hm1];rfl) (by rw[hm1];rfl) (by rw[hm1];rfl) (by rw[hm1];rfl) (by rw[hm1];rfl) (by rw[hm1];rfl) (by rw[hm1];rfl)]
    unfold iM putT jO;rw[if_neg (by omega),if_neg (by omega),if_pos rfl,if_neg k4,if_pos k2]
    rfl
  rw[if_neg k2]
  by_cases k3:o.kind=3
  ·rw [if_pos k3,if_pos (show (0:Nat)=0/\(o.kind=2\/o.kind=3) from ⟨rfl,.inr k3⟩)]
   unfold eO
   by_cases c:m.next<=o.a\/o.a<=m.done\/o.a<0
   ·rw [if_pos c,if_neg (show ¬bL (bX m).1 o.a=true from by unfold bL;show ¬((decide _ && decide (o.a<m.next) && decide (m.done<o.a))=true);simp;omega)]
    dsimp only;rw[lC 1 (by omega)];exact dR _ (λh=>by rw[<-h,hp];omega) (λ_=>rfl) rfl rfl rfl rfl rfl rfl rfl rfl rfl rfl rfl rfl rfl rfl
   ·rw [if_neg c,if_pos (show bL (bX m).1 o.a=true from by unfold bL;show (decide _ && decide (o.a<m.next) && decide (m.done<o.a))=true;simp;omega),if_pos k3]
    obtain⟨m1,hm1⟩:∃ m1:RS,m1=(m.setN 0 1 o.a).stand 0 30:=⟨_,rfl⟩;rw[<-hm1];have p1:m1.pc 0=30:=by rw[hm1];exact RS.stand_pc _ _ _
    rw[bK (o:=o) (by omega) (by rw[hm1];exact ho)];rw[cU (n:=m.size) (k:=m.rd) (rest:=dG m 0) (own:=m.ans 0) (by rw[hm1];rfl) (by rw[hm1];rfl) (by rw[hm1];rfl) (by rw[hm1];rfl) p1 rfl (q:=o.a) (by rw[hm1];simp[RS.stand,RS.setN,Go.ConcN.upd_same]) rfl rfl rfl rfl]
    rw [show bX m1=bX m from by
     rw[cI m (by omega)];exact eX (by rw[hm1];rfl) ((if_neg (by omega)).trans (by rw[hm1];rfl)) (by rw[hm1];rfl) (by rw[hm1];rfl) (by rw[hm1];rfl) (by rw[hm1];rfl) (by rw[hm1];rfl) (by rw[hm1];rfl) (by rw[hm1];rfl)]
    unfold iM;rw[if_neg (by omega),if_pos rfl,if_neg k4]
  rw[if_neg k3,if_neg k4,if_neg (show ¬((0:Nat)=0/\(o.kind=2\/o.kind=3)) from by omega),if_neg (by omega),if_neg (by omega)];exact dR _ (λh=>by rw[<-h,hp];omega) (λ_=>rfl) rfl rfl rfl rfl rfl rfl rfl rfl rfl rfl rfl rfl rfl rfl
 ·rw [if_neg h0,if_neg (show ¬(i=0/\o.kind=1) from λh=>h0 h.1),if_neg (show ¬(i=0/\o.kind=4) from λh=>h0 h.1),if_neg (show ¬(i=0/\(o.kind=2\/o.kind=3)) from λh=>h0 h.1)]
  by_cases c:m.rd<i
  ·rw [if_pos c,if_neg (show ¬(0<i/\i<=m.rd/\o.kind=5) from by omega),if_neg (show ¬(0<i/\i<=m.rd/\o.kind=6) from by omega)]
   exact dR _ (λh=>by rw[<-h,hp];omega) (λ_=>rfl) rfl rfl rfl rfl rfl rfl rfl rfl rfl rfl rfl rfl rfl rfl
  rw[if_neg c]
  have hb:∀ (x y:Int) (m1:RS),m1=(m.setN i 0 x).stand i 50\/m1=((m.setN i 0 y).setN i 0 x).stand i 50->x=max x 1->∀ K,K=rk (fJ m i) o->eV (I0 m.size m.rd) ((i:Int)-1) x (bX m) K=cM m1 i:=λx y m1 hm1 hx K hK=>by
   have p1:m1.pc i=50:=by rcases hm1 with hm1 | hm1 <;> (rw[hm1];exact RS.stand_pc _ _ _)
   have f1:m1.size=m.size/\m1.rd=m.rd/\m1.ops=m.ops/\m1.at_=m.at_/\m1.ans=m.ans/\m1.place=m.place/\m1.L=m.L/\m1.next=m.next/\m1.cached=m.cached/\m1.done=m.done/\m1.cur=m.cur/\m1.num=m.num/\m1.S=m.S/\m1.V=m.V/\m1.old=m.old/\m1.pc 0=m.pc 0/\m1.N i 0=x:=by
    have:Go.ConcN.upd m.pc i 50 0=m.pc 0:=Go.ConcN.upd_ne _ _ (λz=>h0 z.symm)
    rcases hm1 with hm1 | hm1 <;> (rw[hm1];exact⟨rfl,rfl,rfl,rfl,rfl,rfl,rfl,rfl,rfl,rfl,rfl,rfl,rfl,rfl,rfl,this,by simp[RS.stand,RS.setN,Go.ConcN.upd_same]⟩)
   obtain⟨g1,g2,g3,g4,g5,g6,g7,g8,g9,g10,g11,g12,g13,g14,g15,g16,g17⟩:=f1;rw[bK (o:=o) (by omega) (by rw[g3,g4];exact ho)];rw[dK h0 (n:=m.size) (k:=m.rd) (rest:=dG m i) (own:=m.ans i) g1 g2 (by unfold dG;rw[g3,g4]) (by rw[g5]) p1 (pl:=m.place (i-1)) (by rw[g6]) g17 rfl rfl rfl (L:=[]) (by rw[g7,hL])];rw[show bX m1=bX m from eX g8 (by unfold dE;rw[g15,g16,g9]) g10 g11 g12 g6 g13 g14 g5];unfold eV nP;rw[if_neg (by omega),if_neg (show ¬(((I0 m.size m.rd).k:Int)<=(i:Int)-1) from by show ¬((m.rd:Int)<=_);omega),if_pos rfl,<-hx,show ((i:Int)-1).toNat=i-1 from by omega,hK]
   rfl
  by_cases k5:o.kind=5
  ·rw [if_pos k5,if_pos (show 0<i/\i<=m.rd/\o.kind=5 from by omega)]
   unfold kL;refine hb 1 0 _ (.inl rfl) (by omega) _ ?_
   funext ls e s
   unfold rk;rw[if_pos k5]
  rw[if_neg k5,if_neg (show ¬(0<i/\i<=m.rd/\o.kind=5) from by omega)]
  by_cases k6:o.kind=6
  ·rw [if_pos k6,if_pos (show 0<i/\i<=m.rd/\o.kind=6 from by omega)]
   have hx:bA (bA o.a (-1) 2147483647) 1 2147483647=max (eI o.a) 1:=by
    have:=held_bd o.a;rw[<-held_is];unfold bA
    split
    ·omega
    ·split <;> omega
   have:=hb (bA (bA o.a (-1) 2147483647) 1 2147483647) 1 (((m.setN i 0 1).setN i 0 (bA (bA o.a (-1) 2147483647) 1 2147483647)).stand i 50) (.inr rfl) (by rw[hx];omega) _ rfl;rw[<-this,hx];unfold eV;rw[show max (max (eI o.a) 1) 1=max (eI o.a) 1 from by omega];rw[show rk (fJ m i) o=λls e s=>fJ m i ⟨e==0,bH 0 e,ls⟩ s from by funext ls e s;unfold rk;rw[if_neg k5]]
  rw[if_neg k6,if_neg (show ¬(0<i/\i<=m.rd/\o.kind=6) from by omega)];exact dR _ (λh=>by rw[<-h,hp];omega) (λ_=>rfl) rfl rfl rfl rfl rfl rfl rfl rfl rfl rfl rfl rfl rfl rfl
namespace RS
def Ok2 (m:RS):Prop:=m.pc 0=20\/m.pc 0=21\/m.pc 0=22->∀ o,(m.ops 0)[m.at_ 0]?=some o->o.kind=4->m.done<m.N 0 6
end RS
theorem wcont_30 (n k:Nat) (K:KS) (o:OpI) (x q j f c nx:Int):iM n k K o 30 x q j f c nx=λs'=>K (eW (if o.kind=4 then f else 0) 0) ({ s'.1 with cursor:=q,published:=q },s'.2):=by
 unfold iM;rw[if_neg (by omega),if_pos rfl]
theorem jE (n k:Nat) (K:KS) (o:OpI) {p:Nat}(hp:p=20\/p=21\/p=22) (x q j f c nx:Int):iM n k K o p x q j f c nx=jO n p q (if o.kind=4 then wrap64 (o.a+(q-f)) else o.b) (if o.kind=2 then K (eW 0 0) else kB n k K o x f ((q-f).toNat+1)):=by
 unfold iM;rw[if_neg (by omega),if_neg (by omega)]
theorem sputs_20 (n:Nat) (q v:Int) (R:SSt->Tree SSt SSt):jO n 20 q v R=λs1=>.yield (soloL.st s1 (q%n).toNat (2*(q / n)-1)) (jO n 21 q v R):=rfl
theorem sputs_21 (n:Nat) (q v:Int) (R:SSt->Tree SSt SSt):jO n 21 q v R=λs2=>.yield (soloL.va s2 (q%n).toNat v) (jO n 22 q v R):=rfl
theorem sputs_22 (n:Nat) (q v:Int) (R:SSt->Tree SSt SSt):jO n 22 q v R=λs3=>R (soloL.st s3 (q%n).toNat (2*(q / n))):=rfl
theorem step_look {m:RS}{o:OpI}(hok:m.Ok) (hp:m.pc 0=10) (ho:(m.ops 0)[m.at_ 0]?=some o) (hk:o.kind=1\/o.kind=4) (h1:1<=m.N 0 0) (h2:m.N 0 0<=m.size) (h3:m.next+m.N 0 0<=4611686018427387904) (h4:0<=m.N 0 2) (h5:m.N 0 2<m.rd):gQ m 0 o (bX m)=cM (m.step 0 o) 0:=by
 rw[cU rfl rfl rfl rfl hp rfl rfl rfl rfl rfl rfl];unfold iM RS.step;rw[if_pos rfl,if_pos hp];dsimp only;rw[show (bX m).1.num=m.num from rfl];generalize hc:(if m.num (m.N 0 2).toNat<m.cached then m.num (m.N 0 2).toNat else m.cached)=c;obtain⟨m1,hm1⟩:∃ m1:RS,m1={ m.setN 0 2 (m.N 0 2+1) with cached:=c }:=⟨_,rfl⟩;rw[<-hm1];have p1:m1.pc 0=10:=by rw[hm1];exact hp
 have a0:m1.N 0 0=m.N 0 0:=by rw[hm1];simp[RS.setN,Go.ConcN.upd_same,Go.ConcN.upd_ne]
 have a2:m1.N 0 2=m.N 0 2+1:=by rw[hm1];simp[RS.setN,Go.ConcN.upd_same]
 by_cases e:m.N 0 2+1=m.rd
 ·rw [if_pos e,show m.rd-1-(m.N 0 2).toNat=0 from by omega]
  unfold fG;have:=iI (m0:=m) (m:=m1) (o:=o) (s:=({ (bX m).1 with cached:=c },(bX m).2)) (by subst hm1;rfl) (by rw[hm1];exact ho) hk (by subst hm1;rfl) (by subst hm1;rfl) (by subst hm1;rfl) (by subst hm1;rfl) (by subst hm1;rfl) (by rw[hm1];exact hok.nx0) (by rw[a0];exact h1) (by rw[a0,hm1];exact h3) (by rw[hm1];exact hok.dn1);rw[a0,show m1.next=m.next from (by subst hm1;rfl),show m1.size=m.size from (by subst hm1;rfl)] at this;exact this
 ·rw [if_neg e,bK (o:=o) (by omega) (by rw[hm1];exact ho)]
  rw[cU (n:=m.size) (k:=m.rd) (rest:=dG m 0) (own:=m.ans 0) (by subst hm1;rfl) (by subst hm1;rfl) (by subst hm1;rfl) (by subst hm1;rfl) p1 a0 rfl a2 rfl (c:=c) (by subst hm1;rfl) (nx:=m.next) (by subst hm1;rfl)];rw[show bX m1=bX m from eX (by subst hm1;rfl) (by unfold dE;rw[if_pos p1,if_pos hp];subst hm1;rfl) (by subst hm1;rfl) (by subst hm1;rfl) (by subst hm1;rfl) (by subst hm1;rfl) (by subst hm1;rfl) (by subst hm1;rfl) (by subst hm1;rfl)];rw[oD (by omega)];unfold iM;rw[if_pos rfl,show (m.N 0 2+1).toNat=(m.N 0 2).toNat+1 from by omega,show m.rd-1-((m.N 0 2).toNat+1)=m.rd-1-(m.N 0 2).toNat-1 from by omega]
theorem step_put {m:RS}{o:OpI}(hok:m.Ok) (hok2:m.Ok2) (ho:(m.ops 0)[m.at_ 0]?=some o) (hp:m.pc 0=20\/m.pc 0=21\/m.pc 0=22) (hk:o.kind=2\/o.kind=4) (h1:0<=m.N 0 1) (h2:m.N 0 1<m.next) (h3:o.kind=4->1<=m.N 0 0/\m.N 0 0<=m.size/\0<=m.N 0 6/\m.N 0 6<=m.N 0 1/\m.N 0 1<m.N 0 6+m.N 0 0/\m.N 0 6+m.N 0 0=m.next) (hf:o.Fits):gQ m 0 o (bX m)=cM (m.step 0 o) 0:=by
 have hd:=λk4=>hok2 hp o ho k4;have nx:=hok.nx1;unfold RS.step RS.write;rw[if_neg (by omega),if_pos (by omega)];dsimp only;obtain⟨j,hj⟩:∃ j:Nat,j=(m.N 0 1%m.size).toNat:=⟨_,rfl⟩;obtain⟨l,hl⟩:∃ l:Int,l=m.N 0 1 / m.size:=⟨_,rfl⟩;rw[<-hj,<-hl]
 rcases hp with hp | hp | hp
 ·rw [if_pos hp,cU rfl rfl rfl rfl hp rfl rfl rfl rfl rfl rfl]
  obtain⟨m1,hm1⟩:∃ m1:RS,m1={ m.stand 0 21 with S:=Go.ConcN.upd m.S j (2*l-1) }:=⟨_,rfl⟩;rw[<-hm1];have p1:m1.pc 0=21:=by rw[hm1];exact Go.ConcN.upd_same m.pc 0 _
  rw[bK (o:=o) (by omega) (by rw[hm1];exact ho)];rw[cU (n:=m.size) (k:=m.rd) (rest:=dG m 0) (own:=m.ans 0) (by subst hm1;rfl) (by subst hm1;rfl) (by subst hm1;rfl) (by subst hm1;rfl) p1 (x:=m.N 0 0) (by subst hm1;rfl) (q:=m.N 0 1) (by subst hm1;rfl) rfl (f:=m.N 0 6) (by subst hm1;rfl) rfl rfl];rw[cI m (by omega),cI m1 (by omega)];rw[jE _ _ _ _ (.inl rfl),jE _ _ _ _ (.inr (.inl rfl)),sputs_20,<-hj,<-hl,hm1]
  rfl
 ·rw [if_neg (by omega),if_pos hp,cU rfl rfl rfl rfl hp rfl rfl rfl rfl rfl rfl]
  have hv:(if o.kind=4 then wrap64 (wrap64 (o.a+m.N 0 1)-m.N 0 6) else o.b)=(if o.kind=4 then wrap64 (o.a+(m.N 0 1-m.N 0 6)) else o.b):=by
   split
   ·unfold wrap64;omega
   ·rfl
  rw[hv];obtain⟨v,hvv⟩:∃ v,(if o.kind=4 then wrap64 (o.a+(m.N 0 1-m.N 0 6)) else o.b)=v:=⟨_,rfl⟩;rw[hvv];obtain⟨m1,hm1⟩:∃ m1:RS,m1={ m.stand 0 22 with V:=Go.ConcN.upd m.V j v }:=⟨_,rfl⟩;rw[<-hm1];have p1:m1.pc 0=22:=by rw[hm1];exact Go.ConcN.upd_same m.pc 0 _
  rw[bK (o:=o) (by omega) (by rw[hm1];exact ho)];rw[cU (n:=m.size) (k:=m.rd) (rest:=dG m 0) (own:=m.ans 0) (by subst hm1;rfl) (by subst hm1;rfl) (by subst hm1;rfl) (by subst hm1;rfl) p1 (x:=m.N 0 0) (by subst hm1;rfl) (q:=m.N 0 1) (by subst hm1;rfl) rfl (f:=m.N 0 6) (by subst hm1;rfl) rfl rfl];rw[cI m (by omega),cI m1 (by omega)];rw[jE _ _ _ _ (.inr (.inl rfl)),jE _ _ _ _ (.inr (.inr rfl)),hvv,sputs_21,<-hj,hm1]
  rfl
 ·rw [if_neg (by omega),if_neg (by omega),if_pos hp,cU rfl rfl rfl rfl hp rfl rfl rfl rfl rfl rfl]
  rw[jE _ _ _ _ (.inr (.inr rfl)),sputs_22,<-hj,<-hl]
  rcases hk with hk | hk
  ·rw [if_pos hk,if_pos hk,rY]
   refine gP (m':={ m with S:=Go.ConcN.upd m.S j (2*l) }) _ _ ?_ rfl rfl rfl rfl rfl rfl;rw[cI m (by omega),cI _ (by show ¬Go.ConcN.upd m.pc 0 0 0=10;rw[Go.ConcN.upd_same];omega)]
   rfl
  ·obtain ⟨g1,g2,g3,g4,g5,g6⟩:=h3 hk
   rw[if_neg (by omega),if_neg (by omega)];have hdd:=hd hk;rw[cI m (by omega)]
   by_cases e:m.N 0 1=m.N 0 6+m.N 0 0-1
   ·rw [if_pos e]
    obtain⟨m1,hm1⟩:∃ m1:RS,m1=(RS.stand { m with S:=Go.ConcN.upd m.S j (2*l) } 0 20).stand 0 30:=⟨_,rfl⟩;rw[<-hm1];have p1:m1.pc 0=30:=by rw[hm1];exact Go.ConcN.upd_same (Go.ConcN.upd m.pc 0 20) 0 _
    rw[bK (o:=o) (by omega) (by rw[hm1];exact ho)];rw[cU (n:=m.size) (k:=m.rd) (rest:=dG m 0) (own:=m.ans 0) (by subst hm1;rfl) (by subst hm1;rfl) (by subst hm1;rfl) (by subst hm1;rfl) p1 rfl (q:=m.N 0 1) (by subst hm1;rfl) rfl (f:=m.N 0 6) (by subst hm1;rfl) rfl rfl];dsimp only;rw[wrest_pub (by omega) (by omega) g3 (by show _=m.next;omega) nx (by show m.done<_;exact hdd),cI m1 (by omega)];rw[wcont_30,if_pos hk,e,hm1]
    rfl
   ·rw [if_neg e]
    obtain⟨m1,hm1⟩:∃ m1:RS,m1=(RS.stand { m with S:=Go.ConcN.upd m.S j (2*l) } 0 20).setN 0 1 (m.N 0 1+1):=⟨_,rfl⟩;rw[<-hm1];have p1:m1.pc 0=20:=by rw[hm1];exact Go.ConcN.upd_same m.pc 0 _
    have a0:m1.N 0 0=m.N 0 0:=by rw[hm1];simp[RS.stand,RS.setN,Go.ConcN.upd_same,Go.ConcN.upd_ne]
    have a1:m1.N 0 1=m.N 0 1+1:=by rw[hm1];simp[RS.stand,RS.setN,Go.ConcN.upd_same]
    have a6:m1.N 0 6=m.N 0 6:=by rw[hm1];simp[RS.stand,RS.setN,Go.ConcN.upd_same,Go.ConcN.upd_ne]
    rw[bK (o:=o) (by omega) (by rw[hm1];exact ho)];rw[cU (n:=m.size) (k:=m.rd) (rest:=dG m 0) (own:=m.ans 0) (by subst hm1;rfl) (by subst hm1;rfl) (by subst hm1;rfl) (by subst hm1;rfl) p1 a0 a1 rfl a6 rfl rfl];dsimp only;rw[pF (by omega) g3 (by show _=m.next;omega) nx (by show m.done<_;exact hdd),cI m1 (by omega)];rw[jE _ _ _ _ (.inl rfl),if_pos hk,if_neg (show ¬o.kind=2 from by omega)];rw[show m.N 0 6+(((m.N 0 1-m.N 0 6).toNat+1:Nat):Int)=m.N 0 1+1 from by omega,show (((m.N 0 1-m.N 0 6).toNat+1:Nat):Int)=m.N 0 1+1-m.N 0 6 from by omega,show (m.N 0 1+1-m.N 0 6).toNat=(m.N 0 1-m.N 0 6).toNat+1 from by omega,hm1]
    rfl
theorem step_pub {m:RS}{o:OpI}(ho:(m.ops 0)[m.at_ 0]?=some o) (hp:m.pc 0=30) (hk:o.kind=3\/o.kind=4):gQ m 0 o (bX m)=cM (m.step 0 o) 0:=by
 unfold RS.step RS.write;rw[if_neg (by omega),if_pos (by omega)];dsimp only;rw[if_neg (by omega),if_neg (by omega),if_neg (by omega),if_pos hp,cU rfl rfl rfl rfl hp rfl rfl rfl rfl rfl rfl];rw[wcont_30,rY];refine gP (m':={ m with cur:=m.N 0 1,done:=m.N 0 1 }) _ _ ?_ rfl rfl rfl rfl rfl rfl;rw[cI m (by omega),cI _ (by show ¬Go.ConcN.upd m.pc 0 0 0=10;rw[Go.ConcN.upd_same];omega)]
 rfl
theorem rcont_50 (n k:Nat) (K:KS) (o:OpI) (r:Nat) (pl x v c y:Int) (L:List Int) {s:SSt}{z:Int}(hz:s.1.cursor=z):nP n k K o r 50 pl x v c y L s=if z<=pl then rk K o [] 4 s else eK (I0 n k) pl (min (z-pl).toNat x.toNat) [] s (rX r pl (rk K o)):=by
 subst hz;rfl
theorem nO (n k:Nat) (K:KS) (o:OpI) (r:Nat) (pl x v c y:Int) (L:List Int):nP n k K o r 54 pl x v c y L=λs3=>rk K o L 0 ({ s3.1 with num:=uI s3.1.num r (pl+L.length),place:=uI s3.1.place r (pl+L.length) },s3.2):=rfl
theorem iE (n k:Nat) (K:KS) (o:OpI) (r:Nat) {p:Nat}(hp:p=51\/p=52\/p=53) (pl x v c y:Int) (L:List Int):nP n k K o r p pl x v c y L=getS n (pl+1+L.length) y v p (bget n k pl (min (c-pl).toNat x.toNat-L.length-1) L (rX r pl (rk K o))):=by
 unfold nP;rw[if_neg (by omega),if_neg (by omega)]
theorem getS_51 (n:Nat) (q x v:Int) (K:Int->Int->SSt->Tree SSt SSt) {s:SSt}{z:Int}(hz:s.1.st (q%n).toNat=z):getS n q x v 51 K s=if z<2*(q / n) then K 0 6 s else if 2*(q / n)<z then K 0 10 s else .yield s (getS n q z v 52 K):=by
 subst hz;rfl
theorem getS_52 (n:Nat) (q x v:Int) (K:Int->Int->SSt->Tree SSt SSt) {s:SSt}{z:Int}(hz:s.1.va (q%n).toNat=z):getS n q x v 52 K s=.yield s (getS n q x z 53 K):=by
 subst hz;rfl
theorem getS_53 (n:Nat) (q x v:Int) (K:Int->Int->SSt->Tree SSt SSt) {s:SSt}{z:Int}(hz:s.1.st (q%n).toNat=z):getS n q x v 53 K s=if z=x then K v 0 s else K 0 10 s:=by
 subst hz;rfl
theorem rk_err {K:KS}{o:OpI}{e:Int}{s:SSt}(he:e≠0):rk K o [] e s=K ⟨false,e,[]⟩ s:=by
 unfold rk;rw[lC e he,if_neg he,show (e==0)=false from by simp[he],show bH 0 e=e from if_neg he]
 split <;> rfl
theorem lF {m m1:RS}{i:Nat}(hi:i≠0) (h0:m1.pc 0=m.pc 0) (e1:m1.next=m.next) (e2:m1.cached=m.cached) (e3:m1.done=m.done) (e4:m1.cur=m.cur) (e5:m1.num=m.num) (e6:m1.place=m.place) (e7:m1.S=m.S) (e8:m1.V=m.V) (e9:m1.old=m.old) (e10:m1.ans=m.ans):bX m1=bX m:=
 eX e1 (by unfold dE;rw[h0,e2,e9]) e3 e4 e5 e6 e7 e8 e10
theorem batch_on {n k:Nat}{pl:Int}{m r:Nat}{L:List Int}{K:KS}{o:OpI}{s:SSt}(hm:0<m) (hl:L.length<4294967296) (h0:0<=pl+1+L.length) (h1:pl+1+L.length<4611686018427387904) (x:Int) (v:Int):eK (I0 n k) pl m L s (rX r pl (rk K o))=.yield s (getS n (pl+1+L.length) x v 51 (bget n k pl (m-1) L (rX r pl (rk K o)))):=by
 obtain⟨d,rfl⟩:∃ d,m=d+1:=⟨m-1,by omega⟩;unfold eK;rw[if_neg (by omega)];unfold getG;rw[if_pos (show InB (pl+1+L.length) from ⟨h0,h1⟩)]
 rfl
theorem cursor_toSS (m:RS):(bX m).1.cursor=m.cur:=rfl
theorem iY {m m1:RS}{i:Nat}{o:OpI}(hi:i≠0) (ho:(m.ops i)[m.at_ i]?=some o) {e:Int}(he:e≠0) (M:Nat)
  (f:m1.size=m.size/\m1.rd=m.rd/\m1.ops=m.ops/\m1.at_=m.at_/\m1.ans=m.ans/\m1.place=m.place/\m1.L=m.L/\m1.next=m.next/\m1.cached=m.cached/\m1.done=m.done/\m1.cur=m.cur/\m1.num=m.num/\m1.S=m.S/\m1.V=m.V/\m1.old=m.old/\m1.pc 0=m.pc 0) :
  bget m.size m.rd (m.place (i-1)) M (m.L i) (rX (i-1) (m.place (i-1)) (rk (fJ m i) o)) 0 e (bX m)=cM (m1.refused i e) i:=by
 obtain⟨g1,g2,g3,g4,g5,g6,g7,g8,g9,g10,g11,g12,g13,g14,g15,g16⟩:=f;have q0:Go.ConcN.upd m1.pc i 54 0=m1.pc 0:=Go.ConcN.upd_ne _ _ (λz=>hi z.symm);unfold bget RS.refused;rw[if_neg he]
 by_cases hL:m.L i=[]
 ·rw [if_pos hL,if_pos (by rw[g7];exact hL)]
  unfold rX;rw[if_neg he,rk_err he];exact dR _ (λh=>absurd h hi) (λ_=>q0.trans g16) g8 g9 g10 g11 g12 g6 g13 g14 g15 g5 g3 (congrFun g4 i) g1 g2
 ·rw [if_neg hL,if_neg (by rw[g7];exact hL)]
  unfold rX;rw[if_pos rfl];obtain⟨m2,hm2⟩:∃ m2:RS,m2=m1.stand i 54:=⟨_,rfl⟩;rw[<-hm2];have p2:m2.pc i=54:=by rw[hm2];exact RS.stand_pc _ _ _
  rw[bK (o:=o) (by omega) (by subst hm2;show (m1.ops i)[m1.at_ i]?=_;rw[g3,g4];exact ho)];rw[dK hi (n:=m.size) (k:=m.rd) (rest:=dG m i) (own:=m.ans i) (by subst hm2;exact g1) (by subst hm2;exact g2) (by subst hm2;unfold dG;show List.drop (m1.at_ i+1) (m1.ops i)=_;rw[g3,g4]) (by subst hm2;exact congrFun g5 i) p2 (pl:=m.place (i-1)) (by subst hm2;exact congrFun g6 _) rfl rfl rfl rfl (L:=m.L i) (by subst hm2;exact congrFun g7 i)];rw[lF (m:=m) (m1:=m2) hi (by subst hm2;exact q0.trans g16) (by subst hm2;exact g8) (by subst hm2;exact g9) (by subst hm2;exact g10) (by subst hm2;exact g11) (by subst hm2;exact g12) (by subst hm2;exact g6) (by subst hm2;exact g13) (by subst hm2;exact g14) (by subst hm2;exact g15) (by subst hm2;exact g5),nO]
theorem step_get {m:RS}{i:Nat}{o:OpI}(hok:m.Ok) (ho:(m.ops i)[m.at_ i]?=some o) (hp:m.pc i=50\/m.pc i=51\/m.pc i=52\/m.pc i=53\/m.pc i=54) (hi0:0<i) (hr:i<=m.rd) (hk:o.kind=5\/o.kind=6) (h1:1<=m.N i 0) (h2:m.N i 0<=2147483647) (h3:m.pc i=50->m.L i=[])
   (h4:51<=m.pc i->m.pc i<=53->m.place (i-1)+1+(m.L i).length<=m.N i 4/\m.N i 4<4611686018427387904/\((m.L i).length:Int)<m.N i 0) (h5:m.pc i=54->m.L i≠[]/\m.place (i-1)+(m.L i).length<4611686018427387904/\((m.L i).length:Int)<=m.N i 0):gQ m i o (bX m)=cM (m.step i o) i:=by
 have hi:i≠0:=by omega
 obtain⟨hpl0,hpl1⟩:=hok.pl (i-1) (by omega);have hcu:=hok.cu1;have hnx:=hok.nx1;have q0:∀ p,Go.ConcN.upd m.pc i p 0=m.pc 0:=λp=>Go.ConcN.upd_ne _ _ (λz=>hi z.symm);unfold RS.step RS.read;rw[if_neg (by omega),if_neg (by omega)];dsimp only
 rcases hp with hp | hp | hp | hp | hp
 ·rw [if_pos hp,dK hi rfl rfl rfl rfl hp rfl rfl rfl rfl rfl rfl,rcont_50 _ _ _ _ _ _ _ _ _ _ _ (cursor_toSS m)]
  have hL:=h3 hp
  by_cases c:m.cur<=m.place (i-1)
  ·rw [if_pos c,if_pos c,rk_err (by omega)]
   exact dR _ (λh=>absurd h hi) (λ_=>q0 51) rfl rfl rfl rfl rfl rfl rfl rfl rfl rfl rfl rfl rfl rfl
  ·rw [if_neg c,if_neg c]
   obtain⟨m1,hm1⟩:∃ m1:RS,m1=(m.setN i 4 m.cur).stand i 51:=⟨_,rfl⟩;rw[<-hm1];have p1:m1.pc i=51:=by rw[hm1];exact RS.stand_pc _ _ _
   rw[bK (o:=o) (by omega) (by rw[hm1];exact ho)];rw[dK hi (n:=m.size) (k:=m.rd) (rest:=dG m i) (own:=m.ans i) (by subst hm1;rfl) (by subst hm1;rfl) (by subst hm1;rfl) (by subst hm1;rfl) p1 (pl:=m.place (i-1)) (by subst hm1;rfl) (x:=m.N i 0) (by rw[hm1];simp[RS.stand,RS.setN,Go.ConcN.upd_same,Go.ConcN.upd_ne]) rfl (c:=m.cur) (by rw[hm1];simp[RS.stand,RS.setN,Go.ConcN.upd_same]) rfl (L:=[]) (by subst hm1;exact hL)];rw[iE _ _ _ _ _ (.inl rfl),lF (m:=m) (m1:=m1) hi (by subst hm1;exact q0 51) (by subst hm1;rfl) (by subst hm1;rfl) (by subst hm1;rfl) (by subst hm1;rfl) (by subst hm1;rfl) (by subst hm1;rfl) (by subst hm1;rfl) (by subst hm1;rfl) (by subst hm1;rfl) (by subst hm1;rfl)];rw[batch_on (by omega) (by simp) (by simp;omega) (by simp;omega) (m1.N i 5) (m1.N i 3)]
   rfl
 ·obtain ⟨g1,g2,g3⟩:=h4 (by omega) (by omega)
  rw[if_neg (by omega),if_pos hp,dK hi rfl rfl rfl rfl hp rfl rfl rfl rfl rfl rfl,iE _ _ _ _ _ (.inl rfl),getS_51 _ _ _ _ _ (z:=m.S _) rfl];generalize hq:m.place (i-1)+1+((m.L i).length:Int)=q;obtain⟨m1,hm1⟩:∃ m1:RS,m1=(m.setN i 5 (m.S (q%m.size).toNat)).stand i 52:=⟨_,rfl⟩;rw[<-hm1];have f:m1.size=m.size/\m1.rd=m.rd/\m1.ops=m.ops/\m1.at_=m.at_/\m1.ans=m.ans/\m1.place=m.place/\m1.L=m.L/\m1.next=m.next/\m1.cached=m.cached/\m1.done=m.done/\m1.cur=m.cur/\m1.num=m.num/\m1.S=m.S/\m1.V=m.V/\m1.old=m.old/\m1.pc 0=m.pc 0:=by subst hm1;exact⟨rfl,rfl,rfl,rfl,rfl,rfl,rfl,rfl,rfl,rfl,rfl,rfl,rfl,rfl,rfl,q0 52⟩
  by_cases c1:m.S (q%m.size).toNat<2*(q / m.size)
  ·rw [if_pos c1,if_pos c1]
   exact iY hi ho (by omega) _ f
  rw[if_neg c1,if_neg c1]
  by_cases c2:2*(q / m.size)<m.S (q%m.size).toNat
  ·rw [if_pos c2,if_pos c2]
   exact iY hi ho (by omega) _ f
  rw[if_neg c2,if_neg c2];have p1:m1.pc i=52:=by rw[hm1];exact RS.stand_pc _ _ _
  rw[bK (o:=o) (by omega) (by rw[hm1];exact ho)];rw[dK hi (n:=m.size) (k:=m.rd) (rest:=dG m i) (own:=m.ans i) (by subst hm1;rfl) (by subst hm1;rfl) (by subst hm1;rfl) (by subst hm1;rfl) p1 (pl:=m.place (i-1)) (by subst hm1;rfl) (x:=m.N i 0) (by rw[hm1];simp[RS.stand,RS.setN,Go.ConcN.upd_same,Go.ConcN.upd_ne]) (v:=m.N i 3) (by rw[hm1];simp[RS.stand,RS.setN,Go.ConcN.upd_same,Go.ConcN.upd_ne]) (c:=m.N i 4) (by rw[hm1];simp[RS.stand,RS.setN,Go.ConcN.upd_same,Go.ConcN.upd_ne]) (y:=m.S (q%m.size).toNat) (by rw[hm1];simp[RS.stand,RS.setN,Go.ConcN.upd_same]) (L:=m.L i) (by subst hm1;rfl)];rw[iE _ _ _ _ _ (.inr (.inl rfl)),lF (m:=m) (m1:=m1) hi (by subst hm1;exact q0 52) (by subst hm1;rfl) (by subst hm1;rfl) (by subst hm1;rfl) (by subst hm1;rfl) (by subst hm1;rfl) (by subst hm1;rfl) (by subst hm1;rfl) (by subst hm1;rfl) (by subst hm1;rfl) (by subst hm1;rfl),hq]
 ·obtain ⟨g1,g2,g3⟩:=h4 (by omega) (by omega)
  rw[if_neg (by omega),if_neg (by omega),if_pos hp,dK hi rfl rfl rfl rfl hp rfl rfl rfl rfl rfl rfl,iE _ _ _ _ _ (.inr (.inl rfl)),getS_52 _ _ _ _ _ (z:=m.V _) rfl];generalize hq:m.place (i-1)+1+((m.L i).length:Int)=q;obtain⟨m1,hm1⟩:∃ m1:RS,m1=(m.setN i 3 (m.V (q%m.size).toNat)).stand i 53:=⟨_,rfl⟩;rw[<-hm1];have p1:m1.pc i=53:=by rw[hm1];exact RS.stand_pc _ _ _
  rw[bK (o:=o) (by omega) (by rw[hm1];exact ho)];rw[dK hi (n:=m.size) (k:=m.rd) (rest:=dG m i) (own:=m.ans i) (by subst hm1;rfl) (by subst hm1;rfl) (by subst hm1;rfl) (by subst hm1;rfl) p1 (pl:=m.place (i-1)) (by subst hm1;rfl) (x:=m.N i 0) (by rw[hm1];simp[RS.stand,RS.setN,Go.ConcN.upd_same,Go.ConcN.upd_ne]) (v:=m.V (q%m.size).toNat) (by rw[hm1];simp[RS.stand,RS.setN,Go.ConcN.upd_same]) (c:=m.N i 4) (by rw[hm1];simp[RS.stand,RS.setN,Go.ConcN.upd_same,Go.ConcN.upd_ne]) (y:=m.N i 5) (by rw[hm1];simp[RS.stand,RS.setN,Go.ConcN.upd_same,Go.ConcN.upd_ne]) (L:=m.L i) (by subst hm1;rfl)];rw[iE _ _ _ _ _ (.inr (.inr rfl)),lF (m:=m) (m1:=m1) hi (by subst hm1;exact q0 53) (by subst hm1;rfl) (by subst hm1;rfl) (by subst hm1;rfl) (by subst hm1;rfl) (by subst hm1;rfl) (by subst hm1;rfl) (by subst hm1;rfl) (by subst hm1;rfl) (by subst hm1;rfl) (by subst hm1;rfl),hq]
 ·obtain ⟨g1,g2,g3⟩:=h4 (by omega) (by omega)
  rw[if_neg (by omega),if_neg (by omega),if_neg (by omega),if_pos hp,dK hi rfl rfl rfl rfl hp rfl rfl rfl rfl rfl rfl,iE _ _ _ _ _ (.inr (.inr rfl)),getS_53 _ _ _ _ _ (z:=m.S _) rfl]
  by_cases c1:m.S ((m.place (i-1)+1+((m.L i).length:Int))%m.size).toNat=m.N i 5
  ·rw [if_pos c1,if_neg (λh=>h c1)]
   unfold bget;rw[if_pos rfl];have hl1:((m.L i++[m.N i 3]).length)=(m.L i).length+1:=by simp
   by_cases c2:m.place (i-1)+1+((m.L i).length:Int)=m.N i 4\/((m.L i).length+1:Int)=m.N i 0
   ·rw [if_pos c2,show min (m.N i 4-m.place (i-1)).toNat (m.N i 0).toNat-(m.L i).length-1=0 from by omega]
    obtain⟨m1,hm1⟩:∃ m1:RS,m1=(({ m with L:=Go.ConcN.upd m.L i (m.L i++[m.N i 3]) }:RS).stand i 51).stand i 54:=⟨_,rfl⟩;rw[<-hm1];have p1:m1.pc i=54:=by rw[hm1];exact RS.stand_pc _ _ _
    rw[bK (o:=o) (by omega) (by rw[hm1];exact ho)];rw[dK hi (n:=m.size) (k:=m.rd) (rest:=dG m i) (own:=m.ans i) (by subst hm1;rfl) (by subst hm1;rfl) (by subst hm1;rfl) (by subst hm1;rfl) p1 (pl:=m.place (i-1)) (by subst hm1;rfl) rfl rfl rfl rfl (L:=m.L i++[m.N i 3]) (by subst hm1;exact Go.ConcN.upd_same _ _ _)];rw[nO,lF (m:=m) (m1:=m1) hi (by subst hm1;exact(Go.ConcN.upd_ne _ _ (λz=>hi z.symm)).trans (q0 51)) (by subst hm1;rfl) (by subst hm1;rfl) (by subst hm1;rfl) (by subst hm1;rfl) (by subst hm1;rfl) (by subst hm1;rfl) (by subst hm1;rfl) (by subst hm1;rfl) (by subst hm1;rfl) (by subst hm1;rfl)]
    rfl
   ·rw [if_neg c2]
    obtain⟨m1,hm1⟩:∃ m1:RS,m1=({ m with L:=Go.ConcN.upd m.L i (m.L i++[m.N i 3]) }:RS).stand i 51:=⟨_,rfl⟩;rw[<-hm1];have p1:m1.pc i=51:=by rw[hm1];exact RS.stand_pc _ _ _
    rw[bK (o:=o) (by omega) (by rw[hm1];exact ho)];rw[dK hi (n:=m.size) (k:=m.rd) (rest:=dG m i) (own:=m.ans i) (by subst hm1;rfl) (by subst hm1;rfl) (by subst hm1;rfl) (by subst hm1;rfl) p1 (pl:=m.place (i-1)) (by subst hm1;rfl) (x:=m.N i 0) (by subst hm1;rfl) (v:=m.N i 3) (by subst hm1;rfl) (c:=m.N i 4) (by subst hm1;rfl) (y:=m.N i 5) (by subst hm1;rfl) (L:=m.L i++[m.N i 3]) (by subst hm1;exact Go.ConcN.upd_same _ _ _)];rw[iE _ _ _ _ _ (.inl rfl),lF (m:=m) (m1:=m1) hi (by subst hm1;exact q0 51) (by subst hm1;rfl) (by subst hm1;rfl) (by subst hm1;rfl) (by subst hm1;rfl) (by subst hm1;rfl) (by subst hm1;rfl) (by subst hm1;rfl) (by subst hm1;rfl) (by subst hm1;rfl) (by subst hm1;rfl)];rw[batch_on (by omega) (by omega) (by omega) (by omega) (m.N i 5) (m.N i 3)];rw[hl1,show min (m.N i 4-m.place (i-1)).toNat (m.N i 0).toNat-((m.L i).length+1)=min (m.N i 4-m.place (i-1)).toNat (m.N i 0).toNat-(m.L i).length-1 from by omega]
  ·rw [if_neg c1,if_pos c1]
   exact iY hi ho (by omega) _ ⟨rfl,rfl,rfl,rfl,rfl,rfl,rfl,rfl,rfl,rfl,rfl,rfl,rfl,rfl,rfl,rfl⟩
 ·obtain ⟨g1,g2,g3⟩:=h5 hp
  rw[if_neg (by omega),if_neg (by omega),if_neg (by omega),if_neg (by omega),if_pos hp,dK hi rfl rfl rfl rfl hp rfl rfl rfl rfl rfl rfl,nO]
  have hr':rk (fJ m i) o (m.L i) 0=fJ m i (if o.kind=5 then⟨true,(m.L i).headD 0,[]⟩ else⟨true,0,m.L i⟩):=by
   funext s
   unfold rk;rw[if_pos rfl,rY]
   split
   ·rfl
   ·rfl
  dsimp only;rw[hr'];generalize (if o.kind=5 then(⟨true,(m.L i).headD 0,[]⟩:Ans) else⟨true,0,m.L i⟩)=a;obtain⟨m1,hm1⟩:∃ m1:RS,m1={ m with place:=Go.ConcN.upd m.place (i-1) (m.place (i-1)+(m.L i).length),num:=Go.ConcN.upd m.num (i-1) (m.place (i-1)+(m.L i).length) }:=⟨_,rfl⟩;rw[<-hm1]
  have hc:dE (m1.end_ i a)=dE m:=by
   subst hm1;unfold dE
   show (if Go.ConcN.upd m.pc i 0 0=10 then m.old else m.cached)=_
   rw[q0]
  refine gP a _ ?_ rfl (by subst hm1;rfl) (by subst hm1;rfl) (by subst hm1;rfl) (by subst hm1;rfl) (by subst hm1;rfl)
  show _=SoloSt.mk m1.next (dE (m1.end_ i a)) m1.done m1.cur m1.num m1.place m1.S m1.V
  rw[hc];subst hm1
  rfl
namespace RS
theorem ok2_pc {m:RS}(h:¬(m.pc 0=20\/m.pc 0=21\/m.pc 0=22)):m.Ok2:=λz=>absurd z h
theorem gF (m:RS) (a:Ans):(m.end_ 0 a).Ok2:=ok2_pc (by show ¬(Go.ConcN.upd m.pc 0 0 0=20\/Go.ConcN.upd m.pc 0 0 0=21\/Go.ConcN.upd m.pc 0 0 0=22);rw[Go.ConcN.upd_same];omega)
theorem gS (m:RS) (p:Nat) (h:¬(p=20\/p=21\/p=22)):(m.stand 0 p).Ok2:=ok2_pc (by rw[stand_pc];exact h)
theorem iU {m:RS}(o:OpI) (h:m.done<m.next):(m.claimed 0 o).Ok2:=by
 unfold claimed
 split
 ·exact gF _ _
 ·dsimp only
  split
  ·exact gF _ _
  ·intro _ o' _ _
   show m.done<Go.ConcN.upd (Go.ConcN.upd m.N 0 (Go.ConcN.upd (m.N 0) 6 m.next)) 0 (Go.ConcN.upd (Go.ConcN.upd m.N 0 (Go.ConcN.upd (m.N 0) 6 m.next) 0) 1 m.next) 0 6
   simp[Go.ConcN.upd_same,Go.ConcN.upd_ne]
   exact h
theorem pZ {m:RS}(o:OpI) (h:m.done<m.next):(m.claim 0 o).Ok2:=by
 unfold claim
 split
 ·exact gF _ _
 ·split
  ·exact gF _ _
  ·split
   ·dsimp only
    split
    ·exact gS _ _ (by omega)
    ·exact iU o h
   ·exact iU o h
theorem Ok2.same {m m':RS}{i:Nat}(h:m.Ok2) (hi:i≠0) (s:Same i m m'):m'.Ok2:=by
 obtain⟨e1,e2,e3,e4,e5,e6⟩:=s.o 0 (λz=>hi z.symm);obtain⟨w1,w2,w3,w4,w5⟩:=s.wr hi;unfold Ok2;rw[e1,e3,e4,s.ops,w3];exact h
theorem Ok2.begin {m:RS}{i:Nat}{o:OpI}(h:m.Ok2) (hd:m.done<m.next) (ho:(m.ops i)[m.at_ i]?=some o):(m.begin_ i o).Ok2:=by
 by_cases hi:i=0
 ·subst hi
  unfold begin_
  split
  ·exact pZ o hd
  ·split
   ·exact pZ o hd
   ·split
    ·split
     ·exact gF _ _
     ·split
      ·exact gS _ _ (by omega)
      ·intro _ o' ho' hk
       have:(m.ops 0)[m.at_ 0]?=some o':=ho';rw[ho] at this;cases this
       omega
    ·split
     ·exact gS _ _ (by omega)
     ·split
      ·exact gS _ _ (by omega)
      ·exact gF _ _
 ·exact h.same hi (same_begin m i o)
theorem rH {m m':RS}{i:Nat}(hi:i=0) (h1:m'.size=m.size) (h2:m'.rd=m.rd) (h3:m'.n=m.n) (h4:m'.ops=m.ops) (h5:m'.X=m.X) (e1:m'.at_=m.at_) (e2:m'.ans=m.ans) (e3:m'.pc=m.pc) (e4:m'.N=m.N) (e5:m'.L=m.L) (e6:m'.ended=m.ended) (e7:m'.place=m.place):Same i m m':=
 ⟨h1,h2,h3,h4,h5,λj _=>⟨congrFun e1 j,congrFun e2 j,congrFun e3 j,congrFun e4 j,congrFun e5 j,congrFun e6 j⟩,λj _=>congrFun e7 j,λz=>absurd hi z⟩
theorem same_stepA {m:RS}{i:Nat}{o:OpI}(ha:At m i o):Same i m (m.step i o):=by
 have hw:m.pc i<40->i=0:=λhp=>by cases ha <;> omega
 have h0:¬m.pc i<40->0<i:=λhp=>by cases ha <;> omega
 unfold step
 by_cases c:m.pc i=10
 ·rw [if_pos c]
  have hi:=hw (by omega);have s1:Same i m { m.setN i 2 (m.N i 2+1) with cached:=if m.num (m.N i 2).toNat<m.cached then m.num (m.N i 2).toNat else m.cached }:=⟨rfl,rfl,rfl,rfl,rfl,λj hj=>⟨rfl,rfl,rfl,Go.ConcN.upd_ne _ _ hj,rfl,rfl⟩,λ_ _=>rfl,λz=>absurd hi z⟩;dsimp only
  split
  ·exact s1.trans (iA _ _ _ hi)
  ·exact s1
 ·rw [if_neg c]
  by_cases c2:m.pc i<40
  ·rw [if_pos c2]
   have hi:=hw c2;unfold write;dsimp only
   split
   ·exact (bE m i 21).trans (rH hi rfl rfl rfl rfl rfl rfl rfl rfl rfl rfl rfl rfl)
   ·split
    ·exact (bE m i 22).trans (rH hi rfl rfl rfl rfl rfl rfl rfl rfl rfl rfl rfl rfl)
    ·split
     ·have s1:Same i m { m with S:=Go.ConcN.upd m.S (m.N i 1%m.size).toNat (2*(m.N i 1 / m.size)) }:=rH hi rfl rfl rfl rfl rfl rfl rfl rfl rfl rfl rfl rfl
      split
      ·exact s1.trans (dH _ _ _)
      ·split
       ·exact s1.trans ((bE _ _ _).trans (bE _ _ _))
       ·exact s1.trans ((bE _ _ _).trans (bM _ _ _ _))
     ·split
      ·exact (rH (m:=m) (m':={ m with cur:=m.N i 1,done:=m.N i 1 }) hi rfl rfl rfl rfl rfl rfl rfl rfl rfl rfl rfl rfl).trans (dH _ _ _)
      ·exact .refl _ _
  ·rw [if_neg c2]
   have hi:=h0 c2
   have hr:∀ m1 e,Same i m m1->Same i m (m1.refused i e):=λm1 e h=>by
    unfold refused
    split
    ·exact h.trans ((bE _ _ _).trans (dH _ _ _))
    ·exact h.trans (bE _ _ _)
   unfold read;dsimp only
   split
   ·split
    ·exact ((bM _ _ _ _).trans (bE _ _ _)).trans (dH _ _ _)
    ·exact (bM _ _ _ _).trans (bE _ _ _)
   ·split
    ·split
     ·exact hr _ _ ((bM _ _ _ _).trans (bE _ _ _))
     ·split
      ·exact hr _ _ ((bM _ _ _ _).trans (bE _ _ _))
      ·exact (bM _ _ _ _).trans (bE _ _ _)
    ·split
     ·exact (bM _ _ _ _).trans (bE _ _ _)
     ·split
      ·split
       ·exact hr _ _ (.refl _ _)
       ·have s1:Same i m { m with L:=Go.ConcN.upd m.L i (m.L i++[m.N i 3]) }:=⟨rfl,rfl,rfl,rfl,rfl,λj hj=>⟨rfl,rfl,rfl,rfl,Go.ConcN.upd_ne _ _ hj,rfl⟩,λ_ _=>rfl,λ_=>⟨rfl,rfl,rfl,rfl,rfl⟩⟩
        split
        ·exact s1.trans ((bE _ _ _).trans (bE _ _ _))
        ·exact s1.trans (bE _ _ _)
      ·split
       ·have s1:Same i m { m with place:=Go.ConcN.upd m.place (i-1) (m.place (i-1)+(m.L i).length),num:=Go.ConcN.upd m.num (i-1) (m.place (i-1)+(m.L i).length) }:=⟨rfl,rfl,rfl,rfl,rfl,λj hj=>⟨rfl,rfl,rfl,rfl,rfl,rfl⟩,λj hj=>Go.ConcN.upd_ne _ _ (by omega),λ_=>⟨rfl,rfl,rfl,rfl,rfl⟩⟩
        exact s1.trans (dH _ _ _)
       ·exact .refl _ _
theorem Ok2.step {m:RS}{i:Nat}{o:OpI}(h:m.Ok2) (hd:m.done<m.next) (ho:(m.ops i)[m.at_ i]?=some o) (ha:At m i o):(m.step i o).Ok2:=by
 by_cases hi:i=0
 ·subst hi
  unfold RS.step
  by_cases c:m.pc 0=10
  ·rw [if_pos c]
   dsimp only
   split
   ·exact iU o hd
   ·exact ok2_pc (by show ¬(m.pc 0=20\/m.pc 0=21\/m.pc 0=22);omega)
  ·rw [if_neg c]
   have hw:m.pc 0=20\/m.pc 0=21\/m.pc 0=22\/m.pc 0=30:=by cases ha <;> omega
   rw[if_pos (by omega)];unfold write;dsimp only
   split
   ·intro _ o' ho' hk;exact h (by omega) o' ho' hk
   ·split
    ·intro _ o' ho' hk;exact h (by omega) o' ho' hk
    ·split
     ·split
      ·exact gF _ _
      ·split
       ·exact gS _ _ (by omega)
       ·intro _ o' ho' hk
        show m.done<Go.ConcN.upd m.N 0 (Go.ConcN.upd (m.N 0) 1 (m.N 0 1+1)) 0 6
        rw[Go.ConcN.upd_same,Go.ConcN.upd_ne _ _ (by omega)];exact h (by omega) o' ho' hk
     ·rw [if_pos (by omega)]
      exact gF _ _
 ·exact h.same hi (same_stepA ha)
theorem Ok2.settle {i:Nat}:∀ (f:Nat) {m:RS},m.Ok->m.Ok2->i<m.n->(m.settle i f).Ok2
 | 0,m,_,h,_=>h
 | f + 1,m,hok,h,hi=>by
   unfold RS.settle
   split
   ·rename_i hp
    split
    ·rename_i o ho
     exact Ok2.settle f (hok.begin_ hi hp ho) (h.begin hok.dn1 ho) (by rw[(same_begin m i o).n];exact hi)
    ·exact h
   ·exact h
theorem Ok2.settled {m:RS}{i:Nat}(hok:m.Ok) (h:m.Ok2) (hi:i<m.n):(m.settled i).Ok2:=Ok2.settle (i:=i) ((m.ops i).length+1-m.at_ i) hok h hi
end RS
theorem stree_step {m:RS}{i:Nat}{o:OpI}(hok:m.Ok) (h2:m.Ok2) (hi:i<m.n) (ho:(m.ops i)[m.at_ i]?=some o) (ha:RS.At m i o):gQ m i o (bX m)=cM (m.step i o) i:=by
 cases ha with
 | look hp h0 hk h1 h2 h3 h4 h5=>subst h0;exact step_look hok hp ho hk h1 h2 h3 h4 h5
 | put hp h0 hk h1 h2' h3=>subst h0;exact step_put hok h2 ho hp hk h1 h2' h3 (hok.op 0 hi o (List.mem_of_getElem? ho))
 | pub hp h0 hk h1 h2 h3=>subst h0;exact step_pub ho hp hk
 | get hp h0 hr hk h1 h2 h3 h4 h5=>exact step_get hok ho hp h0 hr hk h1 h2 h3 h4 h5
theorem kF {i:Nat}:∀ (f:Nat) (m:RS),m.Ok->i<m.n->cM m i=cM (m.settle i f) i
 | 0,m,_,_=>rfl
 | f + 1,m,hok,hi=>by
   unfold RS.settle
   split
   ·rename_i hp
    split
    ·rename_i o ho
     rw[stree_begin hok hp (hok.nil i hi hp) ho];exact kF f _ (hok.begin_ hi hp ho) (by rw[(RS.same_begin m i o).n];exact hi)
    ·rfl
   ·rfl
theorem jN {m:RS}{i:Nat}(hok:m.Ok) (hi:i<m.n):cM m i=cM (m.settled i) i:=kF _ m hok hi
def rB (r:RS) (i:Nat):Stg SSt:=if r.pc i=0 then .over else match (r.ops i)[r.at_ i]? with
 | some o=>.wait (gQ r i o)
 | none=>.over
theorem pP {m:Mach SSt}{r:RS}{i:Nat}(hd:r.pc i=0->(r.ops i).length<=r.at_ i):m.did i (cM r i)=⟨bX r,Go.ConcN.upd m.th i (rB r i)⟩:=by
 unfold cM rB
 by_cases hp:r.pc i=0
 ·rw [if_pos hp,if_pos hp,List.drop_of_length_le (hd hp)]
  rfl
 ·rw [if_neg hp,if_neg hp]
  cases (r.ops i)[r.at_ i]? with
  | some o=>rfl
  | none=>rfl
theorem stree_ne {r:RS}{i:Nat}(hd:r.pc i=0->(r.ops i).length<=r.at_ i):cM r i≠.cut:=by
 unfold cM
 by_cases hp:r.pc i=0
 ·rw [if_pos hp,List.drop_of_length_le (hd hp)]
  intro h;cases h
 ·rw [if_neg hp]
  cases (r.ops i)[r.at_ i]? <;> (intro h;cases h)
theorem nE {r r':RS}{i j:Nat}(hs:RS.Same i r r') (hj:j≠i):rB r' j=rB r j:=by
 obtain⟨e1,e2,e3,e4,e5,e6⟩:=hs.o j hj;unfold rB;rw[e1,e3,hs.ops]
 by_cases h:r.pc j=0
 ·rw [if_pos h,if_pos h]
 rw[if_neg h,if_neg h];cases (r.ops j)[r.at_ j]? with
 | none=>rfl
 | some o =>
   dsimp only
   congr 1
   by_cases h0:j=0
   ·subst h0
    obtain⟨w1,w2,w3,w4,w5⟩:=hs.wr (λz=>hj z.symm);exact cU hs.size hs.rd (by unfold dG;rw[hs.ops,e1]) e2 e3 (by rw[e4]) (by rw[e4]) (by rw[e4]) (by rw[e4]) w2 w1 |>.trans (cU rfl rfl rfl rfl rfl rfl rfl rfl rfl rfl rfl).symm
   ·exact dK h0 hs.size hs.rd (by unfold dG;rw[hs.ops,e1]) e2 e3 (hs.pl (j-1) (by omega)) (by rw[e4]) (by rw[e4]) (by rw[e4]) (by rw[e4]) e5 |>.trans (dK h0 rfl rfl rfl rfl rfl rfl rfl rfl rfl rfl rfl).symm
structure STwin (n k:Nat) (m:Mach SSt) (r:RS):Prop where
 s:m.s=bX r
 th:∀ i,i<k->m.th i=rB r i
 n:r.n=n
 ok:r.Ok
 ok2:r.Ok2
 done:∀ i,i<k->r.pc i=0->(r.ops i).length<=r.at_ i
theorem STwin.over {n:Nat}{m:Mach SSt}{r:RS}(h:STwin n n m r) {i:Nat}(hi:i<n):(m.th i).isOver=decide (r.pc i=0):=by
 rw[h.th i hi];unfold rB
 by_cases hp:r.pc i=0
 ·rw [if_pos hp];simp[Stg.isOver,hp]
 ·rw [if_neg hp]
  obtain⟨o,ho,_⟩:=h.ok.live i (by rw[h.n];exact hi) hp;rw[ho]
  simp[Stg.isOver,hp]
theorem STwin.go {n:Nat}{m:Mach SSt}{r:RS}(h:STwin n n m r) {i:Nat}(hi:i<n) (hp:r.pc i≠0):(∃ k,m.th i=.wait k/\k m.s≠.cut)/\STwin n n (m.go i) (r.does i):=by
 have hi':i<r.n:=by rw[h.n];exact hi
 obtain⟨o,ho,ha⟩:=h.ok.live i hi' hp;have hst:m.th i=.wait (gQ r i o):=by rw[h.th i hi];unfold rB;rw[if_neg hp,ho]
 have hss:=RS.same_stepA ha;have hn:(r.step i o).n=r.n:=hss.n;have hse:=RS.same_settle i (((r.step i o).ops i).length+1-(r.step i o).at_ i) (r.step i o);have hsame:=hss.trans hse;have hdo:r.does i=(r.step i o).settled i:=by unfold RS.does;rw[ho]
 have hok1:=h.ok.step hi' hp ho;have hset:=RS.settled_at (r.step i o) i;have hlen:((r.step i o).settled i).pc i=0->(((r.step i o).settled i).ops i).length<=((r.step i o).settled i).at_ i:=hset.2;have hk:gQ r i o m.s=cM ((r.step i o).settled i) i:=by rw[h.s,stree_step h.ok h.ok2 hi' ho ha,jN hok1 (by rw[hn];exact hi')]
 have hgo:m.go i=⟨bX ((r.step i o).settled i),Go.ConcN.upd m.th i (rB ((r.step i o).settled i) i)⟩:=by
  unfold Mach.go;rw[hst]
  show m.did i (gQ r i o m.s)=_
  rw[hk];exact pP hlen
 refine⟨⟨_,hst,by rw[hk];exact stree_ne hlen⟩,?_⟩;rw[hdo,hgo];refine⟨rfl,λj hj=>?_,by rw[show ((r.step i o).settled i).n=_ from hsame.n];exact h.n,hok1.settled (by rw[hn];exact hi'),RS.Ok2.settled hok1 (h.ok2.step h.ok.dn1 ho ha) (by rw[hn];exact hi'),λj hj hz=>?_⟩
 ·by_cases e:j=i
  ·subst e;exact Go.ConcN.upd_same _ _ _
  ·show Go.ConcN.upd m.th i _ j=_
   rw[Go.ConcN.upd_ne _ _ e,h.th j hj];exact(nE hsame e).symm
 ·by_cases e:j=i
  ·subst e;exact hlen hz
  ·obtain ⟨e1,e2,e3,e4,e5,e6⟩:=hsame.o j e
   show (((r.step i o).settle i (((r.step i o).ops i).length+1-(r.step i o).at_ i)).ops j).length<=((r.step i o).settle i (((r.step i o).ops i).length+1-(r.step i o).at_ i)).at_ j
   rw[hsame.ops,e1];exact h.done j hj (by rw[<-e3];exact hz)
section
variable {S:Type}{n most:Nat}
def gH (r n:Nat):List Int:=(List.range' r (n-r)).map λ(i:Nat)=>(i:Int)
theorem fromR_zero (n:Nat):gH 0 n=(List.range n).map λ(i:Nat)=>(i:Int):=by
 unfold gH;rw[List.range_eq_range',Nat.sub_zero]
theorem fromR_cons {r n:Nat}(h:r<n):gH r n=(r:Int)::gH (r+1) n:=by
 unfold gH;obtain⟨d,hd⟩:∃ d,n-r=d+1:=⟨n-r-1,by omega⟩;rw[hd,List.range'_succ,List.map_cons,show n-(r+1)=d from by omega]
theorem qK {r n:Nat}(h:n<=r):gH r n=[]:=by
 unfold gH;rw[show n-r=0 from by omega]
 rfl
theorem nB {c:Run S}{i:Int}(h:¬c.may n most i=true):c.turn n most i=c:=if_neg h
theorem may_iff {c:Run S}{i:Int}:c.may n most i=true ↔ 0<=i/\i<n/\(c.m.th i.toNat).isOver=false/\c.order.length≠most:=by
 unfold Run.may;simp only[Bool.and_eq_true,decide_eq_true_eq,Bool.not_eq_true',beq_eq_false_iff_ne,ne_eq]
 constructor
 ·rintro ⟨⟨⟨a,b⟩,c⟩,d⟩;exact⟨a,b,c,d⟩
 ·rintro ⟨a,b,c,d⟩;exact⟨⟨⟨a,b⟩,c⟩,d⟩
theorem left_zero {m:Mach S}:∀ {n:Nat},m.left n=0->∀ i,i<n->(m.th i).isOver=true
 | 0,_,i,hi=>absurd hi (Nat.not_lt_zero _)
 | n + 1,h,i,hi=>by
   simp only[Mach.left] at h
   by_cases e:i=n
   ·subst e
    cases ho:(m.th i).isOver with
    | true=>rfl
    | false=>simp[ho] at h
   ·exact left_zero (n:=n) (by omega) i (by omega)
theorem hU {c:Run S}(h:¬(0<c.m.left n/\c.order.length<most)) (ho:c.order.length<=most):∀ l:List Int,c.turns n most l=c
 | []=>rfl
 | x :: l=>by
   have hm:¬c.may n most x=true:=λhm=>by
    obtain⟨h1,h2,h3,h4⟩:=may_iff.1 hm
    have : c.m.left n=0:=by
     by_cases z:c.m.left n=0
     ·exact z
     ·exact absurd ⟨by omega,by omega⟩ h
    rw[left_zero this x.toNat (by omega)] at h3;cases h3
   show (c.turn n most x).turns n most l=c
   rw[nB hm];exact hU h ho l
def XR (n most f:Nat) (l:List Int) (r:Nat) (c:Run S):Run S:=((c.turns n most l).turns n most (gH r n)).rounds n most f
theorem lD {c:Run S}(h:¬(0<c.m.left n/\c.order.length<most)) (ho:c.order.length<=most) (f:Nat) (l:List Int) (r:Nat):XR n most f l r c=c:=by
 unfold XR;rw[hU h ho,hU h ho];exact dM h f
theorem lI {c:Run S}(ho:c.order.length<=most) (f:Nat):Run.rounds n most (f+1) c=XR n most f [] 0 c:=by
 by_cases h:0<c.m.left n/\c.order.length<most
 ·show (if 0<c.m.left n/\c.order.length<most then _ else _)=_
  rw[if_pos h];unfold XR;rw[fromR_zero]
  rfl
 ·rw [dM h,lD h ho]
theorem XR_cons (f:Nat) (x:Int) (l:List Int) (r:Nat) (c:Run S):XR n most f (x::l) r c=XR n most f l r (c.turn n most x):=rfl
theorem oT {r:Nat}(hr:r<n) (f:Nat) (c:Run S):XR n most f [] r c=((c.turn n most r).turns n most (gH (r+1) n)).rounds n most f:=by
 unfold XR;rw[fromR_cons hr]
 rfl
theorem rZ {e:Nat->Bool}{c:Run S}(he:∀ i,i<n->(c.m.th i).isOver=e i) (hord:c.order.length<most) {i0:Nat}(hi0:i0<n) (ha:e i0=false) :
  ∀ (F r f:Nat),r<n->TU.dist i0 n r<F->(most<=c.order.length+f\/(most<=c.order.length+f+1/\∃ j,r<=j/\j<n/\e j=false)) ->
    ∃ f',XR n most f [] r c=((c.turn n most (TU.next n e F r:Nat)).turns n most (gH (TU.next n e F r+1) n)).rounds n most f'/\most<=c.order.length+f'+1
 | 0,r,f,_,h,_=>by omega
 | F + 1,r,f,hr,hd,hJ=>by
   unfold TU.next;cases hc:e r with
   | false =>
     rw[if_neg (by simp)];exact⟨f,oT hr f c,by rcases hJ with h | ⟨h,_⟩ <;> omega⟩
   | true =>
     rw[if_pos rfl];have hne:r≠i0:=λz=>by rw[z,ha] at hc;cases hc
     have hds:=TU.dist_step hi0 hr hne
     have hno:c.turn n most r=c:=nB λhm=>by
      obtain⟨h1,h2,h3,h4⟩:=may_iff.1 hm;rw[Int.toNat_natCast,he r hr,hc] at h3;cases h3
     by_cases hl:r+1<n
     ·rw [Nat.mod_eq_of_lt hl] at hds ⊢
      have hx:XR n most f [] r c=XR n most f [] (r+1) c:=by
       rw[oT hr,hno]
       rfl
      rw[hx];refine rZ he hord hi0 ha F (r+1) f hl (by omega) ?_
      rcases hJ with h | ⟨h,j,hj1,hj2,hj3⟩
      ·exact .inl h
      ·refine .inr ⟨h,j,?_,hj2,hj3⟩
       have:j≠r:=λz=>by rw[z,hc] at hj3;cases hj3
       omega
     ·have er:r+1=n:=by omega
      rw[er,Nat.mod_self] at hds ⊢
      have hJ':most<=c.order.length+f:=by
       rcases hJ with h | ⟨h,j,hj1,hj2,hj3⟩
       ·exact h
       ·have : j≠r:=λz=>by rw[z,hc] at hj3;cases hj3
        omega
      obtain⟨g,rfl⟩:∃ g,f=g+1:=⟨f-1,by omega⟩
      have hx:XR n most (g+1) [] r c=XR n most g [] 0 c:=by
       rw[oT hr,hno,er,qK (Nat.le_refl _)];exact lI (c:=c) (by omega) g
      rw[hx];exact rZ he hord hi0 ha F 0 g (by omega) (by omega) (.inr ⟨by omega,i0,Nat.zero_le _,hi0,ha⟩)
end
theorem nK {n most:Nat}{e:Nat->Bool}{c:Run SSt}(he:∀ i,i<n->(c.m.th i).isOver=e i) (hord:c.order.length<most) (f r:Nat):∀ l:List Int,match TU.scan n e l with
  | (k,some t)=>(t:Int)<n/\e t=false/\XR n most f l r c=XR n most f (l.drop k) r (c.turn n most t)
  | (k,none)=>k=l.length/\XR n most f l r c=XR n most f [] r c
 | []=>⟨rfl,rfl⟩
 | x :: l=>by
   unfold TU.scan
   by_cases hm:TU.may n e x
   ·rw [if_pos hm]
    obtain⟨h1,h2,h3⟩:=hm;refine⟨by omega,h3,?_⟩;rw[XR_cons,show ((x.toNat:Nat):Int)=x from by omega]
    rfl
   ·rw [if_neg hm]
    have hno:c.turn n most x=c:=nB λh=>by
     obtain⟨h1,h2,h3,h4⟩:=may_iff.1 h;exact hm ⟨h1,h2,by rw[<-he x.toNat (by omega)];exact h3⟩
    have ih:=nK he hord f r l;rw[XR_cons,hno];cases hs:TU.scan n e l with
    | mk k o =>
      rw[hs] at ih;cases o with
      | some t=>exact⟨ih.1,ih.2.1,by rw[ih.2.2];rfl⟩
      | none=>exact⟨by simp[ih.1],ih.2⟩
structure RTwin (n:Nat) (c:Run SSt) (d:RR):Prop where
 m:STwin n n c.m d.m
 order:c.order=d.u.order
theorem RTwin.left {n:Nat}{c:Run SSt}{d:RR}(he:∀ i,i<n->(c.m.th i).isOver=d.m.ended i):∀ k,k<=n->c.m.left k=TU.left d.m.ended k
 | 0,_=>rfl
 | k+1,hk=>by
   simp only[Mach.left,TU.left];rw[RTwin.left he k (by omega),he k (by omega)]
theorem ended_is {n:Nat}{c:Run SSt}{d:RR}(h:RTwin n c d) (ok:d.Ok):∀ i,i<n->(c.m.th i).isOver=d.m.ended i:=λi hi=>by
 rw[h.m.over hi,(ok.st i (by rw[h.m.n];exact hi)).1]
 by_cases hp:d.m.pc i=0
 ·rw [decide_eq_true hp,decide_eq_true ((ok.st i (by rw[h.m.n];exact hi)).2 hp)]
 ·obtain ⟨o,ho,_⟩:=d.m |> λ_=>h.m.ok.live i (by rw[h.m.n];exact hi) hp
  have:=(List.getElem?_eq_some_iff.1 ho).1;rw[decide_eq_false hp,decide_eq_false (by omega)]
theorem RTwin.turn {n:Nat}{c:Run SSt}{d:RR}(h:RTwin n c d) (ok:d.Ok) {k:Nat}(hk:(d.u.pick d.m.n d.m.ended).2=some k) (hord:c.order.length<d.u.most):RTwin n (c.turn n d.u.most k) ⟨d.m.does k,(d.u.pick d.m.n d.m.ended).1⟩/\(c.turn n d.u.most k).order.length=c.order.length+1:=by
 obtain⟨h1,h2,h3⟩:=ok.turn hk;obtain⟨h4,h5⟩:=TU.pick_may ok.round hk;obtain⟨e1,e2,e3,e4,e5⟩:=TU.pick_keeps (e:=d.m.ended) ok.at_ ok.round;obtain⟨e6,e7⟩:=e5 k hk;rw[h.m.n] at h1;have hm:c.may n d.u.most (k:Int)=true:=may_iff.2 ⟨by omega,by omega,by rw[Int.toNat_natCast,ended_is h ok k h1];exact h5,by omega⟩
 have ht:c.turn n d.u.most (k:Int)=⟨c.m.go k,c.order++[(k:Int)]⟩:=by
  unfold Run.turn;rw[if_pos hm,Int.toNat_natCast]
 rw[ht];exact⟨⟨(h.m.go h1 h2).2,by show c.order++_=_;rw[e6,h.order]⟩,by simp⟩
theorem iB {n:Nat}:∀ (K:Nat) (c:Run SSt) (d:RR) (f:Nat),RTwin n c d->d.Ok->d.u.stuck=false->c.order.length<=d.u.most->d.u.most-c.order.length<K->(d.u.most<=c.order.length+f\/(d.u.most<=c.order.length+f+1/\d.u.round=0)) ->
  RTwin n (XR n d.u.most f (d.u.sched.drop d.u.at_) d.u.round c) (RR.run K d)/\(RR.run K d).u.stuck=decide (0<(XR n d.u.most f (d.u.sched.drop d.u.at_) d.u.round c).m.left n)
 | 0,c,d,f,_,_,_,_,h,_=>by omega
 | K + 1,c,d,f,h,ok,hst,hle,hK,hJ=>by
   have he:=ended_is h ok;have hn:=h.m.n;have hleft:=RTwin.left he n (Nat.le_refl _)
   by_cases h0:TU.left d.m.ended d.m.n=0
   ·have hp:d.u.pick d.m.n d.m.ended=(d.u,none):=if_pos h0
    rw[hn] at h0;rw[RR.run_over (by rw[hp]),hp,lD (by rw[hleft,h0];omega) hle,hst,hleft,h0];exact⟨h,rfl⟩
   by_cases h1:d.u.most<=d.u.order.length
   ·have hp:d.u.pick d.m.n d.m.ended=({ d.u with stuck:=true },none):=(if_neg h0).trans (if_pos h1)
    rw[hn] at h0;rw[RR.run_over (by rw[hp]),hp,lD (by rw[h.order];omega) hle,hleft];exact⟨⟨h.m,h.order⟩,by rw[decide_eq_true (by omega)]⟩
   rw[<-h.order] at h1;obtain⟨i0,hi0,ha0⟩:=TU.left_pos h0;rw[hn] at hi0;have hr:d.u.round<n:=by have:=ok.round;rw[hn] at this;omega
   have hsc:=nK he (show c.order.length<d.u.most by omega) f d.u.round (d.u.sched.drop d.u.at_);cases hs:TU.scan n d.m.ended (d.u.sched.drop d.u.at_) with
   | mk k o =>
     rw[hs] at hsc;cases o with
     | some t =>
       obtain⟨g1,g2,g3⟩:=hsc
       have hp:d.u.pick d.m.n d.m.ended=({ d.u with at_:=d.u.at_+k,order:=d.u.order++[(t:Int)] },some t):=by
        unfold TU.pick;rw[if_neg h0,if_neg (by rw[<-h.order];omega),hn];dsimp only;rw[hs]
       have hpk:(d.u.pick d.m.n d.m.ended).2=some t:=by rw[hp]
       obtain⟨k1,k2⟩:=h.turn ok hpk (by omega);have k3:=(ok.turn hpk).2.2;rw[RR.run_turn hpk];rw[hp] at k1 k3 ⊢;have ih:=iB K (c.turn n d.u.most t) ⟨d.m.does t,{ d.u with at_:=d.u.at_+k,order:=d.u.order++[(t:Int)] }⟩ f k1 k3 hst (by rw[k2];show _<=d.u.most;omega) (by rw[k2];show d.u.most-_<K;omega) (.inl (by rw[k2];show d.u.most<=_;rcases hJ with z | ⟨z,_⟩ <;> omega));rw[g3,List.drop_drop];exact ih
     | none =>
       obtain⟨g1,g3⟩:=hsc;obtain⟨q,hq⟩:∃ q,q=TU.next n d.m.ended n d.u.round:=⟨_,rfl⟩
       have hp:d.u.pick d.m.n d.m.ended=({ d.u with at_:=d.u.at_+k,round:=(q+1)%n,order:=d.u.order++[(q:Int)] },some q):=by
        unfold TU.pick;rw[if_neg h0,if_neg (by rw[<-h.order];omega),hn];dsimp only;rw[hs,<-hq]
       have hpk:(d.u.pick d.m.n d.m.ended).2=some q:=by rw[hp]
       obtain⟨k1,k2⟩:=h.turn ok hpk (by omega);obtain⟨hqn,-,k3⟩:=ok.turn hpk;rw[hn] at hqn;rw[RR.run_turn hpk]
       obtain ⟨f',x1,x2⟩:=rZ he (show c.order.length<d.u.most by omega) hi0 ha0 n d.u.round f hr (TU.dist_lt hi0 hr) (by
        rcases hJ with z | ⟨z,z2⟩
        ·exact .inl z
        ·exact .inr ⟨z,i0,by omega,hi0,ha0⟩)
       rw[<-hq] at x1;rw[hp] at k1 k3 ⊢;rw[g3,x1];have hdr:d.u.sched.drop (d.u.at_+k)=[]:=List.drop_of_length_le (by rw[g1,List.length_drop];have:=ok.at_;omega)
       have fin:∀ f2,((c.turn n d.u.most q).turns n d.u.most (gH (q+1) n)).rounds n d.u.most f'=XR n d.u.most f2 [] ((q+1)%n) (c.turn n d.u.most q)->(d.u.most<=c.order.length+1+f2\/(d.u.most<=c.order.length+1+f2+1/\(q+1)%n=0)) ->
         RTwin n (((c.turn n d.u.most q).turns n d.u.most (gH (q+1) n)).rounds n d.u.most f') (RR.run K ⟨d.m.does q,{ d.u with at_:=d.u.at_+k,round:=(q+1)%n,order:=d.u.order++[(q:Int)] }⟩)/\(RR.run K ⟨d.m.does q,{ d.u with at_:=d.u.at_+k,round:=(q+1)%n,order:=d.u.order++[(q:Int)] }⟩).u.stuck=decide (0<(((c.turn n d.u.most q).turns n d.u.most (gH (q+1) n)).rounds n d.u.most f').m.left n):=λf2 hx hJ2=>by
        have ih:=iB K (c.turn n d.u.most q) ⟨d.m.does q,{ d.u with at_:=d.u.at_+k,round:=(q+1)%n,order:=d.u.order++[(q:Int)] }⟩ f2 k1 k3 hst (by rw[k2];show _<=d.u.most;omega) (by rw[k2];show d.u.most-_<K;omega) (by rw[k2];exact hJ2);rw[hx];have hdr':List.drop (RR.u ⟨d.m.does q,{ d.u with at_:=d.u.at_+k,round:=(q+1)%n,order:=d.u.order++[(q:Int)] }⟩).at_ (RR.u ⟨d.m.does q,{ d.u with at_:=d.u.at_+k,round:=(q+1)%n,order:=d.u.order++[(q:Int)] }⟩).sched=[]:=hdr;rw[hdr'] at ih;exact ih
       by_cases hl:q+1<n
       ·refine fin f' ?_ (.inl (by omega))
        rw[Nat.mod_eq_of_lt hl]
        rfl
       ·have eq1:q+1=n:=by omega
        have hmod:(q+1)%n=0:=by rw[eq1,Nat.mod_self]
        have hx:(c.turn n d.u.most q).turns n d.u.most (gH (q+1) n)=c.turn n d.u.most q:=by rw[eq1,qK (Nat.le_refl _)];rfl
        cases f' with
        | zero =>
          refine fin 0 ?_ (.inl (by omega));rw[hx,hmod,lD (by omega) (by omega)]
          rfl
        | succ g =>
          refine fin g ?_ (.inr ⟨by omega,hmod⟩);rw[hx,hmod];exact lI (by omega) g
namespace RS
structure Fresh (m0 m:RS) (ops:Nat->List OpI) (k:Nat):Prop where
 n:m.n=k
 o:∀ j,m.pc j=0/\m.at_ j=0/\m.ans j=[]
 ops:∀ j,j<k->m.ops j=ops j
 e:m.size=m0.size/\m.rd=m0.rd/\m.S=m0.S/\m.V=m0.V/\m.cur=m0.cur/\m.num=m0.num/\m.next=m0.next/\m.cached=m0.cached/\m.done=m0.done/\m.place=m0.place/\m.X=m0.X
theorem fresh_born (a b:Nat) (ops:Nat->List OpI):∀ k,Fresh (bB a b) ((bB a b).born ops k) ops k
 | 0=>⟨rfl,λ_=>⟨rfl,rfl,rfl⟩,λj hj=>absurd hj (Nat.not_lt_zero _),⟨rfl,rfl,rfl,rfl,rfl,rfl,rfl,rfl,rfl,rfl,rfl⟩⟩
 | k + 1=>by
   have ih:=fresh_born a b ops k;have hk:=ih.n
   show Fresh _ (((bB a b).born ops k).hire (ops k)) ops (k+1)
   generalize (bB a b).born ops k=m at ih hk ⊢;refine⟨by show m.n+1=_;rw[hk],λj=>?_,λj hj=>?_,ih.e⟩
   ·obtain ⟨h1,h2,h3⟩:=ih.o j
    show Go.ConcN.upd m.pc m.n 0 j=0/\Go.ConcN.upd m.at_ m.n 0 j=0/\Go.ConcN.upd m.ans m.n [] j=[]
    by_cases e:j=m.n
    ·subst e;rw[Go.ConcN.upd_same,Go.ConcN.upd_same,Go.ConcN.upd_same];exact⟨rfl,rfl,rfl⟩
    ·rw [Go.ConcN.upd_ne _ _ e,Go.ConcN.upd_ne _ _ e,Go.ConcN.upd_ne _ _ e];exact⟨h1,h2,h3⟩
   ·show Go.ConcN.upd m.ops m.n (ops k) j=ops j
    rw[hk]
    by_cases e:j=k
    ·subst e;exact Go.ConcN.upd_same _ _ _
    ·rw [Go.ConcN.upd_ne _ _ e];exact ih.ops j (by omega)
end RS
theorem jZ {a b nt:Nat}{ops:Nat->List OpI}(h0:0<a) (h1:a<=65536) (hb:b<=64) (hn:nt<=64) (hl:∀ i,i<nt->(ops i).length<=65536) (ho:∀ i,i<nt->∀ o∈ops i,o.Fits) :
  ∀ k,k<=nt->(STwin nt k (Mach.born (brQ (doS (I0 a b)) ops) ⟨(soloZero,λ_=>[]),λ_=>.unborn⟩ k) (((bB a b).born ops nt).begun k)/\(∀ j,k<=j->(((bB a b).born ops nt).begun k).pc j=0/\(((bB a b).born ops nt).begun k).at_ j=0/\(((bB a b).born ops nt).begun k).ans j=[])/\(((bB a b).born ops nt).begun k).ops=((bB a b).born ops nt).ops/\(((bB a b).born ops nt).begun k).size=a/\(((bB a b).born ops nt).begun k).rd=b)/\∀ j,j<k->brQ (doS (I0 a b)) ops j (Mach.born (brQ (doS (I0 a b)) ops) ⟨(soloZero,λ_=>[]),λ_=>.unborn⟩ j).s≠.cut
 | 0,_=>by
   have hf:=RS.fresh_born a b ops nt;have hok:=RS.Ok.born (lR a b h0 h1 hb) rfl hn hl ho nt (Nat.le_refl _);refine⟨⟨⟨?_,λi hi=>absurd hi (Nat.not_lt_zero _),hf.n,hok,RS.ok2_pc (by have:=(hf.o 0).1;show ¬(((bB a b).born ops nt).pc 0=20\/((bB a b).born ops nt).pc 0=21\/((bB a b).born ops nt).pc 0=22);omega),λi hi=>absurd hi (Nat.not_lt_zero _)⟩,λj _=>hf.o j,rfl,hf.e.1,hf.e.2.1⟩,λj hj=>absurd hj (Nat.not_lt_zero _)⟩
   show (soloZero,λ_=>[])=bX ((bB a b).born ops nt)
   obtain⟨e1,e2,e3,e4,e5,e6,e7,e8,e9,e10,e11⟩:=hf.e;exact(eX e7 ((if_neg (by have:=(hf.o 0).1;omega)).trans e8) e9 e5 e6 e10 e3 e4 (funext λj=>(hf.o j).2.2)).symm
 | k + 1,hk=>by
   obtain⟨⟨ih,ia,io,i1,i2⟩,ib⟩:=jZ h0 h1 hb hn hl ho k (by omega);have hf:=RS.fresh_born a b ops nt
   show (STwin nt (k+1) ((Mach.born _ _ k).did k (brQ _ ops k (Mach.born _ _ k).s)) ((((bB a b).born ops nt).begun k).settled k)/\_)/\_
   have hbk:((bB a b).born ops nt).begun (k+1)=(((bB a b).born ops nt).begun k).settled k:=rfl;rw[hbk];generalize hm:Mach.born (brQ (doS (I0 a b)) ops) ⟨(soloZero,λ_=>[]),λ_=>.unborn⟩ k=m at ih ⊢;have hops:(((bB a b).born ops nt).begun k).ops k=ops k:=by rw[io];exact hf.ops k (by omega)
   clear hbk;generalize ((bB a b).born ops nt).begun k=r at ih ia io i1 i2 hops ⊢;obtain⟨a1,a2,a3⟩:=ia k (Nat.le_refl _);have hkn:k<r.n:=by rw[ih.n];omega
   have htree:brQ (doS (I0 a b)) ops k m.s=cM (r.settled k) k:=by
    rw[<-jN ih.ok hkn];unfold brQ cM;rw[ih.s,if_pos (show (bX r).2 k=[] from a3),if_pos a1,hops,a2,a3,i1,i2]
    rfl
   have hlen:(r.settled k).pc k=0->((r.settled k).ops k).length<=(r.settled k).at_ k:=(RS.settled_at r k).2;have hse:RS.Same k r (r.settle k ((r.ops k).length+1-r.at_ k)):=RS.same_settle k _ r;rw[htree,pP hlen];refine⟨⟨⟨rfl,λj hj=>?_,hse.n.trans ih.n,ih.ok.settled hkn,RS.Ok2.settled ih.ok ih.ok2 hkn,λj hj hz=>?_⟩,λj hj=>?_,hse.ops.trans io,hse.size.trans i1,hse.rd.trans i2⟩,λj hj=>?_⟩
   ·by_cases e:j=k
    ·subst e;exact Go.ConcN.upd_same _ _ _
    ·show Go.ConcN.upd m.th k _ j=_
     rw[Go.ConcN.upd_ne _ _ e,ih.th j (by omega)];exact(nE hse e).symm
   ·by_cases e:j=k
    ·subst e;exact hlen hz
    ·obtain ⟨e1,e2,e3,e4,e5,e6⟩:=hse.o j e
     show ((r.settle k ((r.ops k).length+1-r.at_ k)).ops j).length<=(r.settle k ((r.ops k).length+1-r.at_ k)).at_ j
     rw[hse.ops,e1];exact ih.done j (by omega) (by rw[<-e3];exact hz)
   ·have e:j≠k:=by omega
    obtain⟨e1,e2,e3,e4,e5,e6⟩:=hse.o j e;obtain⟨b1,b2,b3⟩:=ia j (by omega);exact⟨e3.trans b1,e1.trans b2,e2.trans b3⟩
   ·by_cases e:j=k
    ·subst e;rw[hm,htree];exact stree_ne hlen
    ·exact ib j (by omega)
def fO (a b nt:Nat) (ops:Nat->List OpI) (xs:List Int) (most:Int):RR:=⟨((bB a b).born ops nt).begun nt,⟨xs,0,0,(bA most 0 1048576).toNat,[],false⟩⟩
def gR (a b nt:Nat) (ops:Nat->List OpI) (xs:List Int) (most:Int):RR:=RR.run ((bA most 0 1048576).toNat+1) (fO a b nt ops xs most)
theorem oI {a b nt:Nat}{ops:Nat->List OpI}(h0:0<a) (h1:a<=65536) (hb:b<=64) (hn:nt<=64) (hl:∀ i,i<nt->(ops i).length<=65536) (ho:∀ i,i<nt->∀ o∈ops i,o.Fits) (xs:List Int) (most:Int):(fO a b nt ops xs most).Ok:=by
 have hok:=RS.Ok.born (lR a b h0 h1 hb) rfl hn hl ho nt (Nat.le_refl _);have:=RR.first hok xs most;rw[(RS.fresh_born a b ops nt).n] at this;exact this
theorem held_both (m:Int):(bA m 0 1048576).toNat=(cH m 1048576).toNat:=by
 unfold bA cH
 split
 ·omega
 ·split <;> omega
theorem runs_same12 {a b nt:Nat}{ops:Nat->List OpI}(h0:0<a) (h1:a<=65536) (hb:b<=64) (hn:nt<=64) (hl:∀ i,i<nt->(ops i).length<=65536) (ho:∀ i,i<nt->∀ o∈ops i,o.Fits) (xs:List Int) (most:Int) :
  RTwin nt (bI (brQ (doS (I0 a b)) ops) nt (cH most 1048576).toNat xs (soloZero,λ_=>[])) (gR a b nt ops xs most)/\(gR a b nt ops xs most).u.stuck=decide (0<(bI (brQ (doS (I0 a b)) ops) nt (cH most 1048576).toNat xs (soloZero,λ_=>[])).m.left nt):=by
 have htw:=(jZ h0 h1 hb hn hl ho nt (Nat.le_refl _)).1.1;have hok:=oI h0 h1 hb hn hl ho xs most;rw[<-held_both];have hrt:RTwin nt (⟨Mach.born (brQ (doS (I0 a b)) ops) ⟨(soloZero,λ_=>[]),λ_=>.unborn⟩ nt,[]⟩:Run SSt) (fO a b nt ops xs most):=⟨htw,rfl⟩;unfold gR bI;obtain⟨M,hM⟩:∃ M,M=(bA most 0 1048576).toNat:=⟨_,rfl⟩;have hu:(fO a b nt ops xs most).u.most=M:=hM.symm;rw[<-hM];have key:=iB (M+1) _ _ (M-1) hrt hok rfl (Nat.zero_le _) (by rw[hu];show M-0<M+1;omega) (.inr ⟨by rw[hu];show M<=0+(M-1)+1;omega,rfl⟩);rw[hu] at key
 have e:((⟨Mach.born (brQ (doS (I0 a b)) ops) ⟨(soloZero,λ_=>[]),λ_=>.unborn⟩ nt,[]⟩:Run SSt).turns nt M xs).rounds nt M M=XR nt M (M-1) (List.drop (fO a b nt ops xs most).u.at_ (fO a b nt ops xs most).u.sched) (fO a b nt ops xs most).u.round ⟨Mach.born (brQ (doS (I0 a b)) ops) ⟨(soloZero,λ_=>[]),λ_=>.unborn⟩ nt,[]⟩:=by
  show _=XR nt M (M-1) xs 0 _
  have hle:=(eC (n:=nt) (most:=M) xs (c:=(⟨Mach.born (brQ (doS (I0 a b)) ops) ⟨(soloZero,λ_=>[]),λ_=>.unborn⟩ nt,[]⟩:Run SSt)) (Nat.zero_le _)).1;have hx:∀ c:Run SSt,XR nt M (M-1) xs 0 c=XR nt M (M-1) [] 0 (c.turns nt M xs):=λ_=>rfl;rw[hx];generalize Run.turns nt M _ xs=C at hle ⊢;cases M with
  | zero =>
    rw[lD (by omega) hle];exact dM (by omega) _
  | succ M=>exact lI hle M
 rw[e];exact key
theorem solo_soundA {a b nt:Nat}{ops:Nat->List OpI}(h0:0<a) (h1:a<=65536) (hb:b<=64) (hn:nt<=64) (hl:∀ i,i<nt->(ops i).length<=65536) (ho:∀ i,i<nt->∀ o∈ops i,o.Fits):oV (brQ (doS (I0 a b)) ops) nt (soloZero,λ_=>[]):=by
 obtain⟨⟨htw,-⟩,hb'⟩:=jZ h0 h1 hb hn hl ho nt (Nat.le_refl _);refine⟨λm=>∃ r,STwin nt nt m r,⟨λm i k ⟨r,h⟩ hi hk=>?_⟩,hb',⟨_,htw⟩⟩
 have hp:r.pc i≠0:=λz=>by
  have:=h.over hi;rw[hk,decide_eq_true z] at this
  simp[Stg.isOver] at this
 obtain⟨⟨k',q1,q2⟩,q3⟩:=h.go hi hp;rw[hk] at q1;cases q1;refine⟨q2,r.does i,?_⟩;have:m.go i=m.did i (k m.s):=by unfold Mach.go;rw[hk]
 rw[<-this];exact q3
end Go.Proofs.Ytlcplealnbekeaa
namespace Go.Proofs.Ytlcplealnbekeaa
open Go.RowKit Go.Turn
theorem lQ (a b:Nat) (ops:Nat->List OpI):∀ k j,((bB a b).born ops k).N j=(λ_=>0)/\((bB a b).born ops k).L j=[]/\((bB a b).born ops k).ended j=false
 | 0,j=>⟨rfl,rfl,rfl⟩
 | k+1,j=>by
   obtain⟨h1,h2,h3⟩:=lQ a b ops k j
   show Go.ConcN.upd ((bB a b).born ops k).N ((bB a b).born ops k).n (λ_=>0) j=_/\Go.ConcN.upd ((bB a b).born ops k).L ((bB a b).born ops k).n [] j=_/\Go.ConcN.upd ((bB a b).born ops k).ended ((bB a b).born ops k).n false j=_
   by_cases e:j=((bB a b).born ops k).n
   ·subst e;rw[Go.ConcN.upd_same,Go.ConcN.upd_same,Go.ConcN.upd_same];exact⟨rfl,rfl,rfl⟩
   ·rw [Go.ConcN.upd_ne _ _ e,Go.ConcN.upd_ne _ _ e,Go.ConcN.upd_ne _ _ e];exact⟨h1,h2,h3⟩
def Rt.isTh:Rt->Bool
 | .T=>true
 | .th _=>true
 | .op _=>true
 | _=>false
theorem Mems.join {B:Nat}{R1 R2:Rt->Option Row}{w2 w3:World}(p:Rt->Bool) (h1:Mems B R1 w2) (hb:Below w2.heap.size w2 w3) (h2:Mems w2.heap.size R2 w3) (hB:B<=w2.heap.size):Mems B (λr=>if p r then R2 r else R1 r) w3:=by
 obtain⟨l1,k1⟩:=h1.ex;obtain⟨l2,k2⟩:=h2.ex;refine⟨λb=>if b<w2.heap.size then l1 b else l2 b,λr d hr=>?_⟩;cases hp:p r with
 | true =>
   rw[hp,if_pos rfl] at hr;obtain⟨a1,a2⟩:=k2 r d hr;refine⟨?_,λb hb'=>?_⟩
   ·have a3:=a1
    unfold Row.At at a3 ⊢;exact eD a3 hB
   ·exact (if_neg (by have:=(h2.lt hr hb').1;omega)).trans (a2 b hb')
 | false =>
   rw[hp,if_neg (by simp)] at hr;obtain⟨a1,a2⟩:=k1 r d hr;refine⟨a1.same λb hb'=>hb.block b (h1.lt hr hb').2,λb hb'=>?_⟩;exact(if_pos (h1.lt hr hb').2).trans (a2 b hb')
def kU (W:Nw->Value) (VT:Value) (VO:Nat->Value):Rt->Value
 | .S=>W .S
 | .V=>W .V
 | .Nu=>W .Nu
 | .Pl=>W .Pl
 | .T=>VT
 | .op i=>VO i
 | _=>nilS
theorem joined12 {B mb a b nt:Nat}{tb:Nat->Nat}{W:Nw->Value}{VT:Value}{VO:Nat->Value}{ops:Nat->List OpI}{w2 w3:World}(hM:Mems B (aY mb tb (bB a b) (nwV W)) w2) (hb:Below w2.heap.size w2 w3) (hT:Mems w2.heap.size (cR nt nt tb VT VO ops) w3) (hB:B<=w2.heap.size) :
  Mems B (aY mb tb ((bB a b).born ops nt) (kU W VT VO)) (w3.setCell ⟨mb,9,none⟩ VT):=by
 have hj:=Mems.join Rt.isTh hM hb hT hB;have hf:=RS.fresh_born a b ops nt;obtain⟨e1,e2,e3,e4,e5,e6,e7,e8,e9,e10,e11⟩:=hf.e
 have h1:Mems B (bW nt mb tb (bxF (bB a b) (nwV W)) (λi=>tzF (VO i)) (λr=>if r.isTh then cR nt nt tb VT VO ops r else aY mb tb (bB a b) (nwV W) r)) w3:=by
  refine hj.eqv λr d hr=>.inl ⟨d.f,?_,λ_ _=>rfl⟩;cases r with
  | box=>exact hr
  | th i=>exact hr
  | _=>exact hr
 refine gD (gsetB h1 9 VT) hf.n (λk hk=>?_) (λi k hi hk=>?_) λr h1 h2 d' hd=>?_
 ·rcases k with _ | _ | _ | _ | _ | _ | _ | _ | _ | _ | _ | k <;> first | omega |(simp[Go.ConcN.upd,bxF,e1,e2,e5,e7,e8,e9];rfl) |(simp[Go.ConcN.upd,bxF,kU,nwV,e1,e2,e5,e7,e8,e9];done)
 ·obtain ⟨z1,z2,z3⟩:=lQ a b ops nt i
  obtain⟨z4,z5,z6⟩:=hf.o i
  rcases k with _ | _ | _ | _ | _ | _ | _ | _ | _ | _ | _ | _ | _ | _ | k <;> first | omega |(simp[tzF,tdF,kU,z1,z3,z4,z5,nilS];done)
 ·cases r with
  | S=>exact .inl ⟨d'.f,by rw[<-hd];simp[Rt.isTh,aY,bW,bQ,e1,e3,kU,nwV],λ_ _=>rfl⟩
  | V=>exact .inl ⟨d'.f,by rw[<-hd];simp[Rt.isTh,aY,bW,bQ,e1,e4,kU,nwV],λ_ _=>rfl⟩
  | Nu=>exact .inl ⟨d'.f,by rw[<-hd];simp[Rt.isTh,aY,bW,bQ,e2,e6,kU,nwV],λ_ _=>rfl⟩
  | Pl=>exact .inl ⟨d'.f,by rw[<-hd];simp[Rt.isTh,aY,bW,bQ,e2,e10,kU,nwV],λ_ _=>rfl⟩
  | T=>exact .inl ⟨d'.f,by rw[<-hd];simp[Rt.isTh,cR,bQ,hf.n,kU],λ_ _=>rfl⟩
  | op i =>
    by_cases hi:i<nt
    ·exact .inl ⟨d'.f,by rw[<-hd];simp[Rt.isTh,cR,bQ,hf.n,kU,hi,hf.ops i hi],λ_ _=>rfl⟩
    ·simp [bQ,hf.n,hi] at hd
  | ans i =>
    by_cases hi:i<nt
    ·simp only [bQ,hf.n,if_pos hi,(hf.o i).2.2,Option.some.injEq] at hd
     subst hd;exact .inr ⟨rfl,rfl⟩
    ·simp [bQ,hf.n,hi] at hd
  | L i =>
    by_cases hi:i<nt
    ·simp only [bQ,hf.n,if_pos hi,(lQ a b ops nt i).2.1,Option.some.injEq] at hd
     subst hd;exact .inr ⟨rfl,rfl⟩
    ·simp [bQ,hf.n,hi] at hd
  | ls i k =>
    by_cases hi:i<nt
    ·simp [bQ,hf.n,hi,(hf.o i).2.2] at hd
    ·simp [bQ,hf.n,hi] at hd
  | ext k =>
    have hd:((bB a b).born ops nt).X k=some d':=hd;rw[e11] at hd;cases hd
  | box=>exact absurd rfl h2
  | th i=>exact absurd rfl (h1 i)
def Rt.isExt:Rt->Bool
 | .ext _=>true
 | _=>false
theorem turn_in {B mb:Nat}{tb:Nat->Nat}{st:RS}{V:Rt->Value}{w w':World}{vs:Value}{xs:List Int}{most:Int}(h:Mems B (aY mb tb st V) w) (hB:B<=w.heap.size) (hb:Blk w' w.heap.size 120 #[vs,.int .i64 0,.int .i64 0,.int .i64 (bA most 0 1048576),.slice none 0 0,.bool false])
  (hown:w'.ownsRow w.heap.size 3 1 vs xs.length (xs.map (Value.int .i64))) (bw:Below w.heap.size w w'):dS B mb tb st V w.heap.size vs nilS ⟨xs,0,0,(bA most 0 1048576).toNat,[],false⟩ (λ_=>none) w':=by
 obtain⟨u,hu⟩:∃ u:TU,u=⟨xs,0,0,(bA most 0 1048576).toNat,[],false⟩:=⟨_,rfl⟩
 have hm:((u.most:Nat):Int)=bA most 0 1048576:=by
  have:=(RS.held3_bd most 0 1048576 (by omega)).1;rw[hu]
  show (((bA most 0 1048576).toNat:Nat):Int)=_
  omega
 have hne:=fZ hown hb (by decide);have hlt:=λb hb'=>(own_lt hown (b:=b) hb').1
 have h2:Mems w.heap.size (λr:Rt=>match r with | .ext k=>xU w.heap.size vs nilS u (λ_=>none) k | _=>none) w':=by
  refine⟨λb=>if b=w.heap.size then some (.ext 0) else some (.ext 1),λr d hr=>?_⟩;cases r with
  | ext k =>
    rcases k with _ | _ | _ | k
    ·cases hr
     refine⟨⟨by simp[aK],.inr ⟨w.heap.size,1,_,rfl,Nat.le_refl _,hb,Nat.le_refl _,(by show 1<=maxLen;unfold maxLen;omega),rfl,?_⟩⟩,λb hb'=>?_⟩
     ·show [vs,.int .i64 0,.int .i64 0,.int .i64 (bA most 0 1048576),.slice none 0 0,.bool false]=aK 6 (tuF vs nilS u)
      rw[<-hm,hu]
      rfl
     ·simp [Value.ownBlock] at hb'
      exact if_pos hb'.symm
    ·cases hr
     refine⟨?_,λb hb'=>if_neg (hne b hb')⟩;unfold Row.At fI;have e:u.sched=xs:=by rw[hu]
     simp only[e,Nat.mul_one]
     have : aK xs.length (λj=>(.int .i64 (xs.getD j 0):Value))=xs.map (Value.int .i64):=by
      apply List.ext_getElem (by simp[aK]);intro i h1 h2
      simp[aK,List.getD_eq_getElem?_getD] at h1 ⊢
      rw[List.getElem?_eq_getElem h1]
      rfl
     rw[this];exact hown
    ·cases hr
     exact⟨⟨by simp[aK,fI,hu],.inl ⟨rfl,by rw[hu];rfl⟩⟩,λb hb'=>by cases hb'⟩
    ·cases hr
  | _=>cases hr
 have hj:=Mems.join Rt.isExt h bw h2 hB;unfold dS;rw[<-hu];refine hj.mono λr d hr=>?_;cases r with
 | ext k=>exact hr
 | _=>exact hr
end Go.Proofs.Ytlcplealnbekeaa
namespace Go.Proofs.Ytlcplealnbekeaa
open Go.RowKit Go.Turn
open Go.ConcN (upd upd_ne upd_same)
theorem Try.infoSt:(Try.prog.info? 2).map (λi=>(i.zero,i.size,i.bytes))=some (some (.int .i64 0),1,8):=by kernel_rfl
def RS.stateC (m:RS):List Value:=.int .i64 m.next::.int .i64 m.cur::(aK m.rd (λj=>.int .i64 (m.num j))++(aK m.size (λj=>.int .i64 (m.S j))++aK m.size (λj=>.int .i64 (m.V j))))
theorem own_two12 (w:World) (a b:Int) (base:Nat) (hb:base<=w.heap.size):(w.alloc (.cells #[.int .i64 a,.int .i64 b] 2)).ownsRow base 2 1 (.slice (some ⟨w.heap.size,0,none⟩) 2 2) 2 [.int .i64 a,.int .i64 b]:=
 ⟨rfl,.inr ⟨w.heap.size,2,#[.int .i64 a,.int .i64 b],rfl,hb,Blk.new w _ _,by omega,by unfold maxLen;omega,rfl,rfl⟩⟩
section
variable {B mb:Nat}{tb:Nat->Nat}{st:RS}{V:Rt->Value}{w w':World}{i:Nat}
theorem state12_ok (h:Mems B (aY mb tb st V) w) (hs:0<st.size) (hs1:st.size<=65536) (hr:st.rd<=64):Calls Try.prog 29 #[.pointer (some ⟨mb,0,none⟩)] w λx w'=>(∃ v,x=.returned v/\w'.ownsRow w.heap.size 2 1 v (2+st.rd+st.size+st.size) st.stateC)/\Below w.heap.size w w':=by
 have t5:w.cell? ⟨mb,5,none⟩=some (.int .i64 st.next):=bD h 5 (by omega);have t3:w.cell? ⟨mb,3,none⟩=some (.int .i64 st.cur):=bD h 3 (by omega);have HT0:=qd t5;have HT1:=qd t3;clear t5 t3;have HM:=qd h;clear h
 go_enter Try.func29,Try.ntmps29
 go_wp2;rename_i K0 hK0;refine bV (S:=Kept (λ_=>False) w) 9 (by kernel_rfl) (by kernel_rfl) (by kernel_rfl) ?_;simp only[idle,zB,Nat.reduceAdd];have HS:=qd (Kept.drewN (λ_=>False) w 1)
 iterate 8
  with_reducible first | refine rdL 0 9 4 ?_ | refine rdL 1 8 5 ?_ | refine rdL 2 7 6 ?_ | refine rdL 3 6 7 ?_ | refine rdL 4 5 8 ?_ | refine rdL 5 4 9 ?_ | refine rdL 6 3 10 ?_ | refine rdL 7 2 11 ?_
  refine⟨_,rfl,rfl,by kernel_rfl,by kernel_rfl,by kernel_rfl,(λc a w h=>h),rfl,HS.out,?_⟩;apply Exists.intro;refine⟨λwq hw=>?_,?_⟩
  ·have q0:=cY HT0.out hw id
   have q1:=cY HT1.out hw id;go_simp
   rfl
  simp only[Act.put,zA]
 have hk8:=HS.out.trans (Kept.alloc (S:=λ_=>False) w.drew (.cells #[.int .i64 st.next,.int .i64 st.cur] 2));refine cW (i:=8) (fuel:=1) (by kernel_rfl) rfl rfl λK' hK'=>?_;unfold Oper.wp;go_simp;refine hK' _ _ hk8 ?_;clear hK' K';have HKW:=qd hk8;clear hk8
 try simp only[Act.put,zA]
 have how:=(own_two12 w st.next st.cur w.heap.size (Nat.le_refl _)).drew;have bw:Below w.heap.size w (w.alloc (.cells #[.int .i64 st.next,.int .i64 st.cur] 2)).drew:=Below.drewN ((Below.refl _ w).alloc (Nat.le_refl _) _) 1;have HX:=qd (And.intro how bw);clear how bw;refine cW (i:=9) (fuel:=0) (by kernel_rfl) rfl rfl λK' hK'=>?_;unfold Oper.wp;go_simp;refine hK' _ _ HKW.out ?_;clear hK' K' HKW HS HT0 HT1
 try simp only[Act.put,zA]
 refine wpAnyH_done (by kernel_rfl) ?_ _;simp only[Exit.then];refine aX (m:=9) rfl ?_;generalize (w.alloc (.cells #[.int .i64 st.next,.int .i64 st.cur] 2)).drew=w1 at *;generalize hwz:w.heap.size=wz at *;have HWZ:=qd hwz;clear hwz;obtain⟨i0,hi0,hz0,hz1,hz2⟩:=info_parts Try.infoSt;have hM:=HM.out.same λb hb=>HX.out.2.block b (by rw[<-HWZ.out];exact hb);have t4:w1.cell? ⟨mb,4,none⟩=some (V .Nu):=bD hM 4 (by omega);have hNu:=hM.at_ (r:=.Nu) (d:=⟨2,1,V .Nu,st.rd,λj=>.int .i64 (st.num j)⟩) rfl;unfold Row.At at hNu;simp only[Nat.mul_one] at hNu
 rcases hNu.2 with⟨e0,n0⟩ | ⟨g,cap,cur,e0,-⟩
 ·rw [e0] at t4
  have HE:=qd (And.intro e0 n0);clear hNu e0 n0;clear hM;have hx2:w1.ownsRow wz 2 1 (.slice (some ⟨wz,0,none⟩) 2 2) (2+st.rd) ([.int .i64 st.next,.int .i64 st.cur]++aK st.rd (λj=>.int .i64 (st.num j))):=by rw[HE.out.2];simpa [aK] using HX.out.1
  have HX2:=qd (And.intro hx2 HX.out.2);clear hx2;have hM:=HM.out.same λb hb=>HX2.out.2.block b (by rw[<-HWZ.out];exact hb);obtain⟨g,cap,e0,e1,e2⟩:=bS hM (r:=.S) (e:=2) (sz:=1) (v:=V .S) (n:=st.size) (f:=λj=>.int .i64 (st.S j)) rfl hs;have tm:w1.cell? ⟨mb,1,none⟩=some (V .S):=bD hM 1 (by omega);have hRw:=hM.at_ (r:=.S) (d:=⟨2,1,V .S,st.size,λj=>.int .i64 (st.S j)⟩) rfl;unfold Row.At at hRw;simp only[Nat.mul_one] at hRw;rw[e0] at tm hRw;have HRW:=qd hRw;clear hRw e0 hM e1 e2
  go_wp2_with (at_builtin;first |(refine wpList_append_own_none rfl _ _ 29 rfl wz 2 i0 1 Try.underlying29 hi0 _ _ _ rfl HX.out.1 rfl ?_) |(refine wpList_append_own _ rfl _ _ 29 rfl wz 2 i0 (.int .i64 0) 1 8 Try.underlying29 hi0 hz0 hz1 hz2 rfl (by decide) _ (2+st.rd) _ rfl HX2.out.1 ⟨g,0,none⟩ st.size cap (aK st.size (λj=>.int .i64 (st.S j))) rfl (by simp[aK]) (dJ HRW.out) (by intro u hu;simp only[aK,List.mem_map] at hu;obtain⟨_,_,rfl⟩:=hu;rfl) ?c3 ?c4 ?c5 ?_))
  case c3=>unfold maxLen;omega
  case c4=>omega
  case c5=>have:=HX2.out.2.size;have:=HWZ.out;omega
  intro v2 w2 hown hgrow hgl;have HO:=qd (And.intro hown (HX2.out.2.grown hgrow (by have:=HX2.out.2.size;have:=HWZ.out;omega) (λk hk=>(HX2.out.1.lt k hk).1)));clear hown hgrow hgl HRW tm;obtain⟨A2,c2,rfl⟩:=aQ HO.out.1;clear HX HX2 t4;have HX3:=HO;clear HO;have hM:=HM.out.same λb hb=>HX3.out.2.block b (by rw[<-HWZ.out];exact hb);obtain⟨g,cap,e0,e1,e2⟩:=bS hM (r:=.V) (e:=2) (sz:=1) (v:=V .V) (n:=st.size) (f:=λj=>.int .i64 (st.V j)) rfl hs;have tm:w2.cell? ⟨mb,2,none⟩=some (V .V):=bD hM 2 (by omega);have hRw:=hM.at_ (r:=.V) (d:=⟨2,1,V .V,st.size,λj=>.int .i64 (st.V j)⟩) rfl;unfold Row.At at hRw;simp only[Nat.mul_one] at hRw;rw[e0] at tm hRw;have HRW:=qd hRw;clear hRw e0 hM e1 e2
  go_wp2_with (at_builtin;refine wpList_append_own _ rfl _ _ 29 rfl wz 2 i0 (.int .i64 0) 1 8 Try.underlying29 hi0 hz0 hz1 hz2 rfl (by decide) _ (2+st.rd+st.size) _ rfl HX3.out.1 ⟨g,0,none⟩ st.size cap (aK st.size (λj=>.int .i64 (st.V j))) rfl (by simp[aK]) (dJ HRW.out) (by intro u hu;simp only[aK,List.mem_map] at hu;obtain⟨_,_,rfl⟩:=hu;rfl) ?c3 ?c4 ?c5 ?_)
  case c3=>unfold maxLen;omega
  case c4=>omega
  case c5=>have:=HX3.out.2.size;have:=HWZ.out;omega
  intro v3 w3 hown hgrow hgl;have HO:=qd (And.intro hown (HX3.out.2.grown hgrow (by have:=HX3.out.2.size;have:=HWZ.out;omega) (λk hk=>(HX3.out.1.lt k hk).1)));clear hown hgrow hgl HRW tm;obtain⟨A3,c3,rfl⟩:=aQ HO.out.1;go_wp2;go_ret;rw[HWZ.out];exact⟨⟨_,rfl,HO.out.1⟩,HO.out.2⟩
 ·rw [e0] at t4 hNu
  have HRW:=qd hNu;clear hNu e0 hM;have tm:=t4;clear t4
  go_wp2_with (at_builtin;refine wpList_append_own _ rfl _ _ 29 rfl wz 2 i0 (.int .i64 0) 1 8 Try.underlying29 hi0 hz0 hz1 hz2 rfl (by decide) _ (2) _ rfl HX.out.1 ⟨g,0,none⟩ st.rd cap (aK st.rd (λj=>.int .i64 (st.num j))) rfl (by simp[aK]) (dJ HRW.out) (by intro u hu;simp only[aK,List.mem_map] at hu;obtain⟨_,_,rfl⟩:=hu;rfl) ?c3 ?c4 ?c5 ?_)
  case c3=>unfold maxLen;omega
  case c4=>omega
  case c5=>have:=HX.out.2.size;have:=HWZ.out;omega
  intro v1 w4 hown hgrow hgl;have HO:=qd (And.intro hown (HX.out.2.grown hgrow (by have:=HX.out.2.size;have:=HWZ.out;omega) (λk hk=>(HX.out.1.lt k hk).1)));clear hown hgrow hgl HRW tm;obtain⟨A1,c1,rfl⟩:=aQ HO.out.1;have HX2:=HO;clear HO HX;have hM:=HM.out.same λb hb=>HX2.out.2.block b (by rw[<-HWZ.out];exact hb);obtain⟨g,cap,e0,e1,e2⟩:=bS hM (r:=.S) (e:=2) (sz:=1) (v:=V .S) (n:=st.size) (f:=λj=>.int .i64 (st.S j)) rfl hs;have tm:w4.cell? ⟨mb,1,none⟩=some (V .S):=bD hM 1 (by omega);have hRw:=hM.at_ (r:=.S) (d:=⟨2,1,V .S,st.size,λj=>.int .i64 (st.S j)⟩) rfl;unfold Row.At at hRw;simp only[Nat.mul_one] at hRw;rw[e0] at tm hRw;have HRW:=qd hRw;clear hRw e0 hM e1 e2
  go_wp2_with (at_builtin;refine wpList_append_own _ rfl _ _ 29 rfl wz 2 i0 (.int .i64 0) 1 8 Try.underlying29 hi0 hz0 hz1 hz2 rfl (by decide) _ (2+st.rd) _ rfl HX2.out.1 ⟨g,0,none⟩ st.size cap (aK st.size (λj=>.int .i64 (st.S j))) rfl (by simp[aK]) (dJ HRW.out) (by intro u hu;simp only[aK,List.mem_map] at hu;obtain⟨_,_,rfl⟩:=hu;rfl) ?c3 ?c4 ?c5 ?_)
  case c3=>unfold maxLen;omega
  case c4=>omega
  case c5=>have:=HX2.out.2.size;have:=HWZ.out;omega
  intro v2 w2 hown hgrow hgl;have HO:=qd (And.intro hown (HX2.out.2.grown hgrow (by have:=HX2.out.2.size;have:=HWZ.out;omega) (λk hk=>(HX2.out.1.lt k hk).1)));clear hown hgrow hgl HRW tm;obtain⟨A2,c2,rfl⟩:=aQ HO.out.1;have HX3:=HO;clear HO;have hM:=HM.out.same λb hb=>HX3.out.2.block b (by rw[<-HWZ.out];exact hb);obtain⟨g,cap,e0,e1,e2⟩:=bS hM (r:=.V) (e:=2) (sz:=1) (v:=V .V) (n:=st.size) (f:=λj=>.int .i64 (st.V j)) rfl hs;have tm:w2.cell? ⟨mb,2,none⟩=some (V .V):=bD hM 2 (by omega);have hRw:=hM.at_ (r:=.V) (d:=⟨2,1,V .V,st.size,λj=>.int .i64 (st.V j)⟩) rfl;unfold Row.At at hRw;simp only[Nat.mul_one] at hRw;rw[e0] at tm hRw;have HRW:=qd hRw;clear hRw e0 hM e1 e2
  go_wp2_with (at_builtin;refine wpList_append_own _ rfl _ _ 29 rfl wz 2 i0 (.int .i64 0) 1 8 Try.underlying29 hi0 hz0 hz1 hz2 rfl (by decide) _ (2+st.rd+st.size) _ rfl HX3.out.1 ⟨g,0,none⟩ st.size cap (aK st.size (λj=>.int .i64 (st.V j))) rfl (by simp[aK]) (dJ HRW.out) (by intro u hu;simp only[aK,List.mem_map] at hu;obtain⟨_,_,rfl⟩:=hu;rfl) ?c3 ?c4 ?c5 ?_)
  case c3=>unfold maxLen;omega
  case c4=>omega
  case c5=>have:=HX3.out.2.size;have:=HWZ.out;omega
  intro v3 w3 hown hgrow hgl;have HO:=qd (And.intro hown (HX3.out.2.grown hgrow (by have:=HX3.out.2.size;have:=HWZ.out;omega) (λk hk=>(HX3.out.1.lt k hk).1)));clear hown hgrow hgl HRW tm;obtain⟨A3,c3,rfl⟩:=aQ HO.out.1;go_wp2;go_ret;rw[HWZ.out];exact⟨⟨_,rfl,HO.out.1⟩,HO.out.2⟩
end
end Go.Proofs.Ytlcplealnbekeaa
namespace Go.Proofs.Ytlcplealnbekeaa
open Go.RowKit Go.Turn
theorem iS {w w':World}{base:Nat}{e:TypeId}{size n:Nat}{v:Value}{xs:List Value}(h:w.ownsRow base e size v n xs) (hs:∀ b,base<=b->b<w.heap.size->w'.heap[b]?=w.heap[b]?):w'.ownsRow base e size v n xs:=
 bT h λb hb=>by
  obtain⟨k1,k2,_⟩:=own_lt h hb;exact hs b k1 k2
theorem Mems.up12 {ρ:Type} [DecidableEq ρ] {B:Nat}{R:ρ->Option Row}{w w':World}(h:Mems B R w) (hs:∀ b,B<=b->b<w.heap.size->w'.heap[b]?=w.heap[b]?):Mems B R w':=by
 obtain⟨lab,k⟩:=h.ex;exact⟨lab,λr d hr=>⟨iS (k r d hr).1 hs,(k r d hr).2⟩⟩
theorem qO (l:List Int):aK l.length (λj=>(.int .i64 (l.getD j 0):Value))=l.map (Value.int .i64):=by
 apply List.ext_getElem (by simp[aK]);intro i h1 h2
 simp[aK,List.getD_eq_getElem?_getD] at h1 ⊢
 rw[List.getElem?_eq_getElem h1]
 rfl
theorem stateC_map (m:RS) {a b:Nat}(ha:m.size=a) (hb:m.rd=b):m.stateC=(fE (I0 a b) (bX m).1).map (Value.int .i64):=by
 subst ha hb;unfold RS.stateC fE dN fL aK;simp only[List.map_append,List.map_cons,List.map_nil,List.map_map,List.cons_append,List.nil_append,List.append_assoc]
 rfl
section
variable {mb ub n a b:Nat}{tb:Nat->Nat}{m:RS}{V:Rt->Value}{vs vo:Value}{u:TU}{Y:Nat->Option Row}{w:World}
theorem answers12 (h:dS mb mb tb m V ub vs vo u Y w) {i:Nat}(hi:i<m.n):AnsAt w (V (.ans i)) (m.ans i)/\(m.ans i).length<=maxLen:=by
 have hr:aY mb tb { m with X:=xU ub vs vo u Y } V (.ans i)=some ⟨48,3,V (.ans i),(m.ans i).length,cJ 3 (anF V i (m.ans i))⟩:=by
  show (if i<m.n then some _ else none)=_
  rw[if_pos hi]
 have hat:=Mems.at_ h hr;refine⟨?_,fN hat⟩;obtain⟨A,c,hv⟩:=cB h hr;refine⟨A,c,hv,λk hk=>?_⟩;obtain⟨g,c',e,_,_⟩:=bS h hr (by omega);have hr':=hr;rw[e] at hr'
 have key:∀ j,j<3->w.cell? ⟨g,k*3+j,none⟩=some (anF V i (m.ans i) k j):=λj hj=>by
  have:=Mems.cell h hr' (j:=k*3+j) (by show k*3+j<(m.ans i).length*3;omega);rw[this,jH hj]
 have hl:aY mb tb { m with X:=xU ub vs vo u Y } V (.ls i k)=some (dL (V (.ls i k)) ((m.ans i)[k]).ls):=by
  show (if i<m.n then((m.ans i)[k]?).map _ else none)=_
  rw[if_pos hi,List.getElem?_eq_getElem hk]
  rfl
 have hlat:=Mems.at_ h hl;unfold Row.At dL at hlat;simp only[Nat.mul_one,qO] at hlat
 have hg:(m.ans i).getD k ⟨false,0,[]⟩=(m.ans i)[k]:=by
  rw[List.getD_eq_getElem?_getD,List.getElem?_eq_getElem hk];rfl
 refine⟨g,0,V (.ls i k),?_,?_,?_,?_,IntsAt.of_own hlat,fN hlat⟩
 ·rw [hv] at e
  cases e
  rfl
 ·rw [Nat.zero_add]
  have:=key 0 (by omega);simp only[anF,hg,Nat.add_zero] at this;exact this
 ·rw [Nat.zero_add]
  have:=key 1 (by omega);simp only[anF,hg] at this;exact this
 ·rw [Nat.zero_add]
  exact key 2 (by omega)
theorem traceOf12 (h:dS mb mb tb m V ub vs vo u Y w) (hn:m.n=n) (ha:m.size=a) (hb:m.rd=b) {B2 B3 sl ac:Nat}{aA:Option Addr}{tv:Value}(hs:w.ownsRow B2 2 1 tv sl m.stateC) (hr:w.ownsRow B3 43 1 (.slice aA n ac) n (aK n λi=>V (.ans i))) :
  TraceAt w n m.ans u.order (fE (I0 a b) (bX m).1) aA ac vo tv:=by
 have ho:=Mems.at_ h (r:=.ext 2) (d:=fI vo u.order) rfl;unfold Row.At fI at ho;simp only[Nat.mul_one,qO] at ho;have hs':=hs;rw[stateC_map m ha hb] at hs';have hsl:(fE (I0 a b) (bX m).1).length=sl:=by have:=hs'.1;simpa using this
 refine⟨⟨IntsAt.of_own ho,fN ho⟩,⟨IntsAt.of_own hs',by rw[hsl];exact fN hs'⟩,λi hi=>?_⟩;obtain⟨h1,h2⟩:=answers12 h (i:=i) (by rw[hn];exact hi)
 rcases hr.2 with⟨_,z⟩ | ⟨g,cap,cur,e,_⟩
 ·omega
 ·cases e
  refine⟨g,0,V (.ans i),rfl,?_,h1,h2⟩;rw[Nat.zero_add];exact(hr.cellAt i (by omega)).trans (cQ (by omega))
end
end Go.Proofs.Ytlcplealnbekeaa
namespace Go.Proofs.Ytlcplealnbekeaa
open Go.RowKit Go.Turn
def ntF (vo:Value) (k:Nat) (va:Value):Nat->Value
 | 0=>vo
 | 1=>.int .i64 k
 | 11=>nilS
 | 12=>va
 | 13=>.bool false
 | _=>.int .i64 0
def zaF:Nat->Value
 | 0=>.bool false
 | 1=>.int .i64 0
 | _=>nilS
def eE (n:Nat) (tb:Nat->Nat) (VT:Value) (VO:Nat->Value) (cnt:Nat->Nat) (VA:Nat->Value):Rt->Option Row
 | .T=>some ⟨116,1,VT,n,λj=>.pointer (some ⟨tb j,0,none⟩)⟩
 | .th i=>if i<n then some ⟨115,14,.slice (some ⟨tb i,0,none⟩) 1 1,1,ntF (VO i) (cnt i) (VA i)⟩ else none
 | .ans i=>if i<n then some ⟨48,3,VA i,cnt i,cJ 3 λ_=>zaF⟩ else none
 | _=>none
section
variable {B n:Nat}{tb:Nat->Nat}{VT:Value}{VO:Nat->Value}{ops:Nat->List OpI}{cnt:Nat->Nat}{VA:Nat->Value}{w w1:World}{i:Nat}
theorem nt_of (h:Mems B (cR n n tb VT VO ops) w):Mems B (eE n tb VT VO (λ_=>0) (λ_=>nilS)) w:=by
 refine h.eqv λr d hr=>?_;cases r with
 | T=>cases hr;exact .inl ⟨_,rfl,λ_ _=>rfl⟩
 | th i =>
   by_cases hi:i<n
   ·have hr:=hr.symm.trans (if_pos hi)
    cases hr;refine .inl ⟨tzF (VO i),thTh hi,λj hj=>?_⟩;have hj:j<14:=by simpa using hj
    rcases j with _ | _ | _ | _ | _ | _ | _ | _ | _ | _ | _ | _ | _ | _ | j <;> first | omega | rfl
   ·exact absurd (hr.symm.trans (if_neg hi)) (by simp)
 | ans i =>
   by_cases hi:i<n
   ·have hr:=hr.symm.trans (if_pos hi)
    cases hr;exact .inr ⟨rfl,rfl⟩
   ·exact absurd (hr.symm.trans (if_neg hi)) (by simp)
 | _=>cases hr
theorem ntTh (hi:i<n):eE n tb VT VO cnt VA (.th i)=some ⟨115,14,.slice (some ⟨tb i,0,none⟩) 1 1,1,ntF (VO i) (cnt i) (VA i)⟩:=if_pos hi
theorem pB (hi:i<n):eE n tb VT VO cnt VA (.ans i)=some ⟨48,3,VA i,cnt i,cJ 3 λ_=>zaF⟩:=if_pos hi
theorem kR (h:Mems B (eE n tb VT VO cnt VA) w) (hi:i<n) (k:Nat) (hk:k<14):w.cell? ⟨tb i,k,none⟩=some (ntF (VO i) (cnt i) (VA i) k):=h.cell (ntTh hi) (by omega)
theorem nt_end {vg:Value}(hm:Mems B (eE n tb VT VO cnt VA) w) (hi:i<n) (hown:w1.ownsRow B 48 3 vg (cnt i+1) (aK (cnt i*3) (cJ 3 λ_=>zaF)++[.bool false,.int .i64 0,.slice none 0 0])) (hg:w.grownBy w1 (VA i).ownBlock) (hv:vg.ownBlock=(VA i).ownBlock\/vg.ownBlock=some w.heap.size) :
  (w1.cell? ⟨tb i,12,none⟩=some (VA i)/\w1.frozen? ⟨tb i,12,none⟩=false) /\
  (((w1.setCell ⟨tb i,12,none⟩ vg).cell? ⟨tb i,1,none⟩=some (.int .i64 (cnt i))/\∀ k,(w1.setCell ⟨tb i,12,none⟩ vg).frozen? ⟨tb i,k,none⟩=false)/\(w1.setCell ⟨tb i,12,none⟩ vg).cell? ⟨tb i,2,none⟩=some (.int .i64 0)/\(w1.setCell ⟨tb i,12,none⟩ vg).cell? ⟨tb i,11,none⟩=some nilS) /\
  Mems B (eE n tb VT VO (λj=>if j=i then cnt i+1 else cnt j) (λj=>if j=i then vg else VA j)) ((((w1.setCell ⟨tb i,12,none⟩ vg).setCell ⟨tb i,1,none⟩ (.int .i64 ((cnt i+1:Nat):Int))).setCell ⟨tb i,2,none⟩ (.int .i64 0)).setCell ⟨tb i,11,none⟩ nilS):=by
 have h1:Mems B (λr=>if r=.ans i then some ⟨48,3,vg,cnt i+1,cJ 3 λ_=>zaF⟩ else eE n tb VT VO cnt VA r) w1:=by
  refine hm.app (r:=.ans i) (pB hi) (if_pos rfl) (λr hr=>if_neg hr) hg ?_ hv
  show w1.ownsRow B _ 3 vg (cnt i+1) (aK ((cnt i+1)*3) _)
  have e:aK ((cnt i+1)*3) (cJ 3 λ_=>zaF)=aK (cnt i*3) (cJ 3 λ_=>zaF)++[.bool false,.int .i64 0,.slice none 0 0]:=by
   rw[jB [.bool false,.int .i64 0,.slice none 0 0] undef,dO,show (cnt i+1)*3=cnt i*3+3 from by omega];refine bU λy hy=>?_
   by_cases hlt:y<cnt i*3
   ·rw [if_pos hlt]
   ·obtain ⟨m,rfl⟩:∃ m,y=cnt i*3+m:=⟨y-cnt i*3,by omega⟩
    have hk:m<3:=by omega
    rw[jH hk,if_neg hlt,Nat.add_sub_cancel_left]
    rcases m with _ | _ | _ | m
    ·rfl
    ·rfl
    ·rfl
    ·omega
  rw[e];exact hown
 have e0:(λr=>if r=Rt.ans i then some (⟨48,3,vg,cnt i+1,cJ 3 λ_=>zaF⟩:Row) else eE n tb VT VO cnt VA r) (.th i)=some ⟨115,14,.slice (some ⟨tb i,0,none⟩) 1 1,1,ntF (VO i) (cnt i) (VA i)⟩:=(if_neg (by simp)).trans (ntTh hi)
 have step:∀ {R:Rt->Option Row}{x:World}{f:Nat->Value}(k:Nat) (v:Value),Mems B R x->R (.th i)=some ⟨115,14,.slice (some ⟨tb i,0,none⟩) 1 1,1,f⟩ ->
   Mems B (λr=>if r=.th i then some ⟨115,14,.slice (some ⟨tb i,0,none⟩) 1 1,1,λj=>if j=k then v else f j⟩ else R r) (x.setCell ⟨tb i,k,none⟩ v):=λk v hx hR =>
  hx.set (r:=.th i) hR k v (if_pos rfl) (λ_ _=>rfl) λr hr=>if_neg hr
 have s1:=step 12 vg h1 e0;have s2:=step 1 (.int .i64 ((cnt i+1:Nat):Int)) s1 (if_pos rfl);have s3:=step 2 (.int .i64 0) s2 (if_pos rfl);have s4:=step 11 nilS s3 (if_pos rfl);refine⟨⟨h1.cell e0 (j:=12) (by omega),h1.frozen e0 12⟩,⟨⟨s1.cell (if_pos rfl) (j:=1) (by omega),λk=>s1.frozen (r:=.th i) (if_pos rfl) k⟩,s1.cell (if_pos rfl) (j:=2) (by omega),s1.cell (if_pos rfl) (j:=11) (by omega)⟩,?_⟩;refine s4.eqv λr d hr=>?_;cases r with
 | T=>cases hr;exact .inl ⟨_,rfl,λ_ _=>rfl⟩
 | th j =>
   by_cases hj:j<n
   ·rw [ntTh hj] at hr
    cases hr
    by_cases e:j=i
    ·subst e
     refine .inl ⟨_,if_pos rfl,λk hk=>?_⟩;have hk:k<14:=by simpa using hk
     simp only[if_true]
     rcases k with _ | _ | _ | _ | _ | _ | _ | _ | _ | _ | _ | _ | _ | _ | k <;> first | omega | rfl
    ·refine .inl ⟨ntF (VO j) (cnt j) (VA j),?_,λ_ _=>by simp[e]⟩
     simp[e,eE,hj]
   ·exact absurd (hr.symm.trans (if_neg hj)) (by simp)
 | ans j =>
   by_cases hj:j<n
   ·rw [pB hj] at hr
    cases hr
    by_cases e:j=i
    ·subst e
     exact .inl ⟨cJ 3 λ_=>zaF,by simp,λ_ _=>rfl⟩
    ·refine .inl ⟨cJ 3 λ_=>zaF,?_,λ_ _=>rfl⟩
     simp[e,eE,hj]
   ·exact absurd (hr.symm.trans (if_neg hj)) (by simp)
 | _=>cases hr
end
end Go.Proofs.Ytlcplealnbekeaa
namespace Go.Proofs.Ytlcplealnbekeaa
open Go.RowKit Go.Turn
section
variable {B n:Nat}{tb:Nat->Nat}{VT:Value}{VO:Nat->Value}{cnt:Nat->Nat}{VA:Nat->Value}{w w1:World}{i:Nat}
theorem ntend_ok (h:Mems B (eE n tb VT VO cnt VA) w) (hB:B<=w.heap.size) (hi:i<n) (hc:cnt i<65536) :
  Calls Try.prog 49 #[.pointer (some ⟨tb i,0,none⟩),.agg #[.bool false,.int .i64 0,.slice none 0 0]] w λe w'=>e=.returned (.tuple #[])/\(∃ vg,Mems B (eE n tb VT VO (λj=>if j=i then cnt i+1 else cnt j) (λj=>if j=i then vg else VA j)) w')/\Below B w w':=by
 have HM:=qd h;clear h;obtain⟨rA,rc,hrw⟩:=cB HM.out (pB hi);have hown:=HM.out.at_ (pB hi);have htn:=cD HM.out (ntTh (tb:=tb) (VT:=VT) (VO:=VO) (cnt:=cnt) (VA:=VA) hi) (pB hi) (by simp) (b:=tb i) rfl;have hBt:B<=tb i:=(HM.out.lt (r:=.th i) (ntTh hi) (b:=tb i) rfl).1;unfold Row.At at hown;simp only[hrw] at hown htn;obtain⟨kn,hK0⟩:∃ kn,kn=cnt i:=⟨_,rfl⟩;rw[<-hK0] at hc hown htn hrw;have HR:=qd (And.intro hrw hK0);have HOW:=qd hown;have HNT:=qd htn;clear hrw hown htn hK0
 go_enter Try.func49,Try.ntmps49
 refine fD λK hK=>?_;go_wp2;refine hK.out _ _ ?_;clear hK K;have hm:=HM.out.alloc (.cells #[.bool false,.int .i64 0,.slice none 0 0] 48);have hb3:=Blk.new w 48 #[.bool false,.int .i64 0,.slice none 0 0];have bw:Below B w (w.alloc (.cells #[.bool false,.int .i64 0,.slice none 0 0] 48)):=(Below.refl _ _).alloc hB _;have hsz:(w.alloc (.cells #[.bool false,.int .i64 0,.slice none 0 0] 48)).heap.size=w.heap.size+1:=by simp
 have how:World.ownsRow (w.alloc (.cells #[.bool false,.int .i64 0,.slice none 0 0] 48)) B _ _ _ _ _:=HOW.out.alloc _;have hlt:(Value.slice rA kn rc).ownBlock≠some w.heap.size:=λz=>by have:=(HOW.out.lt _ z).2;omega
 generalize w.alloc (.cells #[.bool false,.int .i64 0,.slice none 0 0] 48)=v at *;generalize w.heap.size=b3 at *;clear HOW;have t12:v.cell? ⟨tb i,12,none⟩=some (.slice rA kn rc):=by rw[kR hm hi 12 (by omega)];exact congrArg some HR.out.1
 have o0:=hb3.cell 0;have o1:=hb3.cell 1;have o2:=hb3.cell 2;simp only[zD] at o0 o1 o2;have HT0:=qd t12;have HT1:=qd o0;have HT2:=qd o1;have HT3:=qd o2;have HN0:Hid (¬(Value.slice rA kn rc).ownBlock=some (tb i)):=qd HNT.out;have HN1:Hid (¬(Value.slice rA kn rc).ownBlock=some b3):=qd hlt;have HV:=qd (And.intro hm (And.intro bw (And.intro hsz how)));have hvs:B<=v.heap.size:=by omega
 clear t12 o0 o1 o2 hm bw hsz how hlt hb3 HNT;refine fD λK hK=>?_;refine bV (S:=Kept (λb=>(Value.slice rA kn rc).ownBlock=some b) v) 10 (by kernel_rfl) (by kernel_rfl) (by kernel_rfl) ?_;simp only[idle,zB,Nat.reduceAdd];have hk0:Kept (λb=>(Value.slice rA kn rc).ownBlock=some b) v v.drew:=Kept.drewN _ v 1;have HS:=qd hk0;clear hk0
 iterate 6
  with_reducible first | refine rdL 0 10 4 ?_ | refine rdL 1 9 5 ?_ | refine rdL 2 8 6 ?_ | refine rdL 3 7 7 ?_ | refine rdL 4 6 8 ?_ | refine rdL 5 5 9 ?_
  refine⟨_,rfl,rfl,by kernel_rfl,by kernel_rfl,by kernel_rfl,(λc a w h=>h),rfl,HS.out,?_⟩;apply Exists.intro;refine⟨λwq hw=>?_,?_⟩
  ·have q0:=cY HT0.out hw HN0.out
   have q1:=cY HT1.out hw HN1.out;have q2:=cY HT2.out hw HN1.out;have q3:=cY HT3.out hw HN1.out;go_simp
   rfl
  simp only[Act.put,zA]
 clear HT1 HT2 HT3;have hkd:=HS.out;obtain⟨hm,bw,hsz,how⟩:=HV.out;have how2:=how.drew;have hm2:=hm.drewN 1;have bw2:=bw.trans (Below.drewN (Below.refl B _) 1);have hvs2:B<=v.drew.heap.size:=hvs;have hsz2:v.drew.heap.size=b3+1:=hsz;have HKD:=qd hkd;clear HS hkd HV hm bw hsz how hvs HT0;change Mems B (eE n tb VT VO cnt VA) v.drew at hm2;change Below B w v.drew at bw2;generalize World.drew v=wd at *;have HSZ:=qd hsz2;clear hsz2;refine cW (i:=6) (fuel:=4) (by kernel_rfl) rfl rfl λK' hK'=>?_;unfold Oper.wp;go_simp;have hk6:=HKD.out.trans (Kept.alloc (S:=λb=>(Value.slice rA kn rc).ownBlock=some b) wd (.cells #[.bool false,.int .i64 0,.slice none 0 0] 48));refine hK' _ _ hk6 ?_;clear hK' K'
 try simp only[Act.put,zA]
 obtain⟨i0,hi0,hz0,hz1,hz2⟩:=info_parts Try.infoAn;refine cW (i:=7) (fuel:=3) (by kernel_rfl) rfl rfl λK' hK'=>?_;refine wp_append_lies (P:=Try.prog) (wd.alloc (.cells #[.bool false,.int .i64 0,.slice none 0 0] 48)) (.tmp 8) (.tmp 10) 43 rfl B 48 i0 _ 3 40 Try.underlying43 hi0 hz0 hz1 hz2 rfl (by omega) (.slice rA kn rc) kn _ rfl (how2.alloc _) ⟨wd.heap.size,0,none⟩ 1 1 [.bool false,.int .i64 0,.slice none 0 0] rfl rfl (World.news_of_block (cs:=#[.bool false,.int .i64 0,.slice none 0 0]) (t:=48) (fr:=(0,0)) (Blk.new wd 48 #[.bool false,.int .i64 0,.slice none 0 0])) (by simp[Value.oneCell']) (by omega) (by unfold maxLen;omega) (by omega) (by simp;omega) (wd.heap.size+1) (by simp) ?_;intro gg cap2 w1 hown hgrow hgat hgl
 obtain ⟨⟨t12,z12⟩,⟨⟨t1,zk⟩,t2,t11⟩,hfin⟩:=nt_end (vg:=.slice (some ⟨gg,0,none⟩) (kn+1) cap2) (hm2.alloc (.cells #[.bool false,.int .i64 0,.slice none 0 0] 48)) hi (by rw[<-HR.out.2];exact hown) (by rw[HR.out.1];exact hgrow) (by
  rw[HR.out.1]
  rcases hgat with z | z
  ·exact .inl z.symm
  ·right; rw[z];simp[Value.ownBlock])
 rw[HR.out.1] at t12;rw[<-HR.out.2] at t1 hfin;have hkw:=hk6.trans (Kept.grown (S:=λb=>(Value.slice rA kn rc).ownBlock=some b) hgrow (λk hk=>hk));have bw1:Below B w w1:=(bw2.alloc hvs2 _).grown hgrow (by simp;omega) (λk hk=>(how2.lt k hk).1);refine hK' _ _ hkw ?_;clear hK' K' hown hgrow hgat hgl hk6 how2 hm2 bw2 hvs2;have HKW:=qd hkw;have HF:=qd (And.intro hfin bw1);have HT:=qd (And.intro t1 (And.intro zk (And.intro t2 t11)));clear hkw hfin bw1 t1 zk t2 t11
 try simp only[Act.put,zA,List.getElem_toArray,List.getElem_cons_zero,List.getElem_cons_succ]
 refine cW (i:=8) (fuel:=2) (by kernel_rfl) rfl rfl λK' hK'=>?_;unfold Oper.wp;go_simp;refine hK' _ _ HKW.out ?_;clear hK' K'
 try simp only[Act.put,zA]
 refine cW (i:=9) (fuel:=1) (by kernel_rfl) rfl rfl λK' hK'=>?_;unfold Oper.wp;go_simp;refine hK' _ _ HKW.out ?_;clear hK' K'
 try simp only[Act.put,zA]
 refine cW (i:=10) (fuel:=0) (by kernel_rfl) rfl rfl λK' hK'=>?_;unfold Oper.wp;go_simp;refine hK' _ _ HKW.out ?_;clear hK' K' HKW HKD;refine wpAnyH_done (by kernel_rfl) ?_ _;simp only[Exit.then];refine aX (m:=10) rfl ?_;go_wp2;refine hK.out _ _ ?_;clear hK K;clear t12 z12;have bw3:=HF.out.2.setCell (p:=⟨tb i,12,none⟩) hBt (.slice (some ⟨gg,0,none⟩) (kn+1) cap2);obtain⟨w3,hw3⟩:∃ w3,w3=w1.setCell ⟨tb i,12,none⟩ (.slice (some ⟨gg,0,none⟩) (kn+1) cap2):=⟨_,rfl⟩;have hfin:=HF.out.1;rw[<-hw3] at hfin bw3 HT ⊢;clear HF hw3;have t1:=HT.out.1;have z1:=HT.out.2.1 1;have z2:=HT.out.2.1 2;have z11:=HT.out.2.1 11;have t2:=HT.out.2.2.1;have t11:=HT.out.2.2.2;have HF:=qd (And.intro hfin bw3);clear hfin bw3;unfold nilS at t11;go_wp2
 go_end0
 have e1:((kn:Int)+1)=((kn+1:Nat):Int):=by omega
 rw[e1];have hfin:=HF.out.1;have e2:(λj=>if j=i then cnt i+1 else cnt j)=(λj=>if j=i then kn+1 else cnt j):=by rw[HR.out.2]
 rw[e2];exact⟨rfl,⟨_,hfin⟩,((HF.out.2.setCell (p:=⟨tb i,1,none⟩) hBt (.int .i64 ((kn+1:Nat):Int))).setCell (p:=⟨tb i,2,none⟩) hBt (.int .i64 0)).setCell (p:=⟨tb i,11,none⟩) hBt nilS⟩
end
end Go.Proofs.Ytlcplealnbekeaa
namespace Go.Proofs.Ytlcplealnbekeaa
open Go.RowKit Go.Turn Go.Tame Go.Conc
theorem lY (a b:Value) (xs:List Int) (w:World) (ha:IntsAt w a xs) (hb:IntsAt w b xs) (hx:xs.length<=maxLen):Calls Try.prog 17 #[a,b] w λe w'=>e=.returned (.bool true)/\∃ k,w.drewN k=w':=by
 obtain⟨A,c,rfl,hA⟩:=ha;obtain⟨B,d,rfl,hB⟩:=hb;unfold maxLen at hx;have HA:=qd hA;have HB:=qd hB;clear hA hB
 go_enter Try.func17,Try.ntmps17
 go_wp2
 go_loopw [5] (λi wr=>∃ j:Nat,j<=xs.length/\i=.int .i64 j/\∃ k,w.drewN k=wr) (λi _=>xs.length-(intOf i).toNat)
 case atStart=>exact⟨0,Nat.zero_le _,rfl,0,rfl⟩
 case round =>
  obtain⟨j,hj,rfl,k,rfl⟩:=hrel
  by_cases hlt:j<xs.length
  ·obtain ⟨b1,o1,rfl,_,e1⟩:=HA.out j hlt
   obtain⟨b2,o2,rfl,_,e2⟩:=HB.out j hlt;generalize xs.getD j 0=x at e1 e2;have b0:(0:Int)<=j:=by omega
   have b1':(j:Int)<xs.length:=by omega
   go_wp2_with fail
   go_quiet (fail)
   go_wp2;go_roundw
   case rel=>exact⟨j+1,by omega,by go_num,_,rfl⟩
   case measure=>simp[intOf];omega
  ·go_wp2
   go_ret;exact⟨rfl,_,rfl⟩
theorem quietK3 {P:Program}{f:FuncId}{args:Array Value}{w:World}{k n:Nat}{v:Value}
  (h:Calls P f args (w.drewN (k+n)) λe w'=>e=.returned v/\∃ m,(w.drewN (k+n)).drewN m=w'):Calls P f args (w.drewN (k+n)) λe w''=>e=.returned v/\∃ m,w''=w.drewN (k+m):=
 h.mono λ_ _ ⟨he,m,hm⟩=>⟨he,n+m,by rw[<-hm,World.drewN_drewN,Nat.add_assoc]⟩
theorem answers3_eq (a b:Value) (l:List Ans) (w:World) (ha:AnsAt w a l) (hb:AnsAt w b l) (hx:l.length<=maxLen):Calls Try.prog 18 #[a,b] w λe w'=>e=.returned (.bool true)/\∃ k,w.drewN k=w':=by
 obtain⟨A,c,rfl,hA⟩:=ha;obtain⟨B,d,rfl,hB⟩:=hb;unfold maxLen at hx;have HA:=qd hA;have HB:=qd hB;clear hA hB
 go_enter Try.func18,Try.ntmps18
 go_wp2
 go_loopw [5] (λi wr=>∃ j:Nat,j<=l.length/\i=.int .i64 j/\∃ k,w.drewN k=wr) (λi _=>l.length-(intOf i).toNat)
 case atStart=>exact⟨0,Nat.zero_le _,rfl,0,rfl⟩
 case round =>
  obtain⟨j,hj,rfl,k,rfl⟩:=hrel
  by_cases hlt:j<l.length
  ·obtain ⟨b1,o1,lv1,rfl,p1,p2,p3,p4,p5⟩:=HA.out j hlt
   obtain⟨b2,o2,lv2,rfl,q1,q2,q3,q4,q5⟩:=HB.out j hlt;generalize l[j]=x at *;obtain⟨ok,n,ls⟩:=x;simp only at p1 p2 p3 p4 p5 q1 q2 q3 q4;have HP:=qd (And.intro p4 (And.intro q4 p5));have b0:(0:Int)<=j:=by omega
   have b1':(j:Int)<l.length:=by omega
   have r1:(ok !=ok)=false:=by simp
   have r2:(n !=n)=false:=by simp
   clear p4 q4 p5 q5
   go_wp2_with fail
   go_quiet ((go_at_call 17;exact quietK3 (lY lv1 lv2 ls (w.drewN (k+_)) HP.out.1 HP.out.2.1 HP.out.2.2)))
   go_wp2;go_roundw
   case rel=>exact⟨j+1,by omega,by go_num,_,rfl⟩
   case measure=>simp[intOf];omega
  ·go_wp2
   go_ret;exact⟨rfl,_,rfl⟩
theorem same3_eq (w:World) (n:Nat) (ans:Nat->List Ans) (ord sta:List Int) (A1 A2:Option Addr) (c1 c2:Nat) (ov1 tv1 ov2 tv2:Value) (st:Bool) (h1:TraceAt w n ans ord sta A1 c1 ov1 tv1) (h2:TraceAt w n ans ord sta A2 c2 ov2 tv2) (hn:n<=maxLen) :
  Calls Try.prog 7 #[.agg #[.slice A1 n c1,ov1,tv1,.bool st],.agg #[.slice A2 n c2,ov2,tv2,.bool st]] w λe w'=>e=.returned (.bool true)/\Below w.heap.size w w':=by
 obtain⟨o1,d1,e1,-⟩:=id h1.ord.1;obtain⟨o2,d2,e2,-⟩:=id h2.ord.1;obtain⟨s1,f1,e3,-⟩:=id h1.sta.1;obtain⟨s2,f2,e4,-⟩:=id h2.sta.1;subst e1 e2 e3 e4;have hb:∀ a b,Below w.heap.size w ((w.alloc (.cells a 31)).alloc (.cells b 31)):=λa b=>((Below.refl _ _).alloc (Nat.le_refl _) _).alloc (by simp) _;have HB:=qd hb;have H1:=qd h1;have H2:=qd h2;have hne:(st !=st)=false:=by simp
 unfold maxLen at hn;clear h1 h2 hb
 go_enter Try.func7,Try.ntmps7
 go_wp2_with fail
 have k1:Blk ((w.alloc (.cells #[.slice A1 n c1,.slice o1 ord.length d1,.slice s1 sta.length f1,.bool st] 31)).alloc (.cells #[.slice A2 n c2,.slice o2 ord.length d2,.slice s2 sta.length f2,.bool st] 31)) w.heap.size 31 _:=(Blk.new w 31 #[.slice A1 n c1,.slice o1 ord.length d1,.slice s1 sta.length f1,.bool st]).alloc _;have k2:=Blk.new (w.alloc (.cells #[.slice A1 n c1,.slice o1 ord.length d1,.slice s1 sta.length f1,.bool st] 31)) 31 #[.slice A2 n c2,.slice o2 ord.length d2,.slice s2 sta.length f2,.bool st];rw[World.size_alloc] at k2;have HB1:=HB.out #[.slice A1 n c1,.slice o1 ord.length d1,.slice s1 sta.length f1,.bool st] #[.slice A2 n c2,.slice o2 ord.length d2,.slice s2 sta.length f2,.bool st];generalize (w.alloc (.cells #[.slice A1 n c1,.slice o1 ord.length d1,.slice s1 sta.length f1,.bool st] 31)).alloc (.cells #[.slice A2 n c2,.slice o2 ord.length d2,.slice s2 sta.length f2,.bool st] 31)=z at *;have T1:=qd (H1.out.below HB1);have T2:=qd (H2.out.below HB1);have HZ:=qd HB1;clear HB H1 H2 HB1;have x0:z.cell? ⟨w.heap.size,0,none⟩=some (.slice A1 n c1):=k1.cell 0;have x1:z.cell? ⟨w.heap.size,1,none⟩=some (.slice o1 ord.length d1):=k1.cell 1;have x2:z.cell? ⟨w.heap.size,2,none⟩=some (.slice s1 sta.length f1):=k1.cell 2;have x3:z.cell? ⟨w.heap.size,3,none⟩=some (.bool st):=k1.cell 3;have y0:z.cell? ⟨w.heap.size+1,0,none⟩=some (.slice A2 n c2):=k2.cell 0;have y1:z.cell? ⟨w.heap.size+1,1,none⟩=some (.slice o2 ord.length d2):=k2.cell 1;have y2:z.cell? ⟨w.heap.size+1,2,none⟩=some (.slice s2 sta.length f2):=k2.cell 2;have y3:z.cell? ⟨w.heap.size+1,3,none⟩=some (.bool st):=k2.cell 3;clear k1 k2;refine(lY _ _ sta z T1.out.sta.1 T2.out.sta.1 T1.out.sta.2).mono ?_;rintro e w' ⟨rfl,m2,rfl⟩;go_wp2
 go_loopw [5] (λi wr=>∃ j:Nat,j<=n/\i=.int .i64 j/\∃ k,z.drewN k=wr) (λi _=>n-(intOf i).toNat)
 case atStart=>exact⟨0,Nat.zero_le _,rfl,_,rfl⟩
 case round =>
  obtain⟨j,hj,rfl,k,rfl⟩:=hrel
  by_cases hlt:j<n
  ·obtain ⟨b1,a1,r1,rfl,p1,p2,p3⟩:=T1.out.row j hlt
   obtain⟨b2,a2,r2,rfl,q1,q2,q3⟩:=T2.out.row j hlt;generalize ans j=l at *;have b0:(0:Int)<=j:=by omega
   have b1':(j:Int)<n:=by omega
   have HP:=qd (And.intro p2 (And.intro q2 p3));clear p2 q2 p3 q3
   go_wp2_with fail
   go_quiet ((go_at_call 18;exact quietK3 (answers3_eq r1 r2 l (z.drewN (k+_)) HP.out.1 HP.out.2.1 HP.out.2.2)))
   go_wp2;go_roundw
   case rel=>exact⟨j+1,by omega,by go_num,_,rfl⟩
   case measure=>simp[intOf];omega
  ·go_wp2
   have hle:ord.length<=maxLen:=T1.out.ord.2;unfold maxLen at hle
   go_loopw [6] (λi wr=>∃ j:Nat,j<=ord.length/\i=.int .i64 j/\∃ k,z.drewN k=wr) (λi _=>ord.length-(intOf i).toNat)
   case atStart=>exact⟨0,Nat.zero_le _,rfl,_,rfl⟩
   case round =>
    obtain⟨j2,hj2,rfl,k2,rfl⟩:=hrel
    by_cases hlt2:j2<ord.length
    ·obtain ⟨A3,e3,q3,q4⟩:=T1.out.ord.1
     cases q3;obtain⟨A4,e4,q5,q6⟩:=T2.out.ord.1;cases q5;obtain⟨b1,p1,r1,_,r2⟩:=q4 j2 hlt2;obtain⟨b2,p2,r3,_,r4⟩:=q6 j2 hlt2;cases r1;cases r3;generalize ord.getD j2 0=x at r2 r4;have b0:(0:Int)<=j2:=by omega
     have b1':(j2:Int)<ord.length:=by omega
     have hnx:(x !=x)=false:=by simp
     clear q4 q6
     go_wp2_with fail
     go_quiet (fail)
     go_wp2;go_roundw
     case rel=>exact⟨j2+1,by omega,by go_num,_,rfl⟩
     case measure=>simp[intOf];omega
    ·go_wp2
     go_ret;have hz:=HZ.out;exact⟨rfl,Below.drewN hz k2⟩
end Go.Proofs.Ytlcplealnbekeaa
