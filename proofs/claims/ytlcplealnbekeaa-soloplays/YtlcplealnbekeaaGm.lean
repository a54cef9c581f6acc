/- DERIVED. Threads of the document's machines (package carillonref03), in memory. -/
import Derived.Test.YtlcplealnbekeaaGe
import Derived.Maps.AppendAt
import Derived.Test.YtlcplealnbekeaaGg
import Derived.Test.YtlcplealnbekeaaGh
set_option linter.unusedVariables false
set_option linter.unusedSectionVars false
set_option linter.unusedSimpArgs false
set_option maxHeartbeats 4000000
set_option maxRecDepth 100000
namespace Go.Proofs.Ytlcplealnbekeaa
open Go.RowKit
structure Row where
 e:TypeId
 sz:Nat
 v:Value
 n:Nat
 f:Nat->Value
def aK (m:Nat) (f:Nat->Value):List Value:=(List.range m).map f
theorem cQ {m j:Nat}{f:Nat->Value}(h:j<m):(aK m f)[j]?=some (f j):=by simp[aK,h]
theorem dV (m:Nat) (f:Nat->Value):(aK m f).length=m:=by simp[aK]
theorem bU {m:Nat}{f g:Nat->Value}(h:∀ k,k<m->f k=g k):aK m f=aK m g:=List.map_congr_left λk hk=>h k (List.mem_range.1 hk)
theorem cellsN_set {m j:Nat}{f:Nat->Value}{u:Value}:(aK m f).set j u=aK m (λk=>if k=j then u else f k):=by
 apply List.ext_getElem?;intro k;simp only[List.getElem?_set,dV]
 by_cases hk:k<m
 ·rw [cQ hk,cQ hk]
  by_cases e:j=k
  ·subst e;simp[hk]
  ·simp [e,Ne.symm e]
 ·rw [List.getElem?_eq_none (by rw[dV];omega),List.getElem?_eq_none (by rw[dV];omega)]
  by_cases e:j=k
  ·subst e;simp[hk]
  ·simp [e]
theorem dO {m k:Nat}{f g:Nat->Value}:aK m f++aK k g=aK (m+k) (λj=>if j<m then f j else g (j-m)):=by
 apply List.ext_getElem?;intro j;simp only[List.getElem?_append,dV]
 by_cases hj:j<m
 ·simp only [hj,if_true,cQ hj,cQ (show j<m+k by omega)]
 ·simp only [hj,if_false]
  by_cases hk:j-m<k
  ·rw [cQ hk,cQ (show j<m+k by omega)];simp[hj]
  ·rw [List.getElem?_eq_none (by rw[dV];omega),List.getElem?_eq_none (by rw[dV];omega)]
theorem jB (l:List Value) (d:Value):l=aK l.length (λj=>l.getD j d):=by
 apply List.ext_getElem?;intro j
 by_cases hj:j<l.length
 ·rw [cQ hj];simp[hj]
 ·rw [List.getElem?_eq_none (by omega),List.getElem?_eq_none (by rw[dV];omega)]
def Row.At (d:Row) (B:Nat) (w:World):Prop:=w.ownsRow B d.e d.sz d.v d.n (aK (d.n*d.sz) d.f)
theorem Row.At.same {d:Row}{B:Nat}{w w':World}(h:d.At B w) (hs:∀ b,d.v.ownBlock=some b->w'.heap[b]?=w.heap[b]?):d.At B w':=by
 obtain⟨h1,h2⟩:=h;refine⟨h1,?_⟩
 rcases h2 with h2 | ⟨g,cap,cur,e,hg,hh,r⟩
 ·exact .inl h2
 ·exact .inr ⟨g,cap,cur,e,hg,(hs g (by rw[e];rfl)).trans hh,r⟩
def Row.nil (e:TypeId) (sz:Nat) (f:Nat->Value):Row:=⟨e,sz,.slice none 0 0,0,f⟩
structure Mems {ρ:Type}(B:Nat) (R:ρ->Option Row) (w:World):Prop where
 ex:∃ lab:Nat->Option ρ,∀ r d,R r=some d->d.At B w/\∀ b,d.v.ownBlock=some b->lab b=some r
section
variable {ρ:Type} [DecidableEq ρ] {B:Nat}{R R':ρ->Option Row}{w w':World}
theorem Mems.at_ (h:Mems B R w) {r:ρ}{d:Row}(hr:R r=some d):d.At B w:=by
 obtain⟨lab,h⟩:=h.ex;exact(h r d hr).1
theorem Mems.cell (h:Mems B R w) {r:ρ}{e:TypeId}{sz g cap n:Nat}{f:Nat->Value}(hr:R r=some ⟨e,sz,.slice (some ⟨g,0,none⟩) n cap,n,f⟩) {j:Nat}(hj:j<n*sz):w.cell? ⟨g,j,none⟩=some (f j):=by
 have:=(h.at_ hr).cellAt (g:=g) j hj;rw[this];exact cQ hj
theorem Mems.frozen (h:Mems B R w) {r:ρ}{e:TypeId}{sz g cap n:Nat}{f:Nat->Value}(hr:R r=some ⟨e,sz,.slice (some ⟨g,0,none⟩) n cap,n,f⟩) (j:Nat):w.frozen? ⟨g,j,none⟩=false:=World.ownsRow.frozenAt (h.at_ hr) j
theorem Mems.lt (h:Mems B R w) {r:ρ}{d:Row}(hr:R r=some d) {b:Nat}(hb:d.v.ownBlock=some b):B<=b/\b<w.heap.size:=World.ownsRow.lt (h.at_ hr) b hb
theorem Mems.same (h:Mems B R w) (hs:∀ b,b<w.heap.size->w'.heap[b]?=w.heap[b]?):Mems B R w':=by
 obtain⟨lab,k⟩:=h.ex;exact⟨lab,λr d hr=>⟨(k r d hr).1.same λb hb=>hs b (h.lt hr hb).2,(k r d hr).2⟩⟩
theorem Mems.drewN (h:Mems B R w) (n:Nat):Mems B R (w.drewN n):=h.same λ_ _=>rfl
theorem Mems.alloc (h:Mems B R w) (o:Obj):Mems B R (w.alloc o):=h.same λb hb=>Below.heap_alloc _ _ _ hb
theorem Mems.mono (h:Mems B R w) (hm:∀ r d,R' r=some d->R r=some d):Mems B R' w:=by
 obtain⟨lab,k⟩:=h.ex;exact⟨lab,λr d hr=>k r d (hm r d hr)⟩
theorem Mems.dropped (h:Mems B R w) (hm:∀ r d,R' r=some d->R r=some d\/(d.v=.slice none 0 0/\d.n=0)):Mems B R' w:=by
 obtain⟨lab,k⟩:=h.ex;refine⟨lab,λr d hr=>?_⟩
 rcases hm r d hr with h1 | ⟨h1,h2⟩
 ·exact k r d h1
 ·refine ⟨⟨by simp[h2,aK],.inl ⟨h1,h2⟩⟩,λb hb=>by rw[h1] at hb;cases hb⟩
theorem Mems.set (h:Mems B R w) {r:ρ}{e:TypeId}{sz g cap n:Nat}{f f':Nat->Value}(hr:R r=some ⟨e,sz,.slice (some ⟨g,0,none⟩) n cap,n,f⟩) (j:Nat) (u:Value)
  (hr':R' r=some ⟨e,sz,.slice (some ⟨g,0,none⟩) n cap,n,f'⟩) (hf:∀ k,k<n*sz->f' k=if k=j then u else f k) (ho:∀ r',r'≠r->R' r'=R r'):Mems B R' (w.setCell ⟨g,j,none⟩ u):=by
 obtain⟨lab,k⟩:=h.ex;refine⟨lab,λr1 d hd=>?_⟩
 by_cases e1:r1=r
 ·subst e1
  rw[hr'] at hd;cases hd;refine⟨?_,(k r1 _ hr).2⟩;have:=(World.ownsRow.stored (k r1 _ hr).1 j u).1;rw[cellsN_set] at this;unfold Row.At;rw[bU hf];exact this
 ·rw [ho r1 e1] at hd
  obtain⟨k1,k2⟩:=k r1 d hd;refine⟨k1.same λb hb=>Below.heap_setCell _ _ _ _ λz=>?_,k2⟩;have l1:=k2 b hb;have l2:=(k r _ hr).2 g rfl;rw[show b=g from z,l2] at l1;cases l1;exact e1 rfl
theorem Mems.app (h:Mems B R w) {r:ρ}{d d':Row}(hr:R r=some d) (hr':R' r=some d') (ho:∀ r',r'≠r->R' r'=R r')
  (hg:w.grownBy w' d.v.ownBlock) (hn:d'.At B w') (hv:d'.v.ownBlock=d.v.ownBlock\/d'.v.ownBlock=some w.heap.size):Mems B R' w':=by
 obtain⟨lab,k⟩:=h.ex;refine⟨λb=>if d'.v.ownBlock=some b then some r else lab b,λr1 d1 hd=>?_⟩
 by_cases e1:r1=r
 ·subst e1
  rw[hr'] at hd;cases hd;exact⟨hn,λb hb=>by simp[hb]⟩
 ·rw [ho r1 e1] at hd
  obtain⟨k1,k2⟩:=k r1 d1 hd
  have hne:∀ b,d1.v.ownBlock=some b->d.v.ownBlock≠some b:=λb hb z=>by
   have l1:=k2 b hb;have l2:=(k r _ hr).2 b z;rw[l2] at l1;cases l1;exact e1 rfl
  refine⟨k1.same λb hb=>hg.block b (h.lt hd hb).2 λz=>hne b hb z.symm,λb hb=>?_⟩
  have : d'.v.ownBlock≠some b:=λz=>by
   rcases hv with hv | hv
   ·exact hne b hb (hv▸z)
   ·rw [hv] at z
    cases z;have:=(h.lt hd hb).2
    omega
  simp[this,k2 b hb]
theorem Mems.new (h:Mems B R w) {r:ρ}{d':Row}(hr':R' r=some d') (ho:∀ r',r'≠r->R' r'=R r') (hs:∀ b,b<w.heap.size->w'.heap[b]?=w.heap[b]?) (hn:d'.At B w') (hv:∀ b,d'.v.ownBlock=some b->w.heap.size<=b):Mems B R' w':=by
 obtain⟨lab,k⟩:=h.ex;refine⟨λb=>if d'.v.ownBlock=some b then some r else lab b,λr1 d1 hd=>?_⟩
 by_cases e1:r1=r
 ·subst e1
  rw[hr'] at hd;cases hd;exact⟨hn,λb hb=>by simp[hb]⟩
 ·rw [ho r1 e1] at hd
  obtain⟨k1,k2⟩:=k r1 d1 hd;refine⟨k1.same λb hb=>hs b (h.lt hd hb).2,λb hb=>?_⟩;have:d'.v.ownBlock≠some b:=λz=>by have:=hv b z;have:=(h.lt hd hb).2;omega
  simp[this,k2 b hb]
theorem Mems.moved (h:Mems B R w) {r r2:ρ}{d:Row}(hr:R r=some d) (h2:R' r2=some d) (h1:∀ d',R' r=some d'->d'.v=.slice none 0 0/\d'.n=0) (hne:r≠r2) (ho:∀ r',r'≠r->r'≠r2->R' r'=R r'):Mems B R' w:=by
 obtain⟨lab,k⟩:=h.ex;refine⟨λb=>if d.v.ownBlock=some b then some r2 else lab b,λr1 d1 hd=>?_⟩
 by_cases e2:r1=r2
 ·subst e2
  rw[h2] at hd;cases hd;exact⟨(k r _ hr).1,λb hb=>by simp[hb]⟩
 by_cases e1:r1=r
 ·subst e1
  obtain⟨z1,z2⟩:=h1 d1 hd;exact⟨⟨by simp[z2,aK],.inl ⟨z1,z2⟩⟩,λb hb=>by rw[z1] at hb;cases hb⟩
 ·rw [ho r1 e1 e2] at hd
  obtain⟨k1,k2⟩:=k r1 d1 hd;refine⟨k1,λb hb=>?_⟩
  have : d.v.ownBlock≠some b:=λz=>by
   have l1:=k2 b hb;have l2:=(k r _ hr).2 b z;rw[l2] at l1;cases l1;exact e1 rfl
  simp[this,k2 b hb]
end
theorem fD {P:Program}{x y:Code}{Q:Exit->Act->World->Prop}{a:Act}{w:World}(h:∀ K:Act->World->Prop,Hid (∀ a' w',y.wp P Q a' w'->K a' w')->x.wp P (Exit.then K Q) a w):(Code.seq x y).wp P Q a w:=
 wp_seq (h _ (qd λ_ _ h=>h))
def gO (F:Nat->Nat->Value) (i k:Nat) (u:Value):Nat->Nat->Value:=λi' k'=>if i'=i/\k'=k then u else F i' k'
def cJ (sz:Nat) (F:Nat->Nat->Value):Nat->Value:=λj=>F (j / sz) (j%sz)
theorem jH {sz i k:Nat}{F:Nat->Nat->Value}(hk:k<sz):cJ sz F (i*sz+k)=F i k:=by
 unfold cJ;rw[Nat.mul_comm,Nat.mul_add_div (by omega),Nat.div_eq_of_lt hk,Nat.add_zero,Nat.mul_add_mod,Nat.mod_eq_of_lt hk]
theorem recF_lt {sz i k n:Nat}(hi:i<n) (hk:k<sz):i*sz+k<n*sz:=by
 have:(i+1)*sz<=n*sz:=Nat.mul_le_mul_right _ hi;rw[Nat.add_mul,Nat.one_mul] at this
 omega
end Go.Proofs.Ytlcplealnbekeaa
namespace Go.Proofs.Ytlcplealnbekeaa
open Go.RowKit
open Go.ConcN (upd upd_ne upd_same)
def bA (n lo hi:Int):Int:=if n<lo then lo else if hi<n then hi else n
structure RS where
 size:Nat
 rd:Nat
 S:Nat->Int
 V:Nat->Int
 cur:Int
 num:Nat->Int
 next:Int
 cached:Int
 done:Int
 place:Nat->Int
 n:Nat
 ops:Nat->List OpI
 ans:Nat->List Ans
 at_:Nat->Nat
 pc:Nat->Nat
 N:Nat->Nat->Int
 L:Nat->List Int
 ended : Nat->Bool
  /-- What the writer knew ahead of its look at the readers. -/
 old : Int
  /-- Rows that lie beside it. -/
 X:Nat->Option Row
namespace RS
def setN (m:RS) (i j:Nat) (x:Int):RS:={ m with N:=upd m.N i (upd (m.N i) j x) }
def stand (m:RS) (i p:Nat):RS:={ m with pc:=upd m.pc i p }
def end_ (m:RS) (i:Nat) (a:Ans):RS:={ m with ans:=upd m.ans i (m.ans i++[a]),at_:=upd m.at_ i (m.at_ i+1),pc:=upd m.pc i 0,L:=upd m.L i [] }
def claimed (m:RS) (i:Nat) (o:OpI):RS:=
 if m.cached<m.next+m.N i 0-1-m.size then m.end_ i ⟨false,3,[]⟩
 else
  let m1:RS:={ (m.setN i 6 m.next).setN i 1 m.next with next:=m.next+m.N i 0 }
  if o.kind=1 then m1.end_ i ⟨true,m.next,[]⟩ else m1.stand i 20
def claim (m:RS) (i:Nat) (o:OpI):RS:=
 if m.N i 0<1\/m.size<m.N i 0 then m.end_ i ⟨false,1,[]⟩
 else if 4611686018427387904-m.N i 0<m.next then m.end_ i ⟨false,8,[]⟩
 else if m.cached<m.next+m.N i 0-1-m.size then
  let m1:RS:={ m.setN i 2 0 with cached:=4611686018427387904,old:=m.cached }
  if 0<m.rd then m1.stand i 10 else m1.claimed i o
 else m.claimed i o
def begin_ (m:RS) (i:Nat) (o:OpI):RS:=
 if i=0/\o.kind=1 then(m.setN i 0 (bA o.a (-1) 2147483647)).claim i o
 else if i=0/\o.kind=4 then((m.setN i 0 (bA o.a (-1) 2147483647)).setN i 0 (bA o.b 0 (m.size+1))).claim i o
 else if i=0/\(o.kind=2\/o.kind=3) then
  if m.next<=o.a\/o.a<=m.done\/o.a<0 then m.end_ i ⟨false,1,[]⟩
  else(m.setN i 1 o.a).stand i (if o.kind=3 then 30 else 20)
 else if 0<i/\i<=m.rd/\o.kind=5 then(m.setN i 0 1).stand i 50
 else if 0<i/\i<=m.rd/\o.kind=6 then((m.setN i 0 1).setN i 0 (bA (bA o.a (-1) 2147483647) 1 2147483647)).stand i 50
 else m.end_ i ⟨false,0,[]⟩
def refused (m:RS) (i:Nat) (e:Int):RS:=if m.L i=[] then(m.stand i 54).end_ i ⟨false,e,[]⟩ else m.stand i 54
def write (m:RS) (i:Nat) (o:OpI):RS:=
 let q:=m.N i 1
 let s:=(q%m.size).toNat
 let l:=q / m.size
 if m.pc i=20 then { m.stand i 21 with S:=upd m.S s (2*l-1) }
 else if m.pc i=21 then { m.stand i 22 with V:=upd m.V s (if o.kind=4 then wrap64 (wrap64 (o.a+q)-m.N i 6) else o.b) }
 else if m.pc i=22 then
  let m1:RS:={ m with S:=upd m.S s (2*l) }
  if o.kind=2 then m1.end_ i ⟨true,0,[]⟩
  else if q=m.N i 6+m.N i 0-1 then(m1.stand i 20).stand i 30
  else(m1.stand i 20).setN i 1 (q+1)
 else if m.pc i=30 then({ m with cur:=q,done:=q }:RS).end_ i ⟨true,if o.kind=4 then m.N i 6 else 0,[]⟩
 else m
def read (m:RS) (i:Nat) (o:OpI):RS:=
 let r:=i-1
 let q:=m.place r+1+(m.L i).length
 let s:=(q%m.size).toNat
 let want:=2*(q / m.size)
 if m.pc i=50 then
  let m1:=(m.setN i 4 m.cur).stand i 51
  if m.cur<=m.place r then m1.end_ i ⟨false,4,[]⟩ else m1
 else if m.pc i=51 then
  let m1:=(m.setN i 5 (m.S s)).stand i 52
  if m.S s<want then m1.refused i 6 else if want<m.S s then m1.refused i 10 else m1
 else if m.pc i=52 then(m.setN i 3 (m.V s)).stand i 53
 else if m.pc i=53 then
  if m.S s≠m.N i 5 then m.refused i 10
  else
   let m1:=({ m with L:=upd m.L i (m.L i++[m.N i 3]) }:RS).stand i 51
   if q=m.N i 4\/((m.L i).length+1:Int)=m.N i 0 then m1.stand i 54 else m1
 else if m.pc i=54 then
  ({ m with place:=upd m.place r (m.place r+(m.L i).length),num:=upd m.num r (m.place r+(m.L i).length) }:RS).end_ i (if o.kind=5 then⟨true,(m.L i).headD 0,[]⟩ else⟨true,0,m.L i⟩)
 else m
def step (m:RS) (i:Nat) (o:OpI):RS:=
 if m.pc i=10 then
  let j:=(m.N i 2).toNat
  let m1:RS:={ m.setN i 2 (m.N i 2+1) with cached:=if m.num j<m.cached then m.num j else m.cached }
  if m.N i 2+1=m.rd then m1.claimed i o else m1
 else if m.pc i<40 then m.write i o
 else m.read i o
def settle (m:RS) (i:Nat):Nat->RS
 | 0=>m
 | f+1=>if m.pc i=0 then(match (m.ops i)[m.at_ i]? with | some o=>settle (m.begin_ i o) i f | none=>m) else m
def settled (m:RS) (i:Nat):RS:=
 let m1:=m.settle i ((m.ops i).length+1-m.at_ i)
 { m1 with ended:=upd m1.ended i (decide ((m.ops i).length<=m1.at_ i)) }
def does (m:RS) (i:Nat):RS:=match (m.ops i)[m.at_ i]? with | some o=>(m.step i o).settled i | none=>m
end RS
end Go.Proofs.Ytlcplealnbekeaa
namespace Go.Proofs.Ytlcplealnbekeaa
open Go.RowKit
open Go.ConcN (upd upd_ne upd_same)
inductive Rt where
 | box | S | V | Nu | Pl | T | th (i:Nat) | op (i:Nat) | ans (i:Nat) | L (i:Nat) | ls (i k:Nat) | ext (k:Nat)
 deriving DecidableEq
def nilS:Value:=.slice none 0 0
def bxF (st:RS) (V:Rt->Value):Nat->Value
 | 0=>.int .i64 st.size
 | 1=>V .S
 | 2=>V .V
 | 3=>.int .i64 st.cur
 | 4=>V .Nu
 | 5=>.int .i64 st.next
 | 6=>.int .i64 st.cached
 | 7=>.int .i64 st.done
 | 8=>V .Pl
 | 9=>V .T
 | _=>.int .i64 st.rd
def tdF (st:RS) (V:Rt->Value) (i:Nat):Nat->Value
 | 0=>V (.op i)
 | 1=>.int .i64 (st.at_ i)
 | 2=>.int .i64 (st.pc i)
 | 11=>V (.L i)
 | 12=>V (.ans i)
 | 13=>.bool (st.ended i)
 | k=>.int .i64 (st.N i (k-3))
def anF (V:Rt->Value) (i:Nat) (l:List Ans) (k:Nat):Nat->Value
 | 0=>.bool ((l.getD k ⟨false,0,[]⟩).ok)
 | 1=>.int .i64 ((l.getD k ⟨false,0,[]⟩).n)
 | _=>V (.ls i k)
def oqF (l:List OpI) (k:Nat):Nat->Value
 | 0=>.int .i64 (l.getD k ⟨0,0,0,0⟩).kind
 | 1=>.int .i64 (l.getD k ⟨0,0,0,0⟩).a
 | 2=>.int .i64 (l.getD k ⟨0,0,0,0⟩).b
 | _=>.int .i64 (l.getD k ⟨0,0,0,0⟩).c
def dL (v:Value) (l:List Int):Row:=⟨2,1,v,l.length,λj=>.int .i64 (l.getD j 0)⟩
def bW (n mb:Nat) (tb:Nat->Nat) (G:Nat->Value) (F:Nat->Nat->Value) (R:Rt->Option Row):Rt->Option Row
 | .box=>some ⟨75,11,.slice (some ⟨mb,0,none⟩) 1 1,1,G⟩
 | .th i=>if i<n then some ⟨115,14,.slice (some ⟨tb i,0,none⟩) 1 1,1,F i⟩ else none
 | r=>R r
def bQ (tb:Nat->Nat) (st:RS) (V:Rt->Value):Rt->Option Row
 | .S=>some ⟨2,1,V .S,st.size,λj=>.int .i64 (st.S j)⟩
 | .V=>some ⟨2,1,V .V,st.size,λj=>.int .i64 (st.V j)⟩
 | .Nu=>some ⟨2,1,V .Nu,st.rd,λj=>.int .i64 (st.num j)⟩
 | .Pl=>some ⟨2,1,V .Pl,st.rd,λj=>.int .i64 (st.place j)⟩
 | .T=>some ⟨116,1,V .T,st.n,λj=>.pointer (some ⟨tb j,0,none⟩)⟩
 | .op i=>if i<st.n then some ⟨46,4,V (.op i),(st.ops i).length,cJ 4 (oqF (st.ops i))⟩ else none
 | .ans i=>if i<st.n then some ⟨48,3,V (.ans i),(st.ans i).length,cJ 3 (anF V i (st.ans i))⟩ else none
 | .L i=>if i<st.n then some (dL (V (.L i)) (st.L i)) else none
 | .ls i k=>if i<st.n then(st.ans i)[k]?.map λa=>dL (V (.ls i k)) a.ls else none
 | .ext k=>st.X k
 | _=>none
def aY (mb:Nat) (tb:Nat->Nat) (st:RS) (V:Rt->Value):Rt->Option Row:=bW st.n mb tb (bxF st V) (tdF st V) (bQ tb st V)
theorem Mems.eqv {ρ:Type} [DecidableEq ρ] {B:Nat}{R R':ρ->Option Row}{w:World}(h:Mems B R w) (hm:∀ r d',R' r=some d'->(∃ f,R r=some ⟨d'.e,d'.sz,d'.v,d'.n,f⟩/\∀ j,j<d'.n*d'.sz->f j=d'.f j)\/(d'.v=.slice none 0 0/\d'.n=0)):Mems B R' w:=by
 obtain⟨lab,k⟩:=h.ex;refine⟨lab,λr d' hr=>?_⟩
 rcases hm r d' hr with⟨f,h1,h2⟩ | ⟨h1,h2⟩
 ·obtain ⟨k1,k2⟩:=k r _ h1
  refine⟨?_,k2⟩;have k3:w.ownsRow B d'.e d'.sz d'.v d'.n (aK (d'.n*d'.sz) f):=k1;rw[bU h2] at k3;exact k3
 ·refine ⟨⟨by simp[h2,aK],.inl ⟨h1,h2⟩⟩,λb hb=>by rw[h1] at hb;cases hb⟩
def SMem (B mb:Nat) (tb:Nat->Nat) (st:RS) (w:World):Prop:=∃ V,Mems B (aY mb tb st V) w
section
variable {B mb:Nat}{tb:Nat->Nat}{st:RS}{V:Rt->Value}{w w':World}
theorem SMem.same (h:SMem B mb tb st w) (hs:∀ b,b<w.heap.size->w'.heap[b]?=w.heap[b]?):SMem B mb tb st w':=by
 obtain⟨V,h⟩:=h;exact⟨V,h.same hs⟩
theorem bD (h:Mems B (aY mb tb st V) w) (k:Nat) (hk:k<11):w.cell? ⟨mb,k,none⟩=some (bxF st V k):=h.cell (r:=.box) rfl (by omega)
theorem iF (h:Mems B (aY mb tb st V) w) (k:Nat):w.frozen? ⟨mb,k,none⟩=false:=h.frozen (r:=.box) rfl k
theorem bS {ρ:Type} [DecidableEq ρ] {R:ρ->Option Row}{r:ρ}{e:TypeId}{sz n:Nat}{v:Value}{f:Nat->Value}(h:Mems B R w) (hr:R r=some ⟨e,sz,v,n,f⟩) (hn:0<n):∃ g c,v=.slice (some ⟨g,0,none⟩) n c/\n<=c/\c<=maxLen:=by
 rcases(h.at_ hr).2 with⟨_,h2⟩ | ⟨g,cap,cur,h1,_,_,h3,h4,_⟩
 ·simp only at h2;omega
 ·exact ⟨g,cap,h1,h3,h4⟩
theorem cB {ρ:Type} [DecidableEq ρ] {R:ρ->Option Row}{r:ρ}{e:TypeId}{sz n:Nat}{v:Value}{f:Nat->Value}(h:Mems B R w) (hr:R r=some ⟨e,sz,v,n,f⟩):∃ A c,v=.slice A n c:=by
 rcases(h.at_ hr).2 with⟨h1,h2⟩ | ⟨g,cap,cur,h1,_,_,h3,h4,_⟩
 ·simp only at h1 h2;subst h2;exact⟨none,0,h1⟩
 ·exact ⟨_,cap,h1⟩
section
variable {n i:Nat}{G:Nat->Value}{F:Nat->Nat->Value}{R:Rt->Option Row}
theorem gth (hi:i<n):bW n mb tb G F R (.th i)=some ⟨115,14,.slice (some ⟨tb i,0,none⟩) 1 1,1,F i⟩:=by simp only[bW,if_pos hi]
theorem oH (h:Mems B (bW n mb tb G F R) w) (hi:i<n) (k:Nat) (hk:k<14):w.cell? ⟨tb i,k,none⟩=some (F i k):=h.cell (gth hi) (by omega)
theorem iG (h:Mems B (bW n mb tb G F R) w) (hi:i<n) (k:Nat):w.frozen? ⟨tb i,k,none⟩=false:=h.frozen (gth hi) k
theorem gset (h:Mems B (bW n mb tb G F R) w) (hi:i<n) (k:Nat) (u:Value):Mems B (bW n mb tb G (gO F i k u) R) (w.setCell ⟨tb i,k,none⟩ u):=by
 refine h.set (f':=gO F i k u i) (gth hi) k u (gth hi) (λj _=>by simp[gO]) λr hr=>?_;cases r with
 | th j =>
   have e:j≠i:=λe=>hr (by rw[e]);have e2:gO F i k u j=F j:=by funext k';simp[gO,e]
   simp only[bW,e2]
 | _=>rfl
theorem gsetB (h:Mems B (bW n mb tb G F R) w) (k:Nat) (u:Value):Mems B (bW n mb tb (upd G k u) F R) (w.setCell ⟨mb,k,none⟩ u):=by
 refine h.set (r:=.box) (f':=upd G k u) rfl k u rfl (λj _=>rfl) λr hr=>?_;cases r with
 | box=>exact absurd rfl hr
 | _=>rfl
theorem gsetR (h:Mems B (bW n mb tb G F R) w) {r:Rt}{e:TypeId}{g cap m:Nat}{f:Nat->Value}(hb:r≠.box) (ht:∀ l,r≠.th l) (hr:R r=some ⟨e,1,.slice (some ⟨g,0,none⟩) m cap,m,f⟩) (j:Nat) (u:Value) :
  Mems B (bW n mb tb G F (λr'=>if r'=r then some ⟨e,1,.slice (some ⟨g,0,none⟩) m cap,m,λk=>if k=j then u else f k⟩ else R r')) (w.setCell ⟨g,j,none⟩ u):=by
 have e1:∀ R:Rt->Option Row,bW n mb tb G F R r=R r:=λR=>by
  cases r with
  | box=>exact absurd rfl hb
  | th l=>exact absurd rfl (ht l)
  | _=>rfl
 refine h.set (r:=r) ((e1 R).trans hr) j u ((e1 _).trans (if_pos rfl)) (λk _=>rfl) λr' hr'=>?_;cases r' with
 | box=>rfl
 | th l=>rfl
 | _=>simp only[bW,if_neg hr']
end
section
variable {i:Nat}(h:Mems B (aY mb tb st V) w) (hi:i<st.n)
include h hi
theorem aS (k:Nat) (hk:k<14):w.cell? ⟨tb i,k,none⟩=some (tdF st V i k):=oH h hi k hk
theorem bC (k:Nat):w.frozen? ⟨tb i,k,none⟩=false:=iG h hi k
end
end
theorem gD {B mb n:Nat}{tb:Nat->Nat}{st':RS}{V':Rt->Value}{G:Nat->Value}{F:Nat->Nat->Value}{R:Rt->Option Row}{w:World}(h:Mems B (bW n mb tb G F R) w) (hn:st'.n=n) (hG:∀ k,k<11->G k=bxF st' V' k) (hF:∀ i k,i<n->k<14->F i k=tdF st' V' i k)
  (hR:∀ r,(∀ i,r≠.th i)->r≠.box->∀ d',bQ tb st' V' r=some d'->(∃ f,R r=some ⟨d'.e,d'.sz,d'.v,d'.n,f⟩/\∀ j,j<d'.n*d'.sz->f j=d'.f j)\/(d'.v=.slice none 0 0/\d'.n=0)):Mems B (aY mb tb st' V') w:=by
 refine h.eqv λr d' hr=>?_;cases r with
 | box=>cases hr;exact .inl ⟨G,rfl,λj hj=>hG j (by simpa using hj)⟩
 | th i =>
   by_cases hi:i<n
   ·simp only [aY,bW,hn,if_pos hi] at hr
    cases hr;exact .inl ⟨F i,by simp only[bW,if_pos hi],λj hj=>hF i j hi (by simpa using hj)⟩
   ·simp only [aY,bW,hn,if_neg hi] at hr
    cases hr
 | _=>exact hR _ (by intro i;simp) (by simp) d' hr
theorem toS12 {B mb n:Nat}{tb:Nat->Nat}{st':RS}{V':Rt->Value}{G:Nat->Value}{F:Nat->Nat->Value}{R:Rt->Option Row}{w:World}(h:Mems B (bW n mb tb G F R) w) (hn:st'.n=n) (hG:∀ k,k<11->G k=bxF st' V' k) (hF:∀ i k,i<n->k<14->F i k=tdF st' V' i k)
  (hR:∀ r,(∀ i,r≠.th i)->r≠.box->∀ d',bQ tb st' V' r=some d'->(∃ f,R r=some ⟨d'.e,d'.sz,d'.v,d'.n,f⟩/\∀ j,j<d'.n*d'.sz->f j=d'.f j)\/(d'.v=.slice none 0 0/\d'.n=0)):SMem B mb tb st' w:=⟨V',gD h hn hG hF hR⟩
section
variable {B mb:Nat}{tb:Nat->Nat}{st:RS}{V:Rt->Value}{w:World}{i:Nat}(h:Mems B (aY mb tb st V) w)
include h
theorem sPc (hi:i<st.n) (p:Nat):Mems B (aY mb tb (st.stand i p) V) (w.setCell ⟨tb i,2,none⟩ (.int .i64 p)):=
 gD (gset h hi 2 (.int .i64 p)) rfl (λk hk=>by rcases k with _ | _ | _ | _ | _ | _ | _ | _ | _ | _ | _ | k <;> first | omega | rfl | simp[bxF,upd]) (λj k hj hk=>by
  by_cases e:j=i
  ·subst e
   rcases k with _ | _ | _ | _ | _ | _ | _ | _ | _ | _ | _ | _ | _ | _ | k <;> first | omega | simp[gO,tdF,RS.stand,upd_same]
  ·rcases k with _ | _ | _ | _ | _ | _ | _ | _ | _ | _ | _ | _ | _ | _ | k <;> first | omega | simp[gO,tdF,RS.stand,upd_ne _ _ e,e]) (λr _ _ d' hd=>.inl ⟨d'.f,hd,λ_ _=>rfl⟩)
theorem sN (hi:i<st.n) (l:Nat) (hl:l<8) (x:Int):Mems B (aY mb tb (st.setN i l x) V) (w.setCell ⟨tb i,l+3,none⟩ (.int .i64 x)):=
 gD (gset h hi (l+3) (.int .i64 x)) rfl (λk hk=>by rcases k with _ | _ | _ | _ | _ | _ | _ | _ | _ | _ | _ | k <;> first | omega | rfl | simp[bxF,upd]) (λj k hj hk=>by
  by_cases e:j=i
  ·subst e
   by_cases ek:k=l+3
   ·subst ek
    rw[show gO (tdF st V) j (l+3) (.int .i64 x) j (l+3)=.int .i64 x from if_pos ⟨rfl,rfl⟩]
    rcases l with _ | _ | _ | _ | _ | _ | _ | _ | l <;> first | omega | simp[tdF,RS.setN,upd_same]
   ·rw [show gO (tdF st V) j (l+3) (.int .i64 x) j k=tdF st V j k from if_neg λz=>ek z.2]
    rcases k with _ | _ | _ | k
    ·rfl
    ·rfl
    ·rfl
    ·have e':k≠l:=by omega
     rcases k with _ | _ | _ | _ | _ | _ | _ | _ | _ | _ | _ | k <;> first | omega | rfl | simp[tdF,RS.setN,upd_same,upd_ne _ _ e']
  ·rw [show gO (tdF st V) i (l+3) (.int .i64 x) j k=tdF st V j k from if_neg λz=>e z.1]
   rcases k with _ | _ | _ | _ | _ | _ | _ | _ | _ | _ | _ | _ | _ | _ | k <;> first | omega | rfl | simp[tdF,RS.setN,upd_ne _ _ e]) (λr _ _ d' hd=>.inl ⟨d'.f,hd,λ_ _=>rfl⟩)
theorem sCur (x:Int):Mems B (aY mb tb { st with cur:=x } V) (w.setCell ⟨mb,3,none⟩ (.int .i64 x)):=gD (gsetB h 3 (.int .i64 x)) rfl (λk hk=>by rcases k with _ | _ | _ | _ | _ | _ | _ | _ | _ | _ | _ | k <;> first | omega | rfl | simp[bxF,upd]) (λj k hj hk=>by rcases k with _ | _ | _ | _ | _ | _ | _ | _ | _ | _ | _ | _ | _ | _ | k <;> first | omega | rfl) (λr _ _ d' hd=>.inl ⟨d'.f,hd,λ_ _=>rfl⟩)
theorem sNext (x:Int):Mems B (aY mb tb { st with next:=x } V) (w.setCell ⟨mb,5,none⟩ (.int .i64 x)):=gD (gsetB h 5 (.int .i64 x)) rfl (λk hk=>by rcases k with _ | _ | _ | _ | _ | _ | _ | _ | _ | _ | _ | k <;> first | omega | rfl | simp[bxF,upd]) (λj k hj hk=>by rcases k with _ | _ | _ | _ | _ | _ | _ | _ | _ | _ | _ | _ | _ | _ | k <;> first | omega | rfl) (λr _ _ d' hd=>.inl ⟨d'.f,hd,λ_ _=>rfl⟩)
theorem sCached (x y:Int):Mems B (aY mb tb { st with cached:=x,old:=y } V) (w.setCell ⟨mb,6,none⟩ (.int .i64 x)):=gD (gsetB h 6 (.int .i64 x)) rfl (λk hk=>by rcases k with _ | _ | _ | _ | _ | _ | _ | _ | _ | _ | _ | k <;> first | omega | rfl | simp[bxF,upd]) (λj k hj hk=>by rcases k with _ | _ | _ | _ | _ | _ | _ | _ | _ | _ | _ | _ | _ | _ | k <;> first | omega | rfl) (λr _ _ d' hd=>.inl ⟨d'.f,hd,λ_ _=>rfl⟩)
theorem sDone (x:Int):Mems B (aY mb tb { st with done:=x } V) (w.setCell ⟨mb,7,none⟩ (.int .i64 x)):=gD (gsetB h 7 (.int .i64 x)) rfl (λk hk=>by rcases k with _ | _ | _ | _ | _ | _ | _ | _ | _ | _ | _ | k <;> first | omega | rfl | simp[bxF,upd]) (λj k hj hk=>by rcases k with _ | _ | _ | _ | _ | _ | _ | _ | _ | _ | _ | _ | _ | _ | k <;> first | omega | rfl) (λr _ _ d' hd=>.inl ⟨d'.f,hd,λ_ _=>rfl⟩)
theorem sS {g c:Nat}(hS:V .S=.slice (some ⟨g,0,none⟩) st.size c) (j:Nat) (x:Int):Mems B (aY mb tb { st with S:=upd st.S j x } V) (w.setCell ⟨g,j,none⟩ (.int .i64 x)):=
 gD (gsetR h (r:=.S) (by simp) (by simp) (by rw[<-hS];rfl) j (.int .i64 x)) rfl (λk hk=>by rcases k with _ | _ | _ | _ | _ | _ | _ | _ | _ | _ | _ | k <;> first | omega | rfl | simp[bxF,upd]) (λj k hj hk=>by rcases k with _ | _ | _ | _ | _ | _ | _ | _ | _ | _ | _ | _ | _ | _ | k <;> first | omega | rfl) (λr _ _ d' hd=>by
  cases r with
  | S=>cases hd;exact .inl ⟨_,by rw[<-hS];exact if_pos rfl,λk _=>by by_cases e:k=j <;> simp[upd,e]⟩
  | _=>exact .inl ⟨d'.f,(if_neg (by simp)).trans hd,λ_ _=>rfl⟩)
theorem sVa {g c:Nat}(hS:V .V=.slice (some ⟨g,0,none⟩) st.size c) (j:Nat) (x:Int):Mems B (aY mb tb { st with V:=upd st.V j x } V) (w.setCell ⟨g,j,none⟩ (.int .i64 x)):=
 gD (gsetR h (r:=.V) (by simp) (by simp) (by rw[<-hS];rfl) j (.int .i64 x)) rfl (λk hk=>by rcases k with _ | _ | _ | _ | _ | _ | _ | _ | _ | _ | _ | k <;> first | omega | rfl | simp[bxF,upd]) (λj k hj hk=>by rcases k with _ | _ | _ | _ | _ | _ | _ | _ | _ | _ | _ | _ | _ | _ | k <;> first | omega | rfl) (λr _ _ d' hd=>by
  cases r with
  | V=>cases hd;exact .inl ⟨_,by rw[<-hS];exact if_pos rfl,λk _=>by by_cases e:k=j <;> simp[upd,e]⟩
  | _=>exact .inl ⟨d'.f,(if_neg (by simp)).trans hd,λ_ _=>rfl⟩)
theorem sNum {g c:Nat}(hS:V .Nu=.slice (some ⟨g,0,none⟩) st.rd c) (j:Nat) (x:Int):Mems B (aY mb tb { st with num:=upd st.num j x } V) (w.setCell ⟨g,j,none⟩ (.int .i64 x)):=
 gD (gsetR h (r:=.Nu) (by simp) (by simp) (by rw[<-hS];rfl) j (.int .i64 x)) rfl (λk hk=>by rcases k with _ | _ | _ | _ | _ | _ | _ | _ | _ | _ | _ | k <;> first | omega | rfl | simp[bxF,upd]) (λj k hj hk=>by rcases k with _ | _ | _ | _ | _ | _ | _ | _ | _ | _ | _ | _ | _ | _ | k <;> first | omega | rfl) (λr _ _ d' hd=>by
  cases r with
  | Nu=>cases hd;exact .inl ⟨_,by rw[<-hS];exact if_pos rfl,λk _=>by by_cases e:k=j <;> simp[upd,e]⟩
  | _=>exact .inl ⟨d'.f,(if_neg (by simp)).trans hd,λ_ _=>rfl⟩)
theorem sPl {g c:Nat}(hS:V .Pl=.slice (some ⟨g,0,none⟩) st.rd c) (j:Nat) (x:Int):Mems B (aY mb tb { st with place:=upd st.place j x } V) (w.setCell ⟨g,j,none⟩ (.int .i64 x)):=
 gD (gsetR h (r:=.Pl) (by simp) (by simp) (by rw[<-hS];rfl) j (.int .i64 x)) rfl (λk hk=>by rcases k with _ | _ | _ | _ | _ | _ | _ | _ | _ | _ | _ | k <;> first | omega | rfl | simp[bxF,upd]) (λj k hj hk=>by rcases k with _ | _ | _ | _ | _ | _ | _ | _ | _ | _ | _ | _ | _ | _ | k <;> first | omega | rfl) (λr _ _ d' hd=>by
  cases r with
  | Pl=>cases hd;exact .inl ⟨_,by rw[<-hS];exact if_pos rfl,λk _=>by by_cases e:k=j <;> simp[upd,e]⟩
  | _=>exact .inl ⟨d'.f,(if_neg (by simp)).trans hd,λ_ _=>rfl⟩)
end
end Go.Proofs.Ytlcplealnbekeaa
namespace Go.Proofs.Ytlcplealnbekeaa
open Go.RowKit
open Go.ConcN (upd upd_ne upd_same)
def qV (x:Int):Prop:=-9223372036854775808<=x/\x<9223372036854775808
def OpI.Fits (o:OpI):Prop:=qV o.a/\qV o.b
namespace RS
inductive At (m:RS) (i:Nat) (o:OpI):Prop where
 | look (hp:m.pc i=10) (hi:i=0) (hk:o.kind=1\/o.kind=4) (h1:1<=m.N i 0) (h2:m.N i 0<=m.size) (h3:m.next+m.N i 0<=4611686018427387904) (h4:0<=m.N i 2) (h5:m.N i 2<m.rd)
 | put (hp:m.pc i=20\/m.pc i=21\/m.pc i=22) (hi:i=0) (hk:o.kind=2\/o.kind=4) (h1:0<=m.N i 1) (h2:m.N i 1<m.next) (h3:o.kind=4->1<=m.N i 0/\m.N i 0<=m.size/\0<=m.N i 6/\m.N i 6<=m.N i 1/\m.N i 1<m.N i 6+m.N i 0/\m.N i 6+m.N i 0=m.next)
 | pub (hp:m.pc i=30) (hi:i=0) (hk:o.kind=3\/o.kind=4) (h1:0<=m.N i 1) (h2:m.N i 1<m.next) (h3:o.kind=4->0<=m.N i 6/\m.N i 6<=4611686018427387904)
 | get (hp:m.pc i=50\/m.pc i=51\/m.pc i=52\/m.pc i=53\/m.pc i=54) (hi:0<i) (hr:i<=m.rd) (hk:o.kind=5\/o.kind=6) (h1:1<=m.N i 0) (h2:m.N i 0<=2147483647) (h3:m.pc i=50->m.L i=[])
    (h4:51<=m.pc i->m.pc i<=53->m.place (i-1)+1+(m.L i).length<=m.N i 4/\m.N i 4<4611686018427387904/\((m.L i).length:Int)<m.N i 0) (h5:m.pc i=54->m.L i≠[]/\m.place (i-1)+(m.L i).length<4611686018427387904/\((m.L i).length:Int)<=m.N i 0)
structure Ok (m:RS):Prop where
 n:m.n<=64
 s0:0<m.size
 s1:m.size<=65536
 rd:m.rd<=64
 nx0:0<=m.next
 nx1:m.next<=4611686018427387904
 ca0:-1<=m.cached
 ca1:m.cached<=4611686018427387904
 dn0:-1<=m.done
 dn1:m.done<m.next
 cu0:-1<=m.cur
 cu1:m.cur<m.next
 nu:∀ j,j<m.rd->-1<=m.num j/\m.num j<4611686018427387904
 pl:∀ j,j<m.rd->-1<=m.place j/\m.place j<4611686018427387904
 len:∀ i,i<m.n->(m.ops i).length<=65536
 at_:∀ i,i<m.n->m.at_ i<=(m.ops i).length
 ans:∀ i,i<m.n->(m.ans i).length=m.at_ i
 op:∀ i,i<m.n->∀ o∈m.ops i,o.Fits
 nil:∀ i,i<m.n->m.pc i=0->m.L i=[]
 live:∀ i,i<m.n->m.pc i≠0->∃ o,(m.ops i)[m.at_ i]?=some o/\At m i o
structure Same (i:Nat) (m m':RS):Prop where
 size:m'.size=m.size
 rd:m'.rd=m.rd
 n:m'.n=m.n
 ops:m'.ops=m.ops
 X:m'.X=m.X
 o:∀ j,j≠i->m'.at_ j=m.at_ j/\m'.ans j=m.ans j/\m'.pc j=m.pc j/\m'.N j=m.N j/\m'.L j=m.L j/\m'.ended j=m.ended j
 pl:∀ j,j+1≠i->m'.place j=m.place j
 wr:i≠0->m'.next=m.next/\m'.cached=m.cached/\m'.done=m.done/\m'.cur=m.cur/\m'.old=m.old
theorem Same.refl (i:Nat) (m:RS):Same i m m:=⟨rfl,rfl,rfl,rfl,rfl,λ_ _=>⟨rfl,rfl,rfl,rfl,rfl,rfl⟩,λ_ _=>rfl,λ_=>⟨rfl,rfl,rfl,rfl,rfl⟩⟩
theorem Same.trans {i:Nat}{a b c:RS}(h:Same i a b) (k:Same i b c):Same i a c:=
 ⟨k.size.trans h.size,k.rd.trans h.rd,k.n.trans h.n,k.ops.trans h.ops,k.X.trans h.X,λj hj=>by
   obtain⟨a1,a2,a3,a4,a5,a6⟩:=h.o j hj;obtain⟨b1,b2,b3,b4,b5,b6⟩:=k.o j hj
   exact⟨b1.trans a1,b2.trans a2,b3.trans a3,b4.trans a4,b5.trans a5,b6.trans a6⟩,λj hj=>(k.pl j hj).trans (h.pl j hj),λhi=>by
   obtain⟨a1,a2,a3,a4,a5⟩:=h.wr hi;obtain⟨b1,b2,b3,b4,b5⟩:=k.wr hi;exact⟨b1.trans a1,b2.trans a2,b3.trans a3,b4.trans a4,b5.trans a5⟩⟩
theorem bE (m:RS) (i p:Nat):Same i m (m.stand i p):=⟨rfl,rfl,rfl,rfl,rfl,λj hj=>⟨rfl,rfl,upd_ne _ _ hj,rfl,rfl,rfl⟩,λ_ _=>rfl,λ_=>⟨rfl,rfl,rfl,rfl,rfl⟩⟩
theorem bM (m:RS) (i k:Nat) (x:Int):Same i m (m.setN i k x):=⟨rfl,rfl,rfl,rfl,rfl,λj hj=>⟨rfl,rfl,rfl,upd_ne _ _ hj,rfl,rfl⟩,λ_ _=>rfl,λ_=>⟨rfl,rfl,rfl,rfl,rfl⟩⟩
theorem dH (m:RS) (i:Nat) (a:Ans):Same i m (m.end_ i a):=⟨rfl,rfl,rfl,rfl,rfl,λj hj=>⟨upd_ne _ _ hj,upd_ne _ _ hj,upd_ne _ _ hj,rfl,upd_ne _ _ hj,rfl⟩,λ_ _=>rfl,λ_=>⟨rfl,rfl,rfl,rfl,rfl⟩⟩
theorem At.other {i j:Nat}{m m':RS}{o:OpI}(s:Same i m m') (hj:j≠i) (h:At m j o):At m' j o:=by
 obtain⟨-,-,e3,e4,e5,-⟩:=s.o j hj;cases h with
 | look hp hi hk h1 h2 h3 h4 h5 =>
   obtain⟨w1,-⟩:=s.wr (λe=>hj (hi.trans e.symm));exact .look (by rw[e3];exact hp) hi hk (by rw[e4];exact h1) (by rw[e4,s.size];exact h2) (by rw[e4,w1];exact h3) (by rw[e4];exact h4) (by rw[e4,s.rd];exact h5)
 | put hp hi hk h1 h2 h3 =>
   obtain⟨w1,-⟩:=s.wr (λe=>hj (hi.trans e.symm));exact .put (by rw[e3];exact hp) hi hk (by rw[e4];exact h1) (by rw[e4,w1];exact h2) (by rw[e4,w1,s.size];exact h3)
 | pub hp hi hk h1 h2 h3 =>
   obtain⟨w1,-⟩:=s.wr (λe=>hj (hi.trans e.symm));exact .pub (by rw[e3];exact hp) hi hk (by rw[e4];exact h1) (by rw[e4,w1];exact h2) (by rw[e4];exact h3)
 | get hp hi hr hk h1 h2 h3 h4 h5 =>
   have w:=s.pl (j-1) (by omega);exact .get (by rw[e3];exact hp) hi (by rw[s.rd];exact hr) hk (by rw[e4];exact h1) (by rw[e4];exact h2) (by rw[e3,e5];exact h3) (by rw[e3,e4,e5,w];exact h4) (by rw[e3,e4,e5,w];exact h5)
structure OkX (m:RS) (i:Nat):Prop where
 n:m.n<=64
 s0:0<m.size
 s1:m.size<=65536
 rd:m.rd<=64
 nx0:0<=m.next
 nx1:m.next<=4611686018427387904
 ca0:-1<=m.cached
 ca1:m.cached<=4611686018427387904
 dn0:-1<=m.done
 dn1:m.done<m.next
 cu0:-1<=m.cur
 cu1:m.cur<m.next
 nu:∀ j,j<m.rd->-1<=m.num j/\m.num j<4611686018427387904
 pl:∀ j,j<m.rd->-1<=m.place j/\m.place j<4611686018427387904
 len:∀ i,i<m.n->(m.ops i).length<=65536
 at_:∀ i,i<m.n->m.at_ i<=(m.ops i).length
 ans:∀ i,i<m.n->(m.ans i).length=m.at_ i
 op:∀ i,i<m.n->∀ o∈m.ops i,o.Fits
 nil:∀ j,j≠i->j<m.n->m.pc j=0->m.L j=[]
 live:∀ j,j≠i->j<m.n->m.pc j≠0->∃ o,(m.ops j)[m.at_ j]?=some o/\At m j o
theorem Ok.x {m:RS}(h:m.Ok) (i:Nat):m.OkX i:=⟨h.n,h.s0,h.s1,h.rd,h.nx0,h.nx1,h.ca0,h.ca1,h.dn0,h.dn1,h.cu0,h.cu1,h.nu,h.pl,h.len,h.at_,h.ans,h.op,λj _=>h.nil j,λj _=>h.live j⟩
structure Bd (m:RS):Prop where
 nx0:0<=m.next
 nx1:m.next<=4611686018427387904
 ca0:-1<=m.cached
 ca1:m.cached<=4611686018427387904
 dn0:-1<=m.done
 dn1:m.done<m.next
 cu0:-1<=m.cur
 cu1:m.cur<m.next
 nu:∀ j,j<m.rd->-1<=m.num j/\m.num j<4611686018427387904
 pl:∀ j,j<m.rd->-1<=m.place j/\m.place j<4611686018427387904
theorem OkX.bd {m:RS}{i:Nat}(h:m.OkX i):m.Bd:=⟨h.nx0,h.nx1,h.ca0,h.ca1,h.dn0,h.dn1,h.cu0,h.cu1,h.nu,h.pl⟩
theorem OkX.turnd {m m':RS}{i:Nat}(h:m.OkX i) (s:Same i m m') (b:m'.Bd) (e1:m'.at_ i=m.at_ i) (e2:m'.ans i=m.ans i):m'.OkX i where
 n:=by rw[s.n];exact h.n
 s0:=by rw[s.size];exact h.s0
 s1:=by rw[s.size];exact h.s1
 rd:=by rw[s.rd];exact h.rd
 nx0:=b.nx0
 nx1:=b.nx1
 ca0:=b.ca0
 ca1:=b.ca1
 dn0:=b.dn0
 dn1:=b.dn1
 cu0:=b.cu0
 cu1:=b.cu1
 nu:=b.nu
 pl:=b.pl
 len:=by rw[s.n,s.ops];exact h.len
 at_ j hj:=by
  rw[s.ops]
  by_cases e:j=i
  ·subst e;rw[e1];exact h.at_ _ (by rw[<-s.n];exact hj)
  ·rw [(s.o j e).1];exact h.at_ j (by rw[<-s.n];exact hj)
 ans j hj:=by
  by_cases e:j=i
  ·subst e;rw[e1,e2];exact h.ans _ (by rw[<-s.n];exact hj)
  ·rw [(s.o j e).1,(s.o j e).2.1];exact h.ans j (by rw[<-s.n];exact hj)
 op:=by rw[s.n,s.ops];exact h.op
 nil j hj hn hp:=by rw[(s.o j hj).2.2.2.2.1];exact h.nil j hj (by rw[<-s.n];exact hn) (by rw[<-(s.o j hj).2.2.1];exact hp)
 live j hj hn hp:=by
  obtain⟨o,h1,h2⟩:=h.live j hj (by rw[<-s.n];exact hn) (by rw[<-(s.o j hj).2.2.1];exact hp);exact⟨o,by rw[s.ops,(s.o j hj).1];exact h1,h2.other s hj⟩
theorem OkX.stand {m:RS}{i:Nat}(h:m.OkX i) (p:Nat):(m.stand i p).OkX i:=h.turnd (bE _ _ _) ⟨h.nx0,h.nx1,h.ca0,h.ca1,h.dn0,h.dn1,h.cu0,h.cu1,h.nu,h.pl⟩ rfl rfl
theorem OkX.setN {m:RS}{i:Nat}(h:m.OkX i) (k:Nat) (x:Int):(m.setN i k x).OkX i:=h.turnd (bM _ _ _ _) ⟨h.nx0,h.nx1,h.ca0,h.ca1,h.dn0,h.dn1,h.cu0,h.cu1,h.nu,h.pl⟩ rfl rfl
theorem OkX.end_ {m:RS}{i:Nat}(h:m.OkX i) (a:Ans) (hi:i<m.n) (hat:m.at_ i<(m.ops i).length):(m.end_ i a).Ok where
 n:=h.n
 s0:=h.s0
 s1:=h.s1
 rd:=h.rd
 nx0:=h.nx0
 nx1:=h.nx1
 ca0:=h.ca0
 ca1:=h.ca1
 dn0:=h.dn0
 dn1:=h.dn1
 cu0:=h.cu0
 cu1:=h.cu1
 nu:=h.nu
 pl:=h.pl
 len:=h.len
 at_ j hj:=by
  show Go.ConcN.upd m.at_ i _ j<=_
  by_cases e:j=i
  ·subst e;rw[upd_same];exact hat
  ·rw [upd_ne _ _ e];exact h.at_ j hj
 ans j hj:=by
  show (Go.ConcN.upd m.ans i _ j).length=Go.ConcN.upd m.at_ i _ j
  by_cases e:j=i
  ·subst e;rw[upd_same,upd_same,List.length_append,h.ans _ hj];rfl
  ·rw [upd_ne _ _ e,upd_ne _ _ e];exact h.ans j hj
 op:=h.op
 nil j hj hp:=by
  show Go.ConcN.upd m.L i [] j=[]
  by_cases e:j=i
  ·subst e;exact upd_same ..
  ·rw [upd_ne _ _ e];exact h.nil j e hj (by rw[<-upd_ne m.pc 0 e];exact hp)
 live j hj hp:=by
  by_cases e:j=i
  ·subst e;exact absurd (show Go.ConcN.upd m.pc _ 0 _=0 from upd_same ..) hp
  ·have s:=dH m i a
   obtain⟨o,h1,h2⟩:=h.live j e hj (by rw[<-upd_ne m.pc 0 e];exact hp);exact⟨o,by rw[(s.o j e).1];exact h1,h2.other s e⟩
theorem OkX.ok {m:RS}{i:Nat}{o:OpI}(h:m.OkX i) (hp:m.pc i≠0) (ho:(m.ops i)[m.at_ i]?=some o) (ha:At m i o):m.Ok where
 n:=h.n
 s0:=h.s0
 s1:=h.s1
 rd:=h.rd
 nx0:=h.nx0
 nx1:=h.nx1
 ca0:=h.ca0
 ca1:=h.ca1
 dn0:=h.dn0
 dn1:=h.dn1
 cu0:=h.cu0
 cu1:=h.cu1
 nu:=h.nu
 pl:=h.pl
 len:=h.len
 at_:=h.at_
 ans:=h.ans
 op:=h.op
 nil j hj hz:=by
  by_cases e:j=i
  ·subst e;exact absurd hz hp
  ·exact h.nil j e hj hz
 live j hj hz:=by
  by_cases e:j=i
  ·subst e;exact⟨o,ho,ha⟩
  ·exact h.live j e hj hz
theorem OkX.claimed {m:RS}{i:Nat}{o:OpI}(h:m.OkX i) (hi:i<m.n) (ho:(m.ops i)[m.at_ i]?=some o) (h0:i=0) (hk:o.kind=1\/o.kind=4) (h1:1<=m.N i 0) (h2:m.N i 0<=m.size) (h3:m.next+m.N i 0<=4611686018427387904):(m.claimed i o).Ok:=by
 have hat:=(List.getElem?_eq_some_iff.1 ho).1;unfold RS.claimed
 by_cases c:m.cached<m.next+m.N i 0-1-m.size
 ·rw [if_pos c]
  exact h.end_ _ hi hat
 rw[if_neg c]
 have hx:OkX { (m.setN i 6 m.next).setN i 1 m.next with next:=m.next+m.N i 0 } i:=by
  have h':=(h.setN 6 m.next).setN 1 m.next;refine h'.turnd ⟨rfl,rfl,rfl,rfl,rfl,λ_ _=>⟨rfl,rfl,rfl,rfl,rfl,rfl⟩,λ_ _=>rfl,λe=>absurd h0 e⟩ ⟨?_,?_,h.ca0,h.ca1,h.dn0,?_,h.cu0,?_,h.nu,h.pl⟩ rfl rfl
  ·show 0<=m.next+m.N i 0;have:=h.nx0;omega
  ·exact h3
  ·show m.done<m.next+m.N i 0;have:=h.dn1;omega
  ·show m.cur<m.next+m.N i 0;have:=h.cu1;omega
 dsimp only
 by_cases k1:o.kind=1
 ·rw [if_pos k1]
  exact hx.end_ _ hi hat
 rw[if_neg k1];have k4:o.kind=4:=hk.resolve_left k1;have n0:=h.nx0;refine(hx.stand 20).ok (by show upd m.pc i 20 i≠0;rw[upd_same];decide) ho (.put (.inl (upd_same _ _ _)) h0 (.inr k4) ?_ ?_ λ_=>?_)
 ·show 0<=upd (upd m.N i _) i _ i 1
  rw[upd_same,upd_same];exact n0
 ·show upd (upd m.N i _) i _ i 1<m.next+m.N i 0
  rw[upd_same,upd_same];omega
 ·have e0:((m.setN i 6 m.next).setN i 1 m.next).N i 0=m.N i 0:=by
   show upd (m.setN i 6 m.next).N i (upd ((m.setN i 6 m.next).N i) 1 m.next) i 0=_
   rw[upd_same,upd_ne _ _ (by decide)]
   show upd m.N i _ i 0=_
   rw[upd_same,upd_ne _ _ (by decide)]
  have e6:((m.setN i 6 m.next).setN i 1 m.next).N i 6=m.next:=by
   show upd (m.setN i 6 m.next).N i (upd ((m.setN i 6 m.next).N i) 1 m.next) i 6=_
   rw[upd_same,upd_ne _ _ (by decide)]
   show upd m.N i _ i 6=_
   rw[upd_same,upd_same]
  have e1:((m.setN i 6 m.next).setN i 1 m.next).N i 1=m.next:=by
   show upd (m.setN i 6 m.next).N i (upd ((m.setN i 6 m.next).N i) 1 m.next) i 1=_
   rw[upd_same,upd_same]
  show 1<=((m.setN i 6 m.next).setN i 1 m.next).N i 0/\((m.setN i 6 m.next).setN i 1 m.next).N i 0<=m.size/\0<=((m.setN i 6 m.next).setN i 1 m.next).N i 6/\((m.setN i 6 m.next).setN i 1 m.next).N i 6<=((m.setN i 6 m.next).setN i 1 m.next).N i 1/\((m.setN i 6 m.next).setN i 1 m.next).N i 1<((m.setN i 6 m.next).setN i 1 m.next).N i 6+((m.setN i 6 m.next).setN i 1 m.next).N i 0/\((m.setN i 6 m.next).setN i 1 m.next).N i 6+((m.setN i 6 m.next).setN i 1 m.next).N i 0=m.next+m.N i 0
  rw[e0,e1,e6];exact⟨h1,h2,n0,by omega,by omega,rfl⟩
theorem OkX.claim {m:RS}{i:Nat}{o:OpI}(h:m.OkX i) (hi:i<m.n) (ho:(m.ops i)[m.at_ i]?=some o) (h0:i=0) (hk:o.kind=1\/o.kind=4):(m.claim i o).Ok:=by
 have hat:=(List.getElem?_eq_some_iff.1 ho).1;unfold RS.claim
 by_cases c1:m.N i 0<1\/m.size<m.N i 0
 ·rw [if_pos c1];exact h.end_ _ hi hat
 rw[if_neg c1]
 by_cases c2:4611686018427387904-m.N i 0<m.next
 ·rw [if_pos c2];exact h.end_ _ hi hat
 rw[if_neg c2]
 by_cases c3:m.cached<m.next+m.N i 0-1-m.size
 ·rw [if_pos c3]
  have e0:(m.setN i 2 0).N i 0=m.N i 0:=by show upd m.N i _ i 0=_;rw[upd_same,upd_ne _ _ (by decide)]
  have hx:OkX { m.setN i 2 0 with cached:=4611686018427387904,old:=m.cached } i:=
   (h.setN 2 0).turnd ⟨rfl,rfl,rfl,rfl,rfl,λ_ _=>⟨rfl,rfl,rfl,rfl,rfl,rfl⟩,λ_ _=>rfl,λe=>absurd h0 e⟩ ⟨h.nx0,h.nx1,by show (-1:Int)<=4611686018427387904;decide,Int.le_refl _,h.dn0,h.dn1,h.cu0,h.cu1,h.nu,h.pl⟩ rfl rfl
  dsimp only
  by_cases c4:0<m.rd
  ·rw [if_pos c4]
   refine(hx.stand 10).ok (by show upd m.pc i 10 i≠0;rw[upd_same];decide) ho (.look (upd_same _ _ _) h0 hk ?_ ?_ ?_ ?_ ?_)
   ·show 1<=(m.setN i 2 0).N i 0;rw[e0];omega
   ·show (m.setN i 2 0).N i 0<=m.size;rw[e0];omega
   ·show m.next+(m.setN i 2 0).N i 0<=_;rw[e0];omega
   ·show 0<=upd m.N i _ i 2;rw[upd_same,upd_same];exact Int.le_refl _
   ·show upd m.N i _ i 2<(m.rd:Int);rw[upd_same,upd_same];omega
  ·rw [if_neg c4]
   exact hx.claimed hi ho h0 hk (by show 1<=(m.setN i 2 0).N i 0;rw[e0];omega) (by show (m.setN i 2 0).N i 0<=m.size;rw[e0];omega) (by show m.next+(m.setN i 2 0).N i 0<=_;rw[e0];omega)
 ·rw [if_neg c3]
  exact h.claimed hi ho h0 hk (by omega) (by omega) (by omega)
theorem held3_bd (n lo hi:Int) (h:lo<=hi):lo<=bA n lo hi/\bA n lo hi<=hi:=by
 unfold bA
 split
 ·omega
 ·split <;> omega
theorem Ok.begin_ {m:RS}{i:Nat}{o:OpI}(h:m.Ok) (hi:i<m.n) (hp:m.pc i=0) (ho:(m.ops i)[m.at_ i]?=some o):(m.begin_ i o).Ok:=by
 have hat:=(List.getElem?_eq_some_iff.1 ho).1;have hL:=h.nil i hi hp;have hx:=h.x i;unfold RS.begin_
 by_cases c1:i=0/\o.kind=1
 ·rw [if_pos c1]
  exact(hx.setN 0 _).claim hi ho c1.1 (.inl c1.2)
 rw[if_neg c1]
 by_cases c2:i=0/\o.kind=4
 ·rw [if_pos c2]
  exact((hx.setN 0 _).setN 0 _).claim hi ho c2.1 (.inr c2.2)
 rw[if_neg c2]
 by_cases c3:i=0/\(o.kind=2\/o.kind=3)
 ·rw [if_pos c3]
  by_cases c4:m.next<=o.a\/o.a<=m.done\/o.a<0
  ·rw [if_pos c4];exact hx.end_ _ hi hat
  ·rw [if_neg c4]
   have e1:upd m.N i (upd (m.N i) 1 o.a) i 1=o.a:=by rw[upd_same,upd_same]
   by_cases k3:o.kind=3
   ·rw [if_pos k3]
    refine((hx.setN 1 _).stand 30).ok (by show upd m.pc i 30 i≠0;rw[upd_same];decide) ho (.pub (upd_same _ _ _) c3.1 (.inl k3) ?_ ?_ λk4=>by omega)
    ·show 0<=upd m.N i _ i 1;rw[e1];omega
    ·show upd m.N i _ i 1<m.next;rw[e1];omega
   ·rw [if_neg k3]
    have k2:o.kind=2:=c3.2.resolve_right k3;refine((hx.setN 1 _).stand 20).ok (by show upd m.pc i 20 i≠0;rw[upd_same];decide) ho (.put (.inl (upd_same _ _ _)) c3.1 (.inl k2) ?_ ?_ λk4=>by omega)
    ·show 0<=upd m.N i _ i 1;rw[e1];omega
    ·show upd m.N i _ i 1<m.next;rw[e1];omega
 rw[if_neg c3]
 have get:∀ m':RS,m'.OkX i->m'.n=m.n->m'.ops=m.ops->m'.at_=m.at_->m'.rd=m.rd->m'.L=m.L->0<i->i<=m.rd->(o.kind=5\/o.kind=6)->1<=m'.N i 0->m'.N i 0<=2147483647->(m'.stand i 50).Ok:=by
  intro m' hx' en eo ea er eL h1 h2 hk n1 n2;refine(hx'.stand 50).ok (by show upd m'.pc i 50 i≠0;rw[upd_same];decide) (by show (m'.ops i)[m'.at_ i]?=_;rw[eo,ea];exact ho) (.get (.inl (upd_same _ _ _)) h1 (by show i<=m'.rd;rw[er];exact h2) hk n1 n2 (λ_=>by show m'.L i=[];rw[eL];exact hL) (λz=>?_) λz=>?_)
  ·have z:51<=upd m'.pc i 50 i:=z
   rw[upd_same] at z;omega
  ·have z:upd m'.pc i 50 i=54:=z
   rw[upd_same] at z;omega
 by_cases c5:0<i/\i<=m.rd/\o.kind=5
 ·rw [if_pos c5]
  have e0:upd m.N i (upd (m.N i) 0 1) i 0=1:=by rw[upd_same,upd_same]
  exact get _ (hx.setN 0 1) rfl rfl rfl rfl rfl c5.1 c5.2.1 (.inl c5.2.2) (by show 1<=upd m.N i _ i 0;rw[e0];omega) (by show upd m.N i _ i 0<=_;rw[e0];omega)
 rw[if_neg c5]
 by_cases c6:0<i/\i<=m.rd/\o.kind=6
 ·rw [if_pos c6]
  have e0:((m.setN i 0 1).setN i 0 (bA (bA o.a (-1) 2147483647) 1 2147483647)).N i 0=bA (bA o.a (-1) 2147483647) 1 2147483647:=by
   show upd (upd m.N i _) i _ i 0=_;rw[upd_same,upd_same]
  have b:=held3_bd (bA o.a (-1) 2147483647) 1 2147483647 (by decide);exact get _ ((hx.setN 0 1).setN 0 _) rfl rfl rfl rfl rfl c6.1 c6.2.1 (.inr c6.2.2) (by rw[e0];exact b.1) (by rw[e0];exact b.2)
 ·rw [if_neg c6];exact hx.end_ _ hi hat
theorem Ok.write {m:RS}{i:Nat}{o:OpI}(h:m.Ok) (hi:i<m.n) (hp:m.pc i≠0) (ho:(m.ops i)[m.at_ i]?=some o) (ha:At m i o) (hw:m.pc i=20\/m.pc i=21\/m.pc i=22\/m.pc i=30):(m.write i o).Ok:=by
 have hat:=(List.getElem?_eq_some_iff.1 ho).1;have hx:=h.x i;unfold RS.write;dsimp only
 have put:∀ (m':RS) (p:Nat) (x:Int),m'.OkX i->m'.n=m.n->m'.ops=m.ops->m'.at_=m.at_->m'.next=m.next->m'.size=m.size->m'.N i 0=m.N i 0->m'.N i 6=m.N i 6->m'.N i 1=x->m'.pc i=p->(p=20\/p=21\/p=22)->i=0->(o.kind=2\/o.kind=4)->0<=x->x<m.next ->
   (o.kind=4->1<=m.N i 0/\m.N i 0<=m.size/\0<=m.N i 6/\m.N i 6<=x/\x<m.N i 6+m.N i 0/\m.N i 6+m.N i 0=m.next)->m'.Ok:=by
  intro m' p x hx' en eo ea ex es e0 e6 e1 ep hp3 h0 hk x0 x1 x4;subst e1;refine hx'.ok (by rw[ep];omega) (by rw[eo,ea];exact ho) (.put (by rw[ep];exact hp3) h0 hk x0 (by rw[ex];exact x1) λk4=>?_);rw[e0,e6,ex,es];exact x4 k4
 cases ha with
 | look hp'=>omega
 | get hp'=>omega
 | put hp' h0 hk h1 h2 h3 =>
   rcases hp' with p | p | p
   ·rw [if_pos p]
    refine put _ 21 (m.N i 1) ((hx.stand 21).turnd ⟨rfl,rfl,rfl,rfl,rfl,λ_ _=>⟨rfl,rfl,rfl,rfl,rfl,rfl⟩,λ_ _=>rfl,λ_=>⟨rfl,rfl,rfl,rfl,rfl⟩⟩ ⟨h.nx0,h.nx1,h.ca0,h.ca1,h.dn0,h.dn1,h.cu0,h.cu1,h.nu,h.pl⟩ rfl rfl) rfl rfl rfl rfl rfl rfl rfl rfl (upd_same _ _ _) (.inr (.inl rfl)) h0 hk h1 h2 h3
   ·rw [if_neg (by omega),if_pos p]
    refine put _ 22 (m.N i 1) ((hx.stand 22).turnd ⟨rfl,rfl,rfl,rfl,rfl,λ_ _=>⟨rfl,rfl,rfl,rfl,rfl,rfl⟩,λ_ _=>rfl,λ_=>⟨rfl,rfl,rfl,rfl,rfl⟩⟩ ⟨h.nx0,h.nx1,h.ca0,h.ca1,h.dn0,h.dn1,h.cu0,h.cu1,h.nu,h.pl⟩ rfl rfl) rfl rfl rfl rfl rfl rfl rfl rfl (upd_same _ _ _) (.inr (.inr rfl)) h0 hk h1 h2 h3
   ·rw [if_neg (by omega),if_neg (by omega),if_pos p]
    have hx1:OkX { m with S:=upd m.S (m.N i 1%m.size).toNat (2*(m.N i 1 / m.size)) } i:=hx.turnd ⟨rfl,rfl,rfl,rfl,rfl,λ_ _=>⟨rfl,rfl,rfl,rfl,rfl,rfl⟩,λ_ _=>rfl,λ_=>⟨rfl,rfl,rfl,rfl,rfl⟩⟩ ⟨h.nx0,h.nx1,h.ca0,h.ca1,h.dn0,h.dn1,h.cu0,h.cu1,h.nu,h.pl⟩ rfl rfl
    by_cases k2:o.kind=2
    ·rw [if_pos k2];exact hx1.end_ _ hi hat
    rw[if_neg k2];have k4:=hk.resolve_left k2;obtain⟨b1,b2,b3,b4,b5,b6⟩:=h3 k4
    by_cases c:m.N i 1=m.N i 6+m.N i 0-1
    ·rw [if_pos c]
     refine((hx1.stand 20).stand 30).ok (by show upd (upd m.pc i 20) i 30 i≠0;rw[upd_same];decide) ho (.pub (upd_same _ _ _) h0 (.inr k4) h1 h2 λ_=>⟨b3,?_⟩)
     show m.N i 6<=_
     have:=h.nx1;omega
    ·rw [if_neg c]
     have e0:upd m.N i (upd (m.N i) 1 (m.N i 1+1)) i 0=m.N i 0:=by rw[upd_same,upd_ne _ _ (by decide)]
     have e6:upd m.N i (upd (m.N i) 1 (m.N i 1+1)) i 6=m.N i 6:=by rw[upd_same,upd_ne _ _ (by decide)]
     have e1:upd m.N i (upd (m.N i) 1 (m.N i 1+1)) i 1=m.N i 1+1:=by rw[upd_same,upd_same]
     exact put _ 20 (m.N i 1+1) ((hx1.stand 20).setN 1 _) rfl rfl rfl rfl rfl e0 e6 e1 (upd_same _ _ _) (.inl rfl) h0 hk (by omega) (by omega) λ_=>⟨b1,b2,b3,by omega,by omega,b6⟩
 | pub hp' h0 hk h1 h2 h3 =>
   rw[if_neg (by omega),if_neg (by omega),if_neg (by omega),if_pos hp'];refine OkX.end_ (m:={ m with cur:=m.N i 1,done:=m.N i 1 }) (hx.turnd ⟨rfl,rfl,rfl,rfl,rfl,λ_ _=>⟨rfl,rfl,rfl,rfl,rfl,rfl⟩,λ_ _=>rfl,λe=>absurd h0 e⟩ ⟨h.nx0,h.nx1,h.ca0,h.ca1,?_,h2,?_,h2,h.nu,h.pl⟩ rfl rfl) _ hi hat
   ·show -1<=m.N i 1;omega
   ·show -1<=m.N i 1;omega
theorem Ok.read {m:RS}{i:Nat}{o:OpI}(h:m.Ok) (hi:i<m.n) (hp:m.pc i≠0) (ho:(m.ops i)[m.at_ i]?=some o) (ha:At m i o) (hw:m.pc i=50\/m.pc i=51\/m.pc i=52\/m.pc i=53\/m.pc i=54):(m.read i o).Ok:=by
 have hat:=(List.getElem?_eq_some_iff.1 ho).1;have hx:=h.x i;cases ha with
 | look hp'=>omega
 | put hp'=>omega
 | pub hp'=>omega
 | get hp' h0 hr hk h1 h2 h3 h4 h5 =>
   have hpl:=h.pl (i-1) (by omega)
   have get:∀ (m':RS) (p:Nat),m'.OkX i->m'.n=m.n->m'.ops=m.ops->m'.at_=m.at_->m'.rd=m.rd->m'.N i 0=m.N i 0->m'.pc i=p->(p=51\/p=52\/p=53\/p=54) ->
     (51<=p->p<=53->m'.place (i-1)+1+(m'.L i).length<=m'.N i 4/\m'.N i 4<4611686018427387904/\((m'.L i).length:Int)<m.N i 0)->(p=54->m'.L i≠[]/\m'.place (i-1)+(m'.L i).length<4611686018427387904/\((m'.L i).length:Int)<=m.N i 0)->m'.Ok:=by
    intro m' p hx' en eo ea er e0 ep hp4 g1 g2;subst ep;exact hx'.ok (by omega) (by rw[eo,ea];exact ho) (.get (by omega) h0 (by rw[er];exact hr) hk (by rw[e0];exact h1) (by rw[e0];exact h2) (λz=>by omega) (λz1 z2=>by rw[e0];exact g1 z1 z2) λz=>by rw[e0];exact g2 z)
   have ref:∀ (m':RS) (e:Int),m'.OkX i->m'.n=m.n->m'.ops=m.ops->m'.at_=m.at_->m'.rd=m.rd->m'.N i 0=m.N i 0->m'.L=m.L->m'.place=m.place->(m.L i≠[]->m.place (i-1)+(m.L i).length<4611686018427387904/\((m.L i).length:Int)<=m.N i 0)->(m'.refused i e).Ok:=by
    intro m' e hx' en eo ea er e0 eL epl hb;unfold RS.refused
    by_cases c:m'.L i=[]
    ·rw [if_pos c]
     exact(hx'.stand 54).end_ _ (by show i<m'.n;rw[en];exact hi) (by show m'.at_ i<(m'.ops i).length;rw[eo,ea];exact hat)
    ·rw [if_neg c]
     exact get _ 54 (hx'.stand 54) en eo ea er e0 (upd_same _ _ _) (.inr (.inr (.inr rfl))) (λ_ z=>by omega) λ_=>⟨c,by show m'.place (i-1)+(m'.L i).length<_/\_;rw[epl,show (m'.stand i 54).L=m'.L from rfl,eL];exact hb (by rw[<-eL];exact c)⟩
   unfold RS.read;dsimp only;have eN:∀ (k:Nat) (x:Int),k≠0->upd m.N i (upd (m.N i) k x) i 0=m.N i 0:=λk x hk=>by rw[upd_same,upd_ne _ _ (Ne.symm hk)]
   rcases hp' with p | p | p | p | p
   ·rw [if_pos p]
    have hL:=h3 p
    by_cases c:m.cur<=m.place (i-1)
    ·rw [if_pos c];exact((hx.setN 4 m.cur).stand 51).end_ _ hi hat
    ·rw [if_neg c]
     refine get _ 51 ((hx.setN 4 m.cur).stand 51) rfl rfl rfl rfl (eN _ _ (by decide)) (upd_same _ _ _) (.inl rfl) (λ_ _=>?_) λz=>by omega
     show m.place (i-1)+1+(m.L i).length<=upd m.N i _ i 4/\upd m.N i _ i 4<_/\((m.L i).length:Int)<_
     rw[upd_same,upd_same,hL];have:=h.cu1;have:=h.nx1;simp only[List.length_nil]
     omega
   ·obtain ⟨b1,b2,b3⟩:=h4 (by omega) (by omega)
    rw[if_neg (by omega),if_pos p];have hx1:=(hx.setN 5 (m.S ((m.place (i-1)+1+(m.L i).length)%m.size).toNat)).stand 52;have hb:m.L i≠[]->m.place (i-1)+(m.L i).length<4611686018427387904/\((m.L i).length:Int)<=m.N i 0:=λ_=>by omega
    split
    ·exact ref _ 6 hx1 rfl rfl rfl rfl (eN _ _ (by decide)) rfl rfl hb
    ·split
     ·exact ref _ 10 hx1 rfl rfl rfl rfl (eN _ _ (by decide)) rfl rfl hb
     ·refine get _ 52 hx1 rfl rfl rfl rfl (eN _ _ (by decide)) (upd_same _ _ _) (.inr (.inl rfl)) (λ_ _=>?_) λz=>by omega
      show m.place (i-1)+1+(m.L i).length<=upd m.N i _ i 4/\upd m.N i _ i 4<_/\((m.L i).length:Int)<_
      rw[upd_same,upd_ne _ _ (by decide)];exact⟨b1,b2,b3⟩
   ·obtain ⟨b1,b2,b3⟩:=h4 (by omega) (by omega)
    rw[if_neg (by omega),if_neg (by omega),if_pos p];refine get _ 53 ((hx.setN 3 _).stand 53) rfl rfl rfl rfl (eN _ _ (by decide)) (upd_same _ _ _) (.inr (.inr (.inl rfl))) (λ_ _=>?_) λz=>by omega
    show m.place (i-1)+1+(m.L i).length<=upd m.N i _ i 4/\upd m.N i _ i 4<_/\((m.L i).length:Int)<_
    rw[upd_same,upd_ne _ _ (by decide)];exact⟨b1,b2,b3⟩
   ·obtain ⟨b1,b2,b3⟩:=h4 (by omega) (by omega)
    rw[if_neg (by omega),if_neg (by omega),if_neg (by omega),if_pos p]
    split
    ·exact ref _ 10 hx rfl rfl rfl rfl rfl rfl rfl λ_=>by omega
    ·have hx1:OkX (({ m with L:=upd m.L i (m.L i++[m.N i 3]) }:RS).stand i 51) i:=
      hx.turnd ⟨rfl,rfl,rfl,rfl,rfl,λj hj=>⟨rfl,rfl,upd_ne _ _ hj,rfl,upd_ne _ _ hj,rfl⟩,λ_ _=>rfl,λ_=>⟨rfl,rfl,rfl,rfl,rfl⟩⟩ ⟨h.nx0,h.nx1,h.ca0,h.ca1,h.dn0,h.dn1,h.cu0,h.cu1,h.nu,h.pl⟩ rfl rfl
     have eL:(upd m.L i (m.L i++[m.N i 3]) i).length=(m.L i).length+1:=by rw[upd_same];simp
     split
     ·refine get _ 54 (hx1.stand 54) rfl rfl rfl rfl rfl (upd_same _ _ _) (.inr (.inr (.inr rfl))) (λ_ z=>by omega) λ_=>?_
      show upd m.L i _ i≠[]/\m.place (i-1)+(upd m.L i _ i).length<_/\((upd m.L i _ i).length:Int)<=_
      rw[eL];refine⟨by rw[upd_same];simp,?_,?_⟩ <;> omega
     ·rename_i c
      refine get _ 51 hx1 rfl rfl rfl rfl rfl (upd_same _ _ _) (.inl rfl) (λ_ _=>?_) λz=>by omega
      show m.place (i-1)+1+(upd m.L i _ i).length<=m.N i 4/\m.N i 4<_/\((upd m.L i _ i).length:Int)<_
      rw[eL];refine⟨?_,b2,?_⟩ <;> omega
   ·obtain ⟨b1,b2,b3⟩:=h5 p
    have hl:0<(m.L i).length:=List.length_pos_iff.2 b1;rw[if_neg (by omega),if_neg (by omega),if_neg (by omega),if_neg (by omega),if_pos p];refine OkX.end_ (m:={ m with place:=upd m.place (i-1) (m.place (i-1)+(m.L i).length),num:=upd m.num (i-1) (m.place (i-1)+(m.L i).length) }) (hx.turnd ⟨rfl,rfl,rfl,rfl,rfl,λ_ _=>⟨rfl,rfl,rfl,rfl,rfl,rfl⟩,λj hj=>upd_ne _ _ (by omega),λ_=>⟨rfl,rfl,rfl,rfl,rfl⟩⟩ ⟨h.nx0,h.nx1,h.ca0,h.ca1,h.dn0,h.dn1,h.cu0,h.cu1,λj hj=>?_,λj hj=>?_⟩ rfl rfl) _ hi hat
    ·show -1<=upd m.num _ _ j/\upd m.num _ _ j<_
     by_cases e:j=i-1
     ·subst e;rw[upd_same];omega
     ·rw [upd_ne _ _ e];exact h.nu j hj
    ·show -1<=upd m.place _ _ j/\upd m.place _ _ j<_
     by_cases e:j=i-1
     ·subst e;rw[upd_same];omega
     ·rw [upd_ne _ _ e];exact h.pl j hj
theorem Ok.step {m:RS}{i:Nat}{o:OpI}(h:m.Ok) (hi:i<m.n) (hp:m.pc i≠0) (ho:(m.ops i)[m.at_ i]?=some o):(m.step i o).Ok:=by
 obtain⟨o',ho',ha⟩:=h.live i hi hp;obtain rfl:o'=o:=by rw[ho] at ho';cases ho';rfl
 have hx:=h.x i;unfold RS.step;cases id ha with
 | look hp' h0 hk h1 h2 h3 h4 h5 =>
   rw[if_pos hp'];dsimp only;have hnu:=h.nu (m.N i 2).toNat (by omega);have e0:(m.setN i 2 (m.N i 2+1)).N i 0=m.N i 0:=by show upd m.N i _ i 0=_;rw[upd_same,upd_ne _ _ (by decide)]
   have hx1:OkX { m.setN i 2 (m.N i 2+1) with cached:=if m.num (m.N i 2).toNat<m.cached then m.num (m.N i 2).toNat else m.cached } i:=
    (hx.setN 2 _).turnd ⟨rfl,rfl,rfl,rfl,rfl,λ_ _=>⟨rfl,rfl,rfl,rfl,rfl,rfl⟩,λ_ _=>rfl,λe=>absurd h0 e⟩ ⟨h.nx0,h.nx1,by have:=h.ca0;show -1<=ite _ _ _;split <;> omega,by have:=h.ca1;show ite _ _ _<=_;split <;> omega,h.dn0,h.dn1,h.cu0,h.cu1,h.nu,h.pl⟩ rfl rfl
   by_cases c:m.N i 2+1=(m.rd:Int)
   ·rw [if_pos c]
    exact hx1.claimed hi ho h0 hk (by show 1<=(m.setN i 2 _).N i 0;rw[e0];exact h1) (by show (m.setN i 2 _).N i 0<=m.size;rw[e0];exact h2) (by show m.next+(m.setN i 2 _).N i 0<=_;rw[e0];exact h3)
   ·rw [if_neg c]
    refine hx1.ok hp ho (.look hp' h0 hk ?_ ?_ ?_ ?_ ?_)
    ·show 1<=(m.setN i 2 _).N i 0;rw[e0];exact h1
    ·show (m.setN i 2 _).N i 0<=m.size;rw[e0];exact h2
    ·show m.next+(m.setN i 2 _).N i 0<=_;rw[e0];exact h3
    ·show 0<=upd m.N i _ i 2;rw[upd_same,upd_same];omega
    ·show upd m.N i _ i 2<(m.rd:Int);rw[upd_same,upd_same];omega
 | put hp' h0 hk h1 h2 h3 =>
   rw[if_neg (by omega),if_pos (by omega)];exact h.write hi hp ho ha (by omega)
 | pub hp' h0 hk h1 h2 h3 =>
   rw[if_neg (by omega),if_pos (by omega)];exact h.write hi hp ho ha (by omega)
 | get hp' h0 hr hk h1 h2 h3 h4 h5 =>
   rw[if_neg (by omega),if_neg (by omega)];exact h.read hi hp ho ha hp'
end RS
end Go.Proofs.Ytlcplealnbekeaa
namespace Go.Proofs.Ytlcplealnbekeaa
open Go.RowKit Go.Turn
open Go.ConcN (upd upd_ne upd_same)
theorem gU (n lo hi:Int) (w:World):Calls Try.prog 71 #[.int .i64 n,.int .i64 lo,.int .i64 hi] w λe w'=>e=.returned (.int .i64 (bA n lo hi))/\w=w':=by
 unfold bA
 by_cases h1:n<lo
 ·have d1:decide (n<lo)=true:=decide_eq_true h1
  rw[if_pos h1];clear h1
  go_enter Try.func71,Try.ntmps71
  go_wp2;go_ret;exact⟨rfl,rfl⟩
 have d1:decide (n<lo)=false:=decide_eq_false h1;rw[if_neg h1]
 by_cases h2:hi<n
 ·have d2:decide (hi<n)=true:=decide_eq_true h2
  rw[if_pos h2];clear h1 h2
  go_enter Try.func71,Try.ntmps71
  go_wp2;go_ret;exact⟨rfl,rfl⟩
 have d2:decide (hi<n)=false:=decide_eq_false h2;rw[if_neg h2];clear h1 h2
 go_enter Try.func71,Try.ntmps71
 go_wp2;go_ret;exact⟨rfl,rfl⟩
section
variable {B mb:Nat}{tb:Nat->Nat}{st:RS}{V:Rt->Value}{w w':World}{i:Nat}
theorem op_cells (h:Mems B (aY mb tb st V) w) (hi:i<st.n) {o:OpI}(ho:(st.ops i)[st.at_ i]?=some o):∃ g c,V (.op i)=.slice (some ⟨g,0,none⟩) (st.ops i).length c/\(st.ops i).length<=c/\c<=maxLen /\
  w.cell? ⟨g,st.at_ i*4,none⟩=some (.int .i64 o.kind)/\w.cell? ⟨g,st.at_ i*4+1,none⟩=some (.int .i64 o.a)/\w.cell? ⟨g,st.at_ i*4+2,none⟩=some (.int .i64 o.b)/\w.cell? ⟨g,st.at_ i*4+3,none⟩=some (.int .i64 o.c):=by
 obtain⟨hat,he⟩:=List.getElem?_eq_some_iff.1 ho;have hr:aY mb tb st V (.op i)=some ⟨46,4,V (.op i),(st.ops i).length,cJ 4 (oqF (st.ops i))⟩:=by simp only[aY,bW,bQ,if_pos hi]
 obtain⟨g,c,e1,e2,e3⟩:=bS h hr (by omega);rw[e1] at hr;have eo:(st.ops i).getD (st.at_ i) ⟨0,0,0,0⟩=o:=by rw[List.getD_eq_getElem?_getD,ho];rfl
 have key:∀ k,k<4->w.cell? ⟨g,st.at_ i*4+k,none⟩=some (oqF (st.ops i) (st.at_ i) k):=λk hk=>by
  rw[h.cell hr (recF_lt hat hk),jH hk]
 refine⟨g,c,e1,e2,e3,?_,?_,?_,?_⟩
 ·have:=key 0 (by omega);rw[Nat.add_zero] at this;rw[this];simp only[oqF,eo]
 ·rw [key 1 (by omega)];simp only[oqF,eo]
 ·rw [key 2 (by omega)];simp only[oqF,eo]
 ·rw [key 3 (by omega)];simp only[oqF,eo]
theorem mM (h:Mems B (aY mb tb st V) w) (hi:i<st.n) {o:OpI}(ho:(st.ops i)[st.at_ i]?=some o) (hlen:(st.ops i).length<=65536):Calls Try.prog 70 #[.pointer (some ⟨tb i,0,none⟩)] w λe w'=>e=.returned o.val/\Kept (λ_=>False) w w':=by
 have hat:=(List.getElem?_eq_some_iff.1 ho).1;have HM:=qd (And.intro h ho);clear h ho
 go_enter Try.func70,Try.ntmps70
 go_wp2;have hm:=HM.out.1.alloc (.cells #[.int .i64 0,.int .i64 0,.int .i64 0,.int .i64 0] 46);have hk:=Kept.alloc (S:=λ_=>False) w (.cells #[.int .i64 0,.int .i64 0,.int .i64 0,.int .i64 0] 46);have hb:=Blk.new w 46 #[.int .i64 0,.int .i64 0,.int .i64 0,.int .i64 0];generalize w.alloc (.cells #[.int .i64 0,.int .i64 0,.int .i64 0,.int .i64 0] 46)=wa at hm hk hb ⊢;generalize hxb:w.heap.size=xb at hb ⊢;obtain⟨g,c,e1,e2,e3,q0,q1,q2,q3⟩:=op_cells hm hi HM.out.2;have t0:wa.cell? ⟨tb i,0,none⟩=some (.slice (some ⟨g,0,none⟩) (st.ops i).length c):=by rw[aS hm hi 0 (by omega)];exact congrArg some e1
 have t1:wa.cell? ⟨tb i,1,none⟩=some (.int .i64 (st.at_ i)):=aS hm hi 1 (by omega);have HB:=qd (And.intro hk (And.intro hb hxb));clear hm hk hb hxb e1 HM;obtain⟨kd,oa,ob,oc⟩:=o;unfold maxLen at e3;generalize st.at_ i=j at *;generalize (st.ops i).length=l at *;refine aR 10 (by kernel_rfl) (by kernel_rfl) (by kernel_rfl) (by kernel_rfl) ?_;simp only[idle,zB,Nat.reduceAdd]
 repeat (go_big_quiet_step (fail))
 refine wpQuiet_nil ?_;rintro _ ⟨nq,rfl⟩;refine aX (m:=10) rfl ?_;clear t0 t1 q0 q1 q2 q3;obtain⟨hk,hb,hxb⟩:=HB.out;have hk2:=hk.trans (Kept.drewN (λ_=>False) wa nq);have hb2:=hb.drewN nq;clear hk hb HB;generalize World.drewN wa nq=wd at hk2 hb2 ⊢;have z0:=hb2.cell 0;have z1:=hb2.cell 1;have z2:=hb2.cell 2;have z3:=hb2.cell 3;have y0:=hb2.frozen 0;have y1:=hb2.frozen 1;have y2:=hb2.frozen 2;have y3:=hb2.frozen 3;have HB:=qd (And.intro hk2 (And.intro hb2 hxb));simp only[zD] at z0 z1 z2 z3;clear hk2 hb2 hxb;go_wp2;obtain⟨hk2,hb2,hxb⟩:=HB.out;have hb3:=(((hb2.set_ 0 (.int .i64 kd)).set_ 1 (.int .i64 oa)).set_ 2 (.int .i64 ob)).set_ 3 (.int .i64 oc);have ks:Kept (λb=>b=xb) wd ((((wd.setCell ⟨xb,0,none⟩ (.int .i64 kd)).setCell ⟨xb,1,none⟩ (.int .i64 oa)).setCell ⟨xb,2,none⟩ (.int .i64 ob)).setCell ⟨xb,3,none⟩ (.int .i64 oc)):=(((Kept.setCell (S:=λb=>b=xb) wd (p:=⟨xb,0,none⟩) rfl _).trans (Kept.setCell (S:=λb=>b=xb) _ (p:=⟨xb,1,none⟩) rfl _)).trans (Kept.setCell (S:=λb=>b=xb) _ (p:=⟨xb,2,none⟩) rfl _)).trans (Kept.setCell (S:=λb=>b=xb) _ (p:=⟨xb,3,none⟩) rfl _);generalize World.setCell _ _ _=we at hb3 ks ⊢;have c0:=hb3.cell 0;have c1:=hb3.cell 1;have c2:=hb3.cell 2;have c3:=hb3.cell 3;simp only[zA,zD] at c0 c1 c2 c3;refine bodyPost_ret (v:=OpI.val ⟨kd,oa,ob,oc⟩) ?_ rfl ⟨rfl,hk2.later ks λb hb=>by omega⟩
 simp[results,Try.f70,go_sem,c0,c1,c2,c3,OpI.val]
end
end Go.Proofs.Ytlcplealnbekeaa
namespace Go.Proofs.Ytlcplealnbekeaa
open Go.RowKit Go.Turn
open Go.ConcN (upd upd_ne upd_same)
theorem cY {S:Nat->Prop}{w w':World}{b i:Nat}{v:Value}(h:w.cell? ⟨b,i,none⟩=some v) (k:Kept S w w') (hs:¬S b):w'.cell? ⟨b,i,none⟩=some v:=(World.cell?_of_block (w:=w) (a:=⟨b,i,none⟩) (k.block b (bG h) hs)).trans h
theorem Try.infoAn:(Try.prog.info? 48).map (λi=>(i.zero,i.size,i.bytes))=some (some (.agg #[.bool false,.int .i64 0,.slice none 0 0]),3,40):=by kernel_rfl
section
variable {B mb:Nat}{tb:Nat->Nat}{st:RS}{V:Rt->Value}{w w':World}{i:Nat}
theorem cD {ρ:Type} [DecidableEq ρ] {R:ρ->Option Row}(h:Mems B R w) {r r':ρ}{d d':Row}(hr:R r=some d) (hr':R r'=some d') (hne:r≠r') {b:Nat}(hb:d.v.ownBlock=some b):d'.v.ownBlock≠some b:=λz=>by
 obtain⟨lab,k⟩:=h.ex;have l1:=(k r d hr).2 b hb;have l2:=(k r' d' hr').2 b z;rw[l1] at l2;cases l2;exact hne rfl
def mI (tb:Nat->Nat) (st:RS) (V:Rt->Value) (i:Nat) (vg:Value) (a:Ans) (lv:Value):Rt->Option Row:=λr =>
 if r=.ans i then some ⟨48,3,vg,(st.ans i).length+1,cJ 3 (anF (λr=>if r=.ls i (st.ans i).length then lv else V r) i (st.ans i++[a]))⟩
 else if r=.L i then none
 else if r=.ls i (st.ans i).length then some (dL lv a.ls)
 else bQ tb st V r
theorem end_rows {x w1:World}{a:Ans}{lv vg:Value}(hm:Mems B (aY mb tb st V) x) (hi:i<st.n) (hl:(a.ls=[]/\lv=nilS)\/(a.ls=st.L i/\lv=V (.L i)))
  (hown:w1.ownsRow B 48 3 vg ((st.ans i).length+1) (aK ((st.ans i).length*3) (cJ 3 (anF V i (st.ans i)))++[.bool a.ok,.int .i64 a.n,lv]))
  (hg:x.grownBy w1 (V (.ans i)).ownBlock) (hv:vg.ownBlock=(V (.ans i)).ownBlock\/vg.ownBlock=some x.heap.size):Mems B (bW st.n mb tb (bxF st V) (tdF st V) (mI tb st V i vg a lv)) w1:=by
 have hL:aY mb tb st V (.L i)=some (dL (V (.L i)) (st.L i)):=by simp only[aY,bW,bQ,if_pos hi]
 have hls:aY mb tb st V (.ls i (st.ans i).length)=none:=by simp[aY,bW,bQ,hi]
 have h0:Mems B (bW st.n mb tb (bxF st V) (tdF st V) (λr=>if r=.L i then none else if r=.ls i (st.ans i).length then some (dL lv a.ls) else bQ tb st V r)) x:=by
  rcases hl with⟨e1,e2⟩ | ⟨e1,e2⟩
  ·refine hm.dropped λr d hr=>?_
   cases r with
   | box=>exact .inl hr
   | th j=>exact .inl hr
   | L j =>
     by_cases e:j=i
     ·subst e;simp[bW] at hr
     ·simp only [bW,Rt.L.injEq,if_neg e] at hr;exact .inl hr
   | ls j k =>
     by_cases e:j=i/\k=(st.ans i).length
     ·obtain ⟨rfl,rfl⟩:=e
      simp[bW] at hr
      subst hr;exact .inr ⟨e2,by simp[dL,e1]⟩
     ·simp only [bW,Rt.ls.injEq,if_neg e] at hr;exact .inl hr
   | _=>exact .inl hr
  ·rw [<-e1,<-e2] at hL
   refine hm.moved (r:=.L i) (r2:=.ls i (st.ans i).length) hL (by simp[bW]) (λd' hd=>by simp[bW] at hd) (by simp) λr' h1 h2=>?_;cases r' with
   | box=>rfl
   | th j=>rfl
   | _=>simp only[bW,if_neg h1,if_neg h2];rfl
 refine h0.app (r:=.ans i) (d:=⟨48,3,V (.ans i),(st.ans i).length,cJ 3 (anF V i (st.ans i))⟩) (d':=⟨48,3,vg,(st.ans i).length+1,cJ 3 (anF (λr=>if r=.ls i (st.ans i).length then lv else V r) i (st.ans i++[a]))⟩) (by simp[bW,bQ,hi]) (by simp[bW,mI]) (λr hr=>?_) hg ?_ hv
 ·cases r with
  | box=>rfl
  | th j=>rfl
  | _=>simp only[bW,mI,if_neg hr]
 ·unfold Row.At
  simp only
  have e:aK (((st.ans i).length+1)*3) (cJ 3 (anF (λr=>if r=.ls i (st.ans i).length then lv else V r) i (st.ans i++[a])))=aK ((st.ans i).length*3) (cJ 3 (anF V i (st.ans i)))++[.bool a.ok,.int .i64 a.n,lv]:=by
   have e1:([.bool a.ok,.int .i64 a.n,lv]:List Value)=aK 3 (λj=>([.bool a.ok,.int .i64 a.n,lv]:List Value).getD j undef):=jB _ _;rw[e1,dO,show (st.ans i).length*3+3=((st.ans i).length+1)*3 from by omega];refine bU λj hj=>?_
   by_cases hlt:j<(st.ans i).length*3
   ·have hlt':j / 3<(st.ans i).length:=(Nat.div_lt_iff_lt_mul (by omega)).2 hlt
    simp only[cJ,hlt,if_true];generalize j%3=k;generalize j / 3=l at hlt';have e2:¬l=(st.ans i).length:=by omega
    rcases k with _ | _ | k <;> simp[anF,e2,List.getElem?_append_left hlt']
   ·obtain ⟨k,rfl⟩:∃ k,j=(st.ans i).length*3+k:=⟨j-(st.ans i).length*3,by omega⟩
    have hk:k<3:=by omega
    rw[jH hk,if_neg hlt,show (st.ans i).length*3+k-(st.ans i).length*3=k by omega]
    rcases k with _ | _ | _ | k <;> first | omega | simp[anF]
  rw[e];exact hown
theorem anF_eq {V V':Rt->Value}{i:Nat}(h:∀ k,V (.ls i k)=V' (.ls i k)) (l:List Ans):anF V i l=anF V' i l:=by
 funext k j
 rcases j with _ | _ | j <;> simp[anF,h]
theorem end_shut {x:World}{a:Ans}{lv vg:Value}{F:Nat->Nat->Value}(hm:Mems B (bW st.n mb tb (bxF st V) F (mI tb st V i vg a lv)) x) (hi:i<st.n) (h1:∀ j k,k<14->j≠i->F j k=tdF st V j k) (h2:∀ k,k<14->F i k=if k=12 then vg else if k=1 then .int .i64 ((st.at_ i+1:Nat):Int) else if k=2 then .int .i64 0 else if k=11 then nilS else tdF st V i k) :
  SMem B mb tb (st.end_ i a) x:=by
 refine toS12 (st':=st.end_ i a) (V':=λr=>if r=.ans i then vg else if r=.L i then nilS else if r=.ls i (st.ans i).length then lv else V r) hm rfl (λk hk=>?_) (λj k hj hk=>?_) λr hr hr2 d' hd=>?_
 ·rcases k with _ | _ | _ | _ | _ | _ | _ | _ | _ | _ | k <;> simp[bxF,RS.end_]
 ·by_cases e:j=i
  ·subst e
   rw[h2 k hk]
   rcases k with _ | _ | _ | _ | _ | _ | _ | _ | _ | _ | _ | _ | _ | _ | k <;> first | omega | simp[tdF,RS.end_,upd_same]
  ·rw [h1 j k hk e]
   rcases k with _ | _ | _ | _ | _ | _ | _ | _ | _ | _ | _ | _ | _ | _ | k <;> first | omega | simp[tdF,RS.end_,upd_ne _ _ e,e]
 ·cases r with
  | box=>exact absurd rfl hr2
  | th j=>exact absurd rfl (hr j)
  | ans j =>
    by_cases hj:j<st.n
    ·by_cases e:j=i
     ·subst e
      left
      simp only[bQ,RS.end_,if_pos hj,upd_same] at hd;cases hd;have e:=anF_eq (V:=λr=>if r=.ls j (st.ans j).length then lv else V r) (V':=λr=>if r=.ans j then vg else if r=.L j then nilS else if r=.ls j (st.ans j).length then lv else V r) (i:=j) (λk=>by simp) (st.ans j++[a]);refine⟨cJ 3 (anF (λr=>if r=.ls j (st.ans j).length then lv else V r) j (st.ans j++[a])),by simp[mI],λk hk=>?_⟩;rw[e]
     ·left
      simp only[bQ,RS.end_,if_pos hj,upd_ne _ _ e] at hd;cases hd;have e3:=anF_eq (V:=V) (V':=λr=>if r=.ans i then vg else if r=.L i then nilS else if r=.ls i (st.ans i).length then lv else V r) (i:=j) (λk=>by simp[e]) (st.ans j);refine⟨cJ 3 (anF V j (st.ans j)),by simp[mI,bQ,e,hj],λk hk=>?_⟩;rw[e3]
    ·exact absurd (hd.symm.trans (if_neg hj)) (by simp)
  | L j =>
    by_cases hj:j<st.n
    ·by_cases e:j=i
     ·subst e
      right
      simp only[bQ,RS.end_,if_pos hj,upd_same] at hd;cases hd;exact⟨by simp[dL,nilS],rfl⟩
     ·left
      simp only[bQ,RS.end_,if_pos hj,upd_ne _ _ e] at hd;cases hd;exact⟨_,by simp[mI,bQ,e,hj,dL],λk _=>rfl⟩
    ·exact absurd (hd.symm.trans (if_neg hj)) (by simp)
  | ls j k =>
    by_cases hj:j<st.n
    ·by_cases e:j=i
     ·subst e
      left
      simp only[bQ,RS.end_,if_pos hj,upd_same] at hd
      by_cases hk:k=(st.ans j).length
      ·subst hk
       simp at hd
       subst hd;exact⟨_,by simp[mI,dL],λk _=>rfl⟩
      ·have hk2:k<(st.ans j).length:=by
        rcases Nat.lt_or_ge k (st.ans j).length with z | z
        ·exact z
        ·rw [List.getElem?_eq_none (by simp;omega)] at hd;cases hd
       rw[List.getElem?_append_left hk2,List.getElem?_eq_getElem hk2] at hd;simp only[Option.map_some,Option.some.injEq] at hd;subst hd;exact⟨_,by simp[mI,bQ,hk,hj,dL,List.getElem?_eq_getElem hk2],λk _=>rfl⟩
     ·left
      simp only[bQ,RS.end_,if_pos hj,upd_ne _ _ e] at hd;cases hh:(st.ans j)[k]? with
      | none=>rw[hh] at hd;cases hd
      | some b =>
        rw[hh] at hd;simp only[Option.map_some,Option.some.injEq] at hd;subst hd;exact⟨_,by simp[mI,bQ,e,hj,dL,hh],λk _=>rfl⟩
    ·exact absurd (hd.symm.trans (if_neg hj)) (by simp)
  | op j =>
    left
    by_cases hj:j<st.n
    ·have hd:=hd.symm.trans (if_pos hj)
     cases hd;exact⟨cJ 4 (oqF (st.ops j)),by simp[mI,bQ,hj,RS.end_],λk _=>rfl⟩
    ·exact absurd (hd.symm.trans (if_neg hj)) (by simp)
  | ext k=>exact .inl ⟨d'.f,by rw[show mI tb st V i vg a lv (.ext k)=st.X k from rfl];exact hd,λ_ _=>rfl⟩
  | _=>left;cases hd;exact⟨_,rfl,λ_ _=>rfl⟩
theorem bN (h:Mems B (aY mb tb st V) w) (hB:B<=w.heap.size) (hi:i<st.n) (hat:st.at_ i<65536) (hans:(st.ans i).length<65536) (a:Ans) (lv:Value) (hlo:∃ A c,lv=.slice A a.ls.length c)
  (hl:(a.ls=[]/\lv=nilS)\/(a.ls=st.L i/\lv=V (.L i))) :
  Calls Try.prog 49 #[.pointer (some ⟨tb i,0,none⟩),.agg #[.bool a.ok,.int .i64 a.n,lv]] w λe w'=>e=.returned (.tuple #[])/\SMem B mb tb (st.end_ i a) w'/\Below B w w':=by
 obtain⟨lA,lc,rfl⟩:=hlo;have HL:=qd hl;have HM:=qd h;clear hl h;have har:aY mb tb st V (.ans i)=some ⟨48,3,V (.ans i),(st.ans i).length,cJ 3 (anF V i (st.ans i))⟩:=by simp only[aY,bW,bQ,if_pos hi]
 obtain⟨rA,rc,hrw⟩:=cB HM.out har;have hown:=HM.out.at_ har;have htn:=cD HM.out (gth (R:=bQ tb st V) (G:=bxF st V) (F:=tdF st V) (mb:=mb) (tb:=tb) hi) har (by simp) (b:=tb i) rfl;rw[hrw] at hown htn;have HR:=qd (And.intro har hrw);have HOW:=qd hown;have HNT:=qd htn;clear har hrw hown htn
 go_enter Try.func49,Try.ntmps49
 refine fD λK hK=>?_;go_wp2;refine hK.out _ _ ?_;clear hK K;have hm:=HM.out.alloc (.cells #[.bool a.ok,.int .i64 a.n,.slice lA a.ls.length lc] 48);have hb3:=Blk.new w 48 #[.bool a.ok,.int .i64 a.n,.slice lA a.ls.length lc];have bw:Below B w (w.alloc (.cells #[.bool a.ok,.int .i64 a.n,.slice lA a.ls.length lc] 48)):=(Below.refl _ _).alloc hB _;have hsz:(w.alloc (.cells #[.bool a.ok,.int .i64 a.n,.slice lA a.ls.length lc] 48)).heap.size=w.heap.size+1:=by simp
 have how:World.ownsRow (w.alloc (.cells #[.bool a.ok,.int .i64 a.n,.slice lA a.ls.length lc] 48)) B _ _ _ _ _:=HOW.out.alloc _;have hlt:(Value.slice rA (st.ans i).length rc).ownBlock≠some w.heap.size:=λz=>by have:=(HOW.out.lt _ z).2;omega
 generalize w.alloc (.cells #[.bool a.ok,.int .i64 a.n,.slice lA a.ls.length lc] 48)=v at *;generalize w.heap.size=b3 at *;clear HOW;have t12:v.cell? ⟨tb i,12,none⟩=some (.slice rA (st.ans i).length rc):=by rw[aS hm hi 12 (by omega)];exact congrArg some HR.out.2
 have o0:=hb3.cell 0;have o1:=hb3.cell 1;have o2:=hb3.cell 2;simp only[zD] at o0 o1 o2;have HT0:=qd t12;have HT1:=qd o0;have HT2:=qd o1;have HT3:=qd o2;have HN0:Hid (¬(Value.slice rA (st.ans i).length rc).ownBlock=some (tb i)):=qd HNT.out;have HN1:Hid (¬(Value.slice rA (st.ans i).length rc).ownBlock=some b3):=qd hlt;have HV:=qd (And.intro hm (And.intro bw (And.intro hsz how)));have hvs:B<=v.heap.size:=by omega
 clear t12 o0 o1 o2 hm bw hsz how hlt hb3 HNT;refine fD λK hK=>?_;refine bV (S:=Kept (λb=>(Value.slice rA (st.ans i).length rc).ownBlock=some b) v) 10 (by kernel_rfl) (by kernel_rfl) (by kernel_rfl) ?_;simp only[idle,zB,Nat.reduceAdd];have hk0:Kept (λb=>(Value.slice rA (st.ans i).length rc).ownBlock=some b) v v.drew:=Kept.drewN _ v 1;have HS:=qd hk0;clear hk0
 iterate 6
  with_reducible first | refine rdL 0 10 4 ?_ | refine rdL 1 9 5 ?_ | refine rdL 2 8 6 ?_ | refine rdL 3 7 7 ?_ | refine rdL 4 6 8 ?_ | refine rdL 5 5 9 ?_
  refine⟨_,rfl,rfl,by kernel_rfl,by kernel_rfl,by kernel_rfl,(λc a w h=>h),rfl,HS.out,?_⟩;apply Exists.intro;refine⟨λwq hw=>?_,?_⟩
  ·have q0:=cY HT0.out hw HN0.out
   have q1:=cY HT1.out hw HN1.out;have q2:=cY HT2.out hw HN1.out;have q3:=cY HT3.out hw HN1.out;go_simp
   rfl
  simp only[Act.put,zA]
 clear HT1 HT2 HT3;have hkd:=HS.out;obtain⟨hm,bw,hsz,how⟩:=HV.out;have how2:=how.drew;have hm2:=hm.drewN 1;have bw2:=bw.trans (Below.drewN (Below.refl B _) 1);have hvs2:B<=v.drew.heap.size:=hvs;have tv:v.drew.cell? ⟨tb i,12,none⟩=some (.slice rA (st.ans i).length rc):=HT0.out;have hsz2:v.drew.heap.size=b3+1:=hsz;have HKD:=qd hkd;clear HS hkd HV hm bw hsz how hvs HT0;change Mems B (aY mb tb st V) v.drew at hm2;change Below B w v.drew at bw2;generalize World.drew v=wd at *;have HSZ:=qd hsz2;clear hsz2;refine cW (i:=6) (fuel:=4) (by kernel_rfl) rfl rfl λK' hK'=>?_;unfold Oper.wp;go_simp;have hk6:=HKD.out.trans (Kept.alloc (S:=λb=>(Value.slice rA (st.ans i).length rc).ownBlock=some b) wd (.cells #[.bool a.ok,.int .i64 a.n,.slice lA a.ls.length lc] 48));refine hK' _ _ hk6 ?_;clear hK' K'
 try simp only[Act.put,zA]
 obtain⟨i0,hi0,hz0,hz1,hz2⟩:=info_parts Try.infoAn;refine cW (i:=7) (fuel:=3) (by kernel_rfl) rfl rfl λK' hK'=>?_;refine wp_append_lies (P:=Try.prog) (wd.alloc (.cells #[.bool a.ok,.int .i64 a.n,.slice lA a.ls.length lc] 48)) (.tmp 8) (.tmp 10) 43 rfl B 48 i0 _ 3 40 Try.underlying43 hi0 hz0 hz1 hz2 rfl (by omega) (.slice rA (st.ans i).length rc) (st.ans i).length _ rfl (how2.alloc _) ⟨wd.heap.size,0,none⟩ 1 1 [.bool a.ok,.int .i64 a.n,.slice lA a.ls.length lc] rfl rfl (World.news_of_block (cs:=#[.bool a.ok,.int .i64 a.n,.slice lA a.ls.length lc]) (t:=48) (fr:=(0,0)) (Blk.new wd 48 #[.bool a.ok,.int .i64 a.n,.slice lA a.ls.length lc])) (by simp[Value.oneCell']) (by omega) (by unfold maxLen;omega) (by omega) (by simp;omega) (wd.heap.size+1) (by simp) ?_;intro gg cap2 w1 hown hgrow hgat hgl
 have hm1:=end_rows (vg:=.slice (some ⟨gg,0,none⟩) ((st.ans i).length+1) cap2) (hm2.alloc _) hi HL.out hown (by rw[HR.out.2];exact hgrow) (by
  rw[HR.out.2]
  rcases hgat with z | z
  ·exact .inl z.symm
  ·right; rw[z];simp[Value.ownBlock])
 have hkw:=hk6.trans (Kept.grown (S:=λb=>(Value.slice rA (st.ans i).length rc).ownBlock=some b) hgrow (λk hk=>hk));have bw1:Below B w w1:=(bw2.alloc hvs2 _).grown hgrow (by simp;omega) (λk hk=>(how2.lt k hk).1);have t12:w1.cell? ⟨tb i,12,none⟩=some (.slice rA (st.ans i).length rc):=by rw[oH hm1 hi 12 (by omega)];exact congrArg some HR.out.2
 have z12:=iG hm1 hi 12;have hBt:B<=tb i:=(HM.out.lt (r:=.th i) (gth hi) (b:=tb i) rfl).1;refine hK' _ _ hkw ?_;clear hK' K' hown hgrow hgat hgl hk6 how2 hm2 bw2 tv hvs2;have HKW:=qd hkw;have HM1:=qd (And.intro hm1 bw1);clear hkw hm1 bw1
 try simp only[Act.put,zA,List.getElem_toArray,List.getElem_cons_zero,List.getElem_cons_succ]
 refine cW (i:=8) (fuel:=2) (by kernel_rfl) rfl rfl λK' hK'=>?_;unfold Oper.wp;go_simp;refine hK' _ _ HKW.out ?_;clear hK' K'
 try simp only[Act.put,zA]
 refine cW (i:=9) (fuel:=1) (by kernel_rfl) rfl rfl λK' hK'=>?_;unfold Oper.wp;go_simp;refine hK' _ _ HKW.out ?_;clear hK' K'
 try simp only[Act.put,zA]
 refine cW (i:=10) (fuel:=0) (by kernel_rfl) rfl rfl λK' hK'=>?_;unfold Oper.wp;go_simp;refine hK' _ _ HKW.out ?_;clear hK' K' HKW HKD;refine wpAnyH_done (by kernel_rfl) ?_ _;simp only[Exit.then];refine aX (m:=10) rfl ?_;go_wp2;refine hK.out _ _ ?_;clear hK K;clear t12 z12;have hm3:=gset HM1.out.1 hi 12 (.slice (some ⟨gg,0,none⟩) ((st.ans i).length+1) cap2);have bw3:=HM1.out.2.setCell (p:=⟨tb i,12,none⟩) hBt (.slice (some ⟨gg,0,none⟩) ((st.ans i).length+1) cap2);clear HM1;generalize World.setCell _ _ _=w3 at *;have t1:w3.cell? ⟨tb i,1,none⟩=some (.int .i64 (st.at_ i)):=by rw[oH hm3 hi 1 (by omega)];simp[gO,tdF]
 have z1:=iG hm3 hi 1;have z2:=iG hm3 hi 2;have z11:=iG hm3 hi 11;have t2:w3.cell? ⟨tb i,2,none⟩=some (.int .i64 (st.pc i)):=by rw[oH hm3 hi 2 (by omega)];simp[gO,tdF]
 have t11:w3.cell? ⟨tb i,11,none⟩=some (V (.L i)):=by rw[oH hm3 hi 11 (by omega)];simp[gO,tdF]
 have HM3:=qd (And.intro hm3 bw3);clear hm3 bw3;go_wp2
 go_end0
 have e1:((st.at_ i:Int)+1)=((st.at_ i+1:Nat):Int):=by omega
 rw[e1];have hm4:=gset (gset (gset HM3.out.1 hi 1 (.int .i64 ((st.at_ i+1:Nat):Int))) hi 2 (.int .i64 0)) hi 11 nilS;have bw4:=((HM3.out.2.setCell (p:=⟨tb i,1,none⟩) hBt (.int .i64 ((st.at_ i+1:Nat):Int))).setCell (p:=⟨tb i,2,none⟩) hBt (.int .i64 0)).setCell (p:=⟨tb i,11,none⟩) hBt nilS;refine⟨rfl,end_shut hm4 hi (λj k hk hj=>by simp[gO,hj]) (λk hk=>?_),bw4⟩
 rcases k with _ | _ | _ | _ | _ | _ | _ | _ | _ | _ | _ | _ | _ | _ | k <;> first | omega | simp[gO]
end
end Go.Proofs.Ytlcplealnbekeaa
namespace Go.Proofs.Ytlcplealnbekeaa
open Go.RowKit Go.Turn
open Go.ConcN (upd upd_ne upd_same)
theorem qM (a b c d:Value) (x:World):(Instr.field 46 (.agg #[a,b,c,d]) 0).run Try.prog x=.ok a x:=by kernel_rfl
section
variable {B mb:Nat}{tb:Nat->Nat}{st:RS}{V:Rt->Value}{w w':World}{i:Nat}
theorem lrow (h:Mems B (aY mb tb st V) w) (hi:i<st.n):∃ A c,V (.L i)=.slice A (st.L i).length c:=cB h (r:=.L i) (e:=2) (sz:=1) (n:=(st.L i).length) (f:=λj=>.int .i64 ((st.L i).getD j 0)) (by simp only[aY,bW,bQ,if_pos hi,dL])
theorem iD (h:Mems B (aY mb tb st V) w) (hB:B<=w.heap.size) (hi:i<st.n) (hat:st.at_ i<65536) (hans:(st.ans i).length<65536) (hL:((st.L i).length:Int)<=2147483647) (e:Int):Calls Try.prog 73 #[.pointer (some ⟨mb,0,none⟩),.pointer (some ⟨tb i,0,none⟩),.int .i64 e] w λx w'=>x=.returned (.tuple #[])/\SMem B mb tb (st.refused i e) w'/\Below B w w':=by
 obtain⟨lA,lc,hl⟩:=lrow h hi;have hBt:B<=tb i:=(h.lt (r:=.th i) (gth hi) (b:=tb i) rfl).1;have HM:=qd (And.intro h (Below.refl B w));have HL:=qd hl;clear h hl;unfold RS.refused
 go_enter Try.func73,Try.ntmps73
 have t2:=aS HM.out.1 hi 2 (by omega)
 simp[tdF,RS.setN,RS.stand,upd] at t2
 have z2:=bC HM.out.1 hi 2;refine fD λK hK=>?_;go_wp2;refine hK.out _ _ ?_;clear hK K;clear t2 z2;have hm0:Mems B _ (World.setCell _ ⟨tb i,2,none⟩ (.int .i64 54)):=sPc HM.out.1 hi 54;have hm:=qd (And.intro hm0 (HM.out.2.setCell (p:=⟨tb i,2,none⟩) hBt (.int .i64 54)));clear HM hm0;have HM:=hm;clear hm;generalize World.setCell _ _ _=w1 at *;have t11:=aS HM.out.1 hi 11 (by omega)
 simp[tdF,RS.setN,RS.stand,upd] at t11
 rw[HL.out] at t11
 by_cases c:st.L i=[]
 ·rw [if_pos c]
  have d1:(((st.L i).length:Int)==0)=true:=by rw[c];rfl
  generalize (st.L i).length=ll at *
  go_wp2_with fail
  refine(bN HM.out.1 (Nat.le_trans hB HM.out.2.size) hi hat hans ⟨false,e,[]⟩ nilS ⟨none,0,rfl⟩ (.inl ⟨rfl,rfl⟩)).mono ?_;rintro x w2 ⟨rfl,h2,b2⟩;have H2:=qd (And.intro h2 (HM.out.2.trans b2));clear h2 b2;go_wp2
  go_end0
  exact⟨rfl,H2.out⟩
 ·rw [if_neg c]
  have d1:(((st.L i).length:Int)==0)=false:=by
   have:=List.length_pos_iff.2 c;have e:((st.L i).length:Int)≠0:=by omega
   simpa using e
  generalize hll:(st.L i).length=ll at *;clear hll;go_wp2
  go_end0
  exact⟨rfl,⟨V,HM.out.1⟩,HM.out.2⟩
theorem fQ (h:Mems B (aY mb tb st V) w) (hB:B<=w.heap.size) (hi:i<st.n) (hx:st.OkX i) {o:OpI}(ho:(st.ops i)[st.at_ i]?=some o) (h1:1<=st.N i 0) (h2:st.N i 0<=st.size) (h3:st.next+st.N i 0<=4611686018427387904):Calls Try.prog 51 #[.pointer (some ⟨mb,0,none⟩),.pointer (some ⟨tb i,0,none⟩)] w λx w'=>x=.returned (.tuple #[])/\SMem B mb tb (st.claimed i o) w'/\Below B w w':=by
 have hBt:B<=tb i:=(h.lt (r:=.th i) (gth hi) (b:=tb i) rfl).1;have hBm:B<=mb:=(h.lt (r:=.box) rfl (b:=mb) rfl).1;have hat0:=(List.getElem?_eq_some_iff.1 ho).1;have hlen:=hx.len i hi;have hat:st.at_ i<65536:=by omega
 have hans:(st.ans i).length<65536:=by rw[hx.ans i hi];exact hat
 have n0:=hx.nx0;have n1:=hx.nx1;have s1:=hx.s1;have HM:=qd (And.intro h (Below.refl B w));have HX:=qd hx;have HO:=qd ho;clear h hx ho;unfold RS.claimed
 go_enter Try.func51,Try.ntmps51
 have m6:=bD HM.out.1 6 (by omega)
 simp[bxF,RS.setN,RS.stand] at m6
 have m5:=bD HM.out.1 5 (by omega)
 simp[bxF,RS.setN,RS.stand] at m5
 have m0:=bD HM.out.1 0 (by omega)
 simp[bxF,RS.setN,RS.stand] at m0
 have t3:=aS HM.out.1 hi 3 (by omega)
 simp[tdF,RS.setN,RS.stand,upd] at t3
 by_cases c:st.cached<st.next+st.N i 0-1-st.size
 ·rw [if_pos c]
  have d1:decide (st.cached<st.next+st.N i 0-1-st.size)=true:=decide_eq_true c;go_wp2;rename_i K0 hK0
  go_quiet (fail)
  replace HM:=qd (And.intro (HM.out.1.drewN nq) (HM.out.2.trans (Below.drewN (Below.refl B _) nq)));generalize World.drewN _ nq=w1 at *;refine hK0 _ _ ?_;clear hK0 K0 m6 m5 m0 t3
  go_wp2_with fail
  refine(bN HM.out.1 (Nat.le_trans hB HM.out.2.size) hi hat hans ⟨false,3,[]⟩ nilS ⟨none,0,rfl⟩ (.inl ⟨rfl,rfl⟩)).mono ?_;rintro x w2 ⟨rfl,h2,b2⟩;have H2:=qd (And.intro h2 (HM.out.2.trans b2));clear h2 b2;go_wp2
  try simp only[Exit.inBlock,Exit.then]
  refine bodyPost_ret (results_none rfl _ _ _) rfl ?_;exact⟨rfl,H2.out⟩
 rw[if_neg c];have d1:decide (st.cached<st.next+st.N i 0-1-st.size)=false:=decide_eq_false c;go_wp2;rename_i K0 hK0
 go_quiet (fail)
 replace HM:=qd (And.intro (HM.out.1.drewN nq) (HM.out.2.trans (Below.drewN (Below.refl B _) nq)));generalize World.drewN _ nq=w1 at *;refine hK0 _ _ ?_;clear hK0 K0 m6 m5 m0 t3;have m5:=bD HM.out.1 5 (by omega)
 simp[bxF,RS.setN,RS.stand] at m5
 go_wp2;rename_i K0 hK0;refine aR 8 (by kernel_rfl) (by kernel_rfl) (by kernel_rfl) (by kernel_rfl) ?_;simp only[idle,zB,Nat.reduceAdd]
 repeat (go_big_quiet_step (fail))
 refine wpQuiet_nil ?_;rintro _ ⟨nq,rfl⟩;refine aX (m:=8) rfl ?_;replace HM:=qd (And.intro (HM.out.1.drewN nq) (HM.out.2.trans (Below.drewN (Below.refl B _) nq)));generalize World.drewN _ nq=w2 at *;have z9:=bC HM.out.1 hi 9;have t9:=aS HM.out.1 hi 9 (by omega)
 simp[tdF,RS.setN,RS.stand,upd] at t9
 go_wp2;clear m5 z9 t9;have hm0:Mems B _ (World.setCell _ ⟨tb i,9,none⟩ (.int .i64 (st.next))):=sN HM.out.1 hi 6 (by omega) (st.next);have hm:=qd (And.intro hm0 (HM.out.2.setCell (p:=⟨tb i,9,none⟩) hBt (.int .i64 (st.next))));clear HM hm0;have HM:=hm;clear hm;generalize World.setCell _ _ _=w3 at *;have m5:=bD HM.out.1 5 (by omega)
 simp[bxF,RS.setN,RS.stand] at m5
 rename_i K0 hK0;refine aR 8 (by kernel_rfl) (by kernel_rfl) (by kernel_rfl) (by kernel_rfl) ?_;simp only[idle,zB,Nat.reduceAdd]
 repeat (go_big_quiet_step (fail))
 refine wpQuiet_nil ?_;rintro _ ⟨nq,rfl⟩;refine aX (m:=8) rfl ?_;replace HM:=qd (And.intro (HM.out.1.drewN nq) (HM.out.2.trans (Below.drewN (Below.refl B _) nq)));generalize World.drewN _ nq=w4 at *;have z4:=bC HM.out.1 hi 4;have t4:=aS HM.out.1 hi 4 (by omega)
 simp[tdF,RS.setN,RS.stand,upd] at t4
 go_wp2;clear m5 z4 t4;have hm0:Mems B _ (World.setCell _ ⟨tb i,4,none⟩ (.int .i64 (st.next))):=sN HM.out.1 hi 1 (by omega) (st.next);have hm:=qd (And.intro hm0 (HM.out.2.setCell (p:=⟨tb i,4,none⟩) hBt (.int .i64 (st.next))));clear HM hm0;have HM:=hm;clear hm;generalize World.setCell _ _ _=w5 at *;have m5:=bD HM.out.1 5 (by omega)
 simp[bxF,RS.setN,RS.stand] at m5
 have t3:=aS HM.out.1 hi 3 (by omega)
 simp[tdF,RS.setN,RS.stand,upd] at t3
 rename_i K0 hK0;refine aR 13 (by kernel_rfl) (by kernel_rfl) (by kernel_rfl) (by kernel_rfl) ?_;simp only[idle,zB,Nat.reduceAdd]
 repeat (go_big_quiet_step (fail))
 refine wpQuiet_nil ?_;rintro _ ⟨nq,rfl⟩;refine aX (m:=13) rfl ?_;replace HM:=qd (And.intro (HM.out.1.drewN nq) (HM.out.2.trans (Below.drewN (Below.refl B _) nq)));generalize World.drewN _ nq=w6 at *;clear m5;have m5:=bD HM.out.1 5 (by omega)
 simp[bxF,RS.setN,RS.stand] at m5
 have y5:=iF HM.out.1 5
 go_wp2_with fail
 clear m5 y5 t3;have hm0:Mems B _ (World.setCell _ ⟨mb,5,none⟩ (.int .i64 (st.next+st.N i 0))):=sNext HM.out.1 (st.next+st.N i 0);have hm:=qd (And.intro hm0 (HM.out.2.setCell (p:=⟨mb,5,none⟩) hBm (.int .i64 (st.next+st.N i 0))));clear HM hm0;have HM:=hm;clear hm;generalize World.setCell _ _ _=w7 at *;clear d1 c;refine(mM HM.out.1 hi HO.out hlen).mono ?_;rintro x w8 ⟨rfl,hk⟩;have hm:=qd (And.intro (HM.out.1.same λb hb=>hk.block b hb id) (HM.out.2.trans (hk.to_below (B:=B) (λ_ z=>z.elim) (Nat.le_trans hB HM.out.2.size))));clear HM hk;have HM:=hm;clear hm;have hf0:=qM;obtain⟨kd,oa,ob,oc⟩:=o
 by_cases k1:kd=1
 ·subst k1
  have t9:=aS HM.out.1 hi 9 (by omega)
  simp[tdF,RS.setN,RS.stand,upd] at t9
  simp only[OpI.val]
  go_wp2_with fail
  refine(bN HM.out.1 (Nat.le_trans hB HM.out.2.size) hi hat hans ⟨true,st.next,[]⟩ nilS ⟨none,0,rfl⟩ (.inl ⟨rfl,rfl⟩)).mono ?_;rintro x w9 ⟨rfl,h2,b2⟩;have H2:=qd (And.intro h2 (HM.out.2.trans b2));clear h2 b2;go_wp2
  try simp only[Exit.inBlock,Exit.then]
  refine bodyPost_ret (results_none rfl _ _ _) rfl ?_;exact⟨rfl,H2.out⟩
 ·have dk:(kd==1)=false:=by simpa using k1
  have t2:=aS HM.out.1 hi 2 (by omega)
  simp[tdF,RS.setN,RS.stand,upd] at t2
  have z2:=bC HM.out.1 hi 2;simp only[OpI.val];go_wp2;clear t2 z2;have hm0:Mems B _ (World.setCell _ ⟨tb i,2,none⟩ (.int .i64 20)):=sPc HM.out.1 hi 20;have hm:=qd (And.intro hm0 (HM.out.2.setCell (p:=⟨tb i,2,none⟩) hBt (.int .i64 20)));clear HM hm0;have HM:=hm;clear hm;generalize World.setCell _ _ _=w9 at *
  go_end0
  refine⟨rfl,?_,HM.out.2⟩
  first | exact⟨V,HM.out.1⟩ |(rw[if_neg k1];exact⟨V,HM.out.1⟩)
theorem oP (h:Mems B (aY mb tb st V) w) (hB:B<=w.heap.size) (hi:i<st.n) (h0:i=0) (hx:st.OkX i) {o:OpI}(ho:(st.ops i)[st.at_ i]?=some o) (g0:-9223372036854775808<=st.N i 0) (g1:st.N i 0<=2147483647):Calls Try.prog 72 #[.pointer (some ⟨mb,0,none⟩),.pointer (some ⟨tb i,0,none⟩)] w λx w'=>x=.returned (.tuple #[])/\SMem B mb tb (st.claim i o) w'/\Below B w w':=by
 have hBt:B<=tb i:=(h.lt (r:=.th i) (gth hi) (b:=tb i) rfl).1;have hBm:B<=mb:=(h.lt (r:=.box) rfl (b:=mb) rfl).1;have hat0:=(List.getElem?_eq_some_iff.1 ho).1;have hlen:=hx.len i hi;have hat:st.at_ i<65536:=by omega
 have hans:(st.ans i).length<65536:=by rw[hx.ans i hi];exact hat
 have n0:=hx.nx0;have n1:=hx.nx1;have s1:=hx.s1;have rd64:=hx.rd;have H0:=qd h0;clear h0;have HM:=qd (And.intro h (Below.refl B w));have HX:=qd hx;have HO:=qd ho;clear h hx ho;obtain⟨sf,hsf⟩:∃ sf,sf=st.claim i o:=⟨_,rfl⟩;rw[<-hsf];have HF:=qd hsf;clear hsf
 go_enter Try.func72,Try.ntmps72
 have m0:=bD HM.out.1 0 (by omega)
 simp[bxF,RS.setN,RS.stand] at m0
 have t3:=aS HM.out.1 hi 3 (by omega)
 simp[tdF,RS.setN,RS.stand,upd] at t3
 by_cases c1:st.N i 0<1
 ·have e:sf=st.end_ i ⟨false,1,[]⟩:=by rw[HF.out];unfold RS.claim;rw[if_pos (.inl c1)]
  have d1:decide (st.N i 0<1)=true:=decide_eq_true c1;have HE:=qd e;clear e;go_wp2;rename_i K0 hK0
  go_quiet (fail)
  replace HM:=qd (And.intro (HM.out.1.drewN nq) (HM.out.2.trans (Below.drewN (Below.refl B _) nq)));generalize World.drewN _ nq=w1 at *;refine hK0 _ _ ?_;clear hK0 K0
  go_wp2_with fail
  refine(bN HM.out.1 (Nat.le_trans hB HM.out.2.size) hi hat hans ⟨false,1,[]⟩ nilS ⟨none,0,rfl⟩ (.inl ⟨rfl,rfl⟩)).mono ?_;rintro x w9 ⟨rfl,h2,b2⟩;have H2:=qd (And.intro h2 (HM.out.2.trans b2));clear h2 b2;go_wp2
  try simp only[Exit.inBlock,Exit.then]
  refine bodyPost_ret (results_none rfl _ _ _) rfl ?_;exact⟨rfl,HE.out▸H2.out⟩
 have d1:decide (st.N i 0<1)=false:=decide_eq_false c1
 by_cases c2:(st.size:Int)<st.N i 0
 ·have e:sf=st.end_ i ⟨false,1,[]⟩:=by rw[HF.out];unfold RS.claim;rw[if_pos (.inr c2)]
  have d2:decide ((st.size:Int)<st.N i 0)=true:=decide_eq_true c2;have HE:=qd e;clear e;go_wp2;rename_i K0 hK0
  go_quiet (fail)
  replace HM:=qd (And.intro (HM.out.1.drewN nq) (HM.out.2.trans (Below.drewN (Below.refl B _) nq)));generalize World.drewN _ nq=w1 at *;refine hK0 _ _ ?_;clear hK0 K0
  go_wp2_with fail
  refine(bN HM.out.1 (Nat.le_trans hB HM.out.2.size) hi hat hans ⟨false,1,[]⟩ nilS ⟨none,0,rfl⟩ (.inl ⟨rfl,rfl⟩)).mono ?_;rintro x w9 ⟨rfl,h2,b2⟩;have H2:=qd (And.intro h2 (HM.out.2.trans b2));clear h2 b2;go_wp2
  try simp only[Exit.inBlock,Exit.then]
  refine bodyPost_ret (results_none rfl _ _ _) rfl ?_;exact⟨rfl,HE.out▸H2.out⟩
 have d2:decide ((st.size:Int)<st.N i 0)=false:=decide_eq_false c2;have b1:1<=st.N i 0:=by omega
 have b2:st.N i 0<=st.size:=by omega
 clear c1 c2;go_wp2;rename_i K0 hK0
 go_quiet (fail)
 replace HM:=qd (And.intro (HM.out.1.drewN nq) (HM.out.2.trans (Below.drewN (Below.refl B _) nq)));generalize World.drewN _ nq=w1 at *;refine hK0 _ _ ?_;clear hK0 K0;clear d1 d2 t3 m0;have m5:=bD HM.out.1 5 (by omega)
 simp[bxF,RS.setN,RS.stand] at m5
 have t3:=aS HM.out.1 hi 3 (by omega)
 simp[tdF,RS.setN,RS.stand,upd] at t3
 by_cases c3:4611686018427387904-st.N i 0<st.next
 ·have e:sf=st.end_ i ⟨false,8,[]⟩:=by rw[HF.out];unfold RS.claim;rw[if_neg (by omega),if_pos c3]
  have d3:decide (4611686018427387904-st.N i 0<st.next)=true:=decide_eq_true c3;have HE:=qd e;clear e;go_wp2;go_wp2;rename_i K0 hK0
  go_quiet (fail)
  replace HM:=qd (And.intro (HM.out.1.drewN nq) (HM.out.2.trans (Below.drewN (Below.refl B _) nq)));generalize World.drewN _ nq=w2 at *;refine hK0 _ _ ?_;clear hK0 K0
  go_wp2_with fail
  refine(bN HM.out.1 (Nat.le_trans hB HM.out.2.size) hi hat hans ⟨false,8,[]⟩ nilS ⟨none,0,rfl⟩ (.inl ⟨rfl,rfl⟩)).mono ?_;rintro x w9 ⟨rfl,h2,b2⟩;have H2:=qd (And.intro h2 (HM.out.2.trans b2));clear h2 b2;go_wp2
  try simp only[Exit.inBlock,Exit.then]
  refine bodyPost_ret (results_none rfl _ _ _) rfl ?_;exact⟨rfl,HE.out▸H2.out⟩
 have d3:decide (4611686018427387904-st.N i 0<st.next)=false:=decide_eq_false c3;have b3:st.next+st.N i 0<=4611686018427387904:=by omega
 clear c3;go_wp2;rename_i K0 hK0
 go_quiet (fail)
 replace HM:=qd (And.intro (HM.out.1.drewN nq) (HM.out.2.trans (Below.drewN (Below.refl B _) nq)));generalize World.drewN _ nq=w2 at *;refine hK0 _ _ ?_;clear hK0 K0;clear d3 t3 m5;have m6:=bD HM.out.1 6 (by omega)
 simp[bxF,RS.setN,RS.stand] at m6
 have m5:=bD HM.out.1 5 (by omega)
 simp[bxF,RS.setN,RS.stand] at m5
 have m0:=bD HM.out.1 0 (by omega)
 simp[bxF,RS.setN,RS.stand] at m0
 have t3:=aS HM.out.1 hi 3 (by omega)
 simp[tdF,RS.setN,RS.stand,upd] at t3
 by_cases c4:st.cached<st.next+st.N i 0-1-st.size
 ·have e:sf=(if 0<st.rd then({ st.setN i 2 0 with cached:=4611686018427387904,old:=st.cached }:RS).stand i 10 else({ st.setN i 2 0 with cached:=4611686018427387904,old:=st.cached }:RS).claimed i o):=by
   rw[HF.out];unfold RS.claim;rw[if_neg (by omega),if_neg (by omega),if_pos c4]
  have d4:decide (st.cached<st.next+st.N i 0-1-st.size)=true:=decide_eq_true c4;have HE:=qd e;clear e;go_wp2;rename_i K0 hK0
  go_quiet (fail)
  replace HM:=qd (And.intro (HM.out.1.drewN nq) (HM.out.2.trans (Below.drewN (Below.refl B _) nq)));generalize World.drewN _ nq=w3 at *;refine hK0 _ _ ?_;clear hK0 K0;clear m6 m5 m0 t3 c4 d4;have hne:=cD HM.out.1 (r:=.box) (r':=.th i) rfl (gth hi) (by simp) (b:=mb) rfl;have hne1:¬tb i=mb:=λz=>hne (by rw[<-z];rfl);have hne2:¬mb=tb i:=λz=>hne1 z.symm;clear hne;have m6:=bD HM.out.1 6 (by omega)
  simp[bxF,RS.setN,RS.stand] at m6
  have y6:=iF HM.out.1 6;have t5:=aS HM.out.1 hi 5 (by omega)
  simp[tdF,RS.setN,RS.stand,upd] at t5
  have z5:=bC HM.out.1 hi 5;have t2:=aS HM.out.1 hi 2 (by omega)
  simp[tdF,RS.setN,RS.stand,upd] at t2
  have z2:=bC HM.out.1 hi 2;have m10:=bD HM.out.1 10 (by omega)
  simp[bxF,RS.setN,RS.stand] at m10
  have fin:∀ p:Nat,Mems B (aY mb tb (({ st.setN i 2 0 with cached:=4611686018427387904,old:=st.cached }:RS)) V) ((w3.setCell ⟨mb,6,none⟩ (.int .i64 4611686018427387904)).setCell ⟨tb i,5,none⟩ (.int .i64 0))/\Below B w ((w3.setCell ⟨mb,6,none⟩ (.int .i64 4611686018427387904)).setCell ⟨tb i,5,none⟩ (.int .i64 0)):=λ_ =>
   ⟨sN (sCached HM.out.1 4611686018427387904 st.cached) hi 2 (by omega) 0,(HM.out.2.setCell (p:=⟨mb,6,none⟩) hBm _).setCell (p:=⟨tb i,5,none⟩) hBt _⟩
  have HFN:=qd (fin 0);clear fin
  by_cases c5:0<st.rd
  ·have d5:decide (0<st.rd)=true:=decide_eq_true c5
   have HE2:=qd (HE.out.trans (if_pos c5));clear c5
   go_wp2_with fail
   try simp only[Exit.inBlock,Exit.then]
   refine bodyPost_ret (results_none rfl _ _ _) rfl ?_;refine⟨rfl,?_,HFN.out.2.setCell (p:=⟨tb i,2,none⟩) hBt _⟩;rw[HE2.out];exact⟨V,sPc HFN.out.1 hi 10⟩
  ·have d5:decide (0<st.rd)=false:=decide_eq_false c5
   have HE2:=qd (HE.out.trans (if_neg c5));clear c5
   go_wp2_with fail
   have e0:({ st.setN i 2 0 with cached:=4611686018427387904,old:=st.cached }:RS).N i 0=st.N i 0:=by show upd st.N i _ i 0=_;rw[upd_same,upd_ne _ _ (by decide)]
   have hx1:RS.OkX { st.setN i 2 0 with cached:=4611686018427387904,old:=st.cached } i:=
    (HX.out.setN 2 0).turnd ⟨rfl,rfl,rfl,rfl,rfl,λ_ _=>⟨rfl,rfl,rfl,rfl,rfl,rfl⟩,λ_ _=>rfl,λe=>absurd H0.out e⟩ ⟨HX.out.nx0,HX.out.nx1,by show (-1:Int)<=4611686018427387904;decide,Int.le_refl _,HX.out.dn0,HX.out.dn1,HX.out.cu0,HX.out.cu1,HX.out.nu,HX.out.pl⟩ rfl rfl
   refine(fQ (st:={ st.setN i 2 0 with cached:=4611686018427387904,old:=st.cached }) HFN.out.1 (Nat.le_trans hB HFN.out.2.size) hi hx1 HO.out (by rw[e0];exact b1) (by rw[e0];exact b2) (by rw[e0];exact b3)).mono ?_;rintro x w9 ⟨rfl,h2,bb2⟩;have H2:=qd (And.intro h2 (HFN.out.2.trans bb2));clear h2 bb2 e0 hx1;go_wp2
   go_end0
   exact⟨rfl,HE2.out▸H2.out⟩
 ·have e:sf=st.claimed i o:=by rw[HF.out];unfold RS.claim;rw[if_neg (by omega),if_neg (by omega),if_neg c4]
  have d4:decide (st.cached<st.next+st.N i 0-1-st.size)=false:=decide_eq_false c4;have HE:=qd e;clear e;go_wp2;rename_i K0 hK0
  go_quiet (fail)
  replace HM:=qd (And.intro (HM.out.1.drewN nq) (HM.out.2.trans (Below.drewN (Below.refl B _) nq)));generalize World.drewN _ nq=w3 at *;refine hK0 _ _ ?_;clear hK0 K0;clear m6 m5 m0 t3 c4 d4
  go_wp2_with fail
  refine(fQ HM.out.1 (Nat.le_trans hB HM.out.2.size) hi HX.out HO.out b1 b2 b3).mono ?_;rintro x w9 ⟨rfl,h2,bb2⟩;have H2:=qd (And.intro h2 (HM.out.2.trans bb2));clear h2 bb2;go_wp2
  go_end0
  exact⟨rfl,HE.out▸H2.out⟩
end
end Go.Proofs.Ytlcplealnbekeaa
namespace Go.Proofs.Ytlcplealnbekeaa
open Go.RowKit Go.Turn
open Go.ConcN (upd upd_ne upd_same)
theorem RS.stand_twice (m:RS) (i p q:Nat):(m.stand i p).stand i q=m.stand i q:=by
 have e:upd (upd m.pc i p) i q=upd m.pc i q:=by
  funext j
  by_cases e:j=i
  ·subst e;rw[upd_same,upd_same]
  ·rw [upd_ne _ _ e,upd_ne _ _ e,upd_ne _ _ e]
 show ({ m with pc:=upd (upd m.pc i p) i q }:RS)={ m with pc:=upd m.pc i q }
 rw[e]
section
variable {B mb:Nat}{tb:Nat->Nat}{st:RS}{V:Rt->Value}{w w':World}{i:Nat}
theorem begin12_ok (h:Mems B (aY mb tb st V) w) (hB:B<=w.heap.size) (hi:i<st.n) (hx:st.OkX i) {o:OpI}(ho:(st.ops i)[st.at_ i]?=some o) (hf:o.Fits):Calls Try.prog 50 #[.pointer (some ⟨mb,0,none⟩),.pointer (some ⟨tb i,0,none⟩),.int .i64 i] w λx w'=>x=.returned (.tuple #[])/\SMem B mb tb (st.begin_ i o) w'/\Below B w w':=by
 have hBt:B<=tb i:=(h.lt (r:=.th i) (gth hi) (b:=tb i) rfl).1;have hBm:B<=mb:=(h.lt (r:=.box) rfl (b:=mb) rfl).1;have hat0:=(List.getElem?_eq_some_iff.1 ho).1;have hlen:=hx.len i hi;have hat:st.at_ i<65536:=by omega
 have hans:(st.ans i).length<65536:=by rw[hx.ans i hi];exact hat
 have n0:=hx.nx0;have n1:=hx.nx1;have s1:=hx.s1;have rd64:=hx.rd;have hn64:=hx.n;obtain⟨⟨fa0,fa1⟩,fb0,fb1⟩:=hf;have HM:=qd (And.intro h (Below.refl B w));have HX:=qd hx;have HO:=qd ho;clear h hx ho;obtain⟨sf,hsf⟩:∃ sf,sf=st.begin_ i o:=⟨_,rfl⟩;rw[<-hsf];have HF:=qd hsf;clear hsf
 go_enter Try.func50,Try.ntmps50
 refine fD λK hK=>?_
 go_wp2_with fail
 refine(mM HM.out.1 hi HO.out hlen).mono ?_;rintro x w1 ⟨rfl,hk⟩;have hm:=qd (And.intro (HM.out.1.same λb hb=>hk.block b hb id) (HM.out.2.trans (hk.to_below (B:=B) (λ_ z=>z.elim) (Nat.le_trans hB HM.out.2.size))));clear HM hk;have HM:=hm;clear hm;obtain⟨kd,oa,ob,oc⟩:=o;simp only[OpI.val];dsimp only at fa0 fa1 fb0 fb1;go_wp2;refine hK.out _ _ ?_;clear hK K;have hm:=HM.out.1.alloc (.cells #[.int .i64 kd,.int .i64 oa,.int .i64 ob,.int .i64 oc] 46);have hw1:B<=w1.heap.size:=Nat.le_trans hB HM.out.2.size;have bw:=HM.out.2.alloc hw1 (.cells #[.int .i64 kd,.int .i64 oa,.int .i64 ob,.int .i64 oc] 46);have hb6:=Blk.new w1 46 #[.int .i64 kd,.int .i64 oa,.int .i64 ob,.int .i64 oc];have l1:=(HM.out.1.lt (r:=.th i) (gth hi) (b:=tb i) rfl).2;have l2:=(HM.out.1.lt (r:=.box) rfl (b:=mb) rfl).2;have hs1:(w1.alloc (.cells #[.int .i64 kd,.int .i64 oa,.int .i64 ob,.int .i64 oc] 46)).heap.size=w1.heap.size+1:=by simp
 have hne:=cD HM.out.1 (r:=.box) (r':=.th i) rfl (gth hi) (by simp) (b:=mb) rfl;have hne1:¬tb i=mb:=λz=>hne (by rw[<-z];rfl);have hne2:¬mb=tb i:=λz=>hne1 z.symm;clear hne HM;generalize w1.alloc (.cells #[.int .i64 kd,.int .i64 oa,.int .i64 ob,.int .i64 oc] 46)=w2 at *;generalize w1.heap.size=b6 at *;have HM:=qd (And.intro hm bw);have HB6:=qd hb6;clear hm bw hb6;have hB2:B<=w2.heap.size:=by omega
 have HS1:=qd hs1;clear hs1;refine fD λK hK=>?_;go_wp2;refine hK.out _ _ ?_;clear hK K;have hm:=HM.out.1.alloc (.cells #[.bool false,.int .i64 1,.slice none 0 0] 48);have bw:=HM.out.2.alloc hB2 (.cells #[.bool false,.int .i64 1,.slice none 0 0] 48);have hb7:=Blk.new w2 48 #[.bool false,.int .i64 1,.slice none 0 0];have hb6:=HB6.out.alloc (.cells #[.bool false,.int .i64 1,.slice none 0 0] 48);have hs1:=HS1.out;have hs2:(w2.alloc (.cells #[.bool false,.int .i64 1,.slice none 0 0] 48)).heap.size=w2.heap.size+1:=by simp
 clear HM HB6;generalize w2.alloc (.cells #[.bool false,.int .i64 1,.slice none 0 0] 48)=w3 at *;generalize w2.heap.size=b7 at *;have HM:=qd (And.intro hm bw);have HB6:=qd hb6;have HB7:=qd hb7;have h6t:¬b6=tb i:=by omega
 have h6m:¬b6=mb:=by omega
 have h7t:¬b7=tb i:=by omega
 have h7m:¬b7=mb:=by omega
 have h6t':¬tb i=b6:=by omega
 have h6m':¬mb=b6:=by omega
 have hB3:B<=w3.heap.size:=by omega
 clear hm bw hb6 hb7 hs1 hs2 HS1 l1 l2 hB2 hw1;have hb1:=RS.held3_bd oa (-1) 2147483647 (by decide);have hb2:=RS.held3_bd ob 0 ((st.size:Int)+1) (by omega)
 by_cases i0:i=0
 ·have e0:((i:Int)==0)=true:=by rw[i0];rfl
  have HI:=qd i0;clear i0
  by_cases k1:kd=1
  ·have e:sf=(st.setN i 0 (bA oa (-1) 2147483647)).claim i ⟨kd,oa,ob,oc⟩:=by rw[HF.out];unfold RS.begin_;rw[if_pos ⟨HI.out,k1⟩]
   have HE:=qd e;clear e;subst k1;have p0:=HB6.out.cell 0;have p1:=HB6.out.cell 1;have p2:=HB6.out.cell 2;simp only[zD] at p0 p1 p2;have z3:=bC HM.out.1 hi 3;have t3:=aS HM.out.1 hi 3 (by omega)
   simp[tdF,RS.setN,RS.stand,upd] at t3
   go_wp2;rename_i K0 hK0;refine aR 7 (by kernel_rfl) (by kernel_rfl) (by kernel_rfl) (by kernel_rfl) ?_;simp only[idle,zB,Nat.reduceAdd]
   repeat (go_big_quiet_step (first |(go_at_call 71;exact dQ (gU _ _ _ _))))
   refine wpQuiet_nil ?_;rintro _ ⟨nq,rfl⟩;refine aX (m:=7) rfl ?_;have hmd:=qd (And.intro (HM.out.1.drewN nq) (HM.out.2.trans (Below.drewN (Below.refl B _) nq)));have hb6:=qd (HB6.out.drewN nq);have hb7:=qd (HB7.out.drewN nq);clear HM HB6 HB7;have HM:=hmd;have HB6:=hb6;have HB7:=hb7;clear hmd hb6 hb7;generalize World.drewN _ nq=w4 at *;clear p0 p1 p2 z3 t3;have p0:=HB6.out.cell 0;have p1:=HB6.out.cell 1;have p2:=HB6.out.cell 2;simp only[zD] at p0 p1 p2;have z3:=bC HM.out.1 hi 3;have t3:=aS HM.out.1 hi 3 (by omega)
   simp[tdF,RS.setN,RS.stand,upd] at t3
   generalize bA oa (-1) 2147483647=hh at *;have hm:=sN HM.out.1 hi 0 (by omega) hh;have bw:=HM.out.2.setCell (p:=⟨tb i,3,none⟩) hBt (.int .i64 hh);have HM4:=qd (And.intro hm bw);clear hm bw
   go_wp2_with fail
   refine(oP (st:=st.setN i 0 hh) HM4.out.1 (Nat.le_trans hB HM4.out.2.size) hi HI.out (HX.out.setN 0 hh) HO.out (by show _<=upd st.N i _ i 0;rw[upd_same,upd_same];omega) (by show upd st.N i _ i 0<=_;rw[upd_same,upd_same];omega)).mono ?_;rintro x w5 ⟨rfl,h2,b2⟩;have H2:=qd (And.intro h2 (HM4.out.2.trans b2));clear h2 b2;go_wp2
   go_end0
   exact⟨rfl,HE.out▸H2.out⟩
  have n1':(kd==1)=false:=by simpa using k1
  by_cases k4:kd=4
  ·have e:sf=((st.setN i 0 (bA oa (-1) 2147483647)).setN i 0 (bA ob 0 ((st.size:Int)+1))).claim i ⟨kd,oa,ob,oc⟩:=by rw[HF.out];unfold RS.begin_;rw[if_neg (λz=>k1 z.2),if_pos ⟨HI.out,k4⟩]
   have HE:=qd e;clear e k1 n1';subst k4;have p0:=HB6.out.cell 0;have p1:=HB6.out.cell 1;have p2:=HB6.out.cell 2;simp only[zD] at p0 p1 p2;have z3:=bC HM.out.1 hi 3;have t3:=aS HM.out.1 hi 3 (by omega)
   simp[tdF,RS.setN,RS.stand,upd] at t3
   go_wp2;rename_i K0 hK0;refine aR 7 (by kernel_rfl) (by kernel_rfl) (by kernel_rfl) (by kernel_rfl) ?_;simp only[idle,zB,Nat.reduceAdd]
   repeat (go_big_quiet_step (first |(go_at_call 71;exact dQ (gU _ _ _ _))))
   refine wpQuiet_nil ?_;rintro _ ⟨nq,rfl⟩;refine aX (m:=7) rfl ?_;have hmd:=qd (And.intro (HM.out.1.drewN nq) (HM.out.2.trans (Below.drewN (Below.refl B _) nq)));have hb6:=qd (HB6.out.drewN nq);have hb7:=qd (HB7.out.drewN nq);clear HM HB6 HB7;have HM:=hmd;have HB6:=hb6;have HB7:=hb7;clear hmd hb6 hb7;generalize World.drewN _ nq=w4 at *;clear p0 p1 p2 z3 t3;have p0:=HB6.out.cell 0;have p1:=HB6.out.cell 1;have p2:=HB6.out.cell 2;simp only[zD] at p0 p1 p2;have z3:=bC HM.out.1 hi 3;have t3:=aS HM.out.1 hi 3 (by omega)
   simp[tdF,RS.setN,RS.stand,upd] at t3
   generalize bA oa (-1) 2147483647=hh at *;go_wp2;clear p0 p1 p2 z3 t3;have hm0:Mems B _ (World.setCell _ ⟨tb i,3,none⟩ (.int .i64 (hh))):=sN HM.out.1 hi 0 (by omega) (hh);have hb6:Blk (World.setCell _ ⟨tb i,3,none⟩ (.int .i64 (hh))) b6 _ _:=HB6.out.far (p:=⟨tb i,3,none⟩) h6t (.int .i64 (hh));have hb7:Blk (World.setCell _ ⟨tb i,3,none⟩ (.int .i64 (hh))) b7 _ _:=HB7.out.far (p:=⟨tb i,3,none⟩) h7t (.int .i64 (hh));have bw:=HM.out.2.setCell (p:=⟨tb i,3,none⟩) hBt (.int .i64 (hh));clear HM HB6 HB7;generalize World.setCell _ _ _=w5 at *;have HM:=qd (And.intro hm0 bw);have HB6:=qd hb6;have HB7:=qd hb7;clear hm0 hb6 hb7 bw;have p0:=HB6.out.cell 0;have p1:=HB6.out.cell 1;have p2:=HB6.out.cell 2;simp only[zD] at p0 p1 p2;have m0:=bD HM.out.1 0 (by omega)
   simp[bxF,RS.setN,RS.stand] at m0
   rename_i K0 hK0;refine aR 12 (by kernel_rfl) (by kernel_rfl) (by kernel_rfl) (by kernel_rfl) ?_;simp only[idle,zB,Nat.reduceAdd]
   repeat (go_big_quiet_step (first |(go_at_call 71;exact dQ (gU _ _ _ _))))
   refine wpQuiet_nil ?_;rintro _ ⟨nq,rfl⟩;refine aX (m:=12) rfl ?_;have hmd:=qd (And.intro (HM.out.1.drewN nq) (HM.out.2.trans (Below.drewN (Below.refl B _) nq)));have hb6:=qd (HB6.out.drewN nq);have hb7:=qd (HB7.out.drewN nq);clear HM HB6 HB7;have HM:=hmd;have HB6:=hb6;have HB7:=hb7;clear hmd hb6 hb7;generalize World.drewN _ nq=w6 at *;clear p0 p1 p2 m0;have z3:=bC HM.out.1 hi 3;have t3:=aS HM.out.1 hi 3 (by omega)
   simp[tdF,RS.setN,RS.stand,upd] at t3
   generalize bA ob 0 ((st.size:Int)+1)=h2 at *;have hm:=sN HM.out.1 hi 0 (by omega) h2;have bw:=HM.out.2.setCell (p:=⟨tb i,3,none⟩) hBt (.int .i64 h2);have HM4:=qd (And.intro hm bw);clear hm bw
   go_wp2_with fail
   refine(oP (st:=(st.setN i 0 hh).setN i 0 h2) HM4.out.1 (Nat.le_trans hB HM4.out.2.size) hi HI.out ((HX.out.setN 0 hh).setN 0 h2) HO.out (by show _<=upd (upd st.N i _) i _ i 0;rw[upd_same,upd_same];omega) (by show upd (upd st.N i _) i _ i 0<=_;rw[upd_same,upd_same];omega)).mono ?_;rintro x w5 ⟨rfl,h2,b2⟩;have H2:=qd (And.intro h2 (HM4.out.2.trans b2));clear h2 b2;go_wp2
   go_end0
   exact⟨rfl,HE.out▸H2.out⟩
  have n4':(kd==4)=false:=by simpa using k4
  by_cases k23:kd=2\/kd=3
  ·have e:sf=(if st.next<=oa\/oa<=st.done\/oa<0 then st.end_ i ⟨false,1,[]⟩ else(st.setN i 1 oa).stand i (if kd=3 then 30 else 20)):=by rw[HF.out];unfold RS.begin_;rw[if_neg (λz=>k1 z.2),if_neg (λz=>k4 z.2),if_pos ⟨HI.out,k23⟩]
   have HE:=qd e;clear e k1 k4 n1' n4'
   rcases k23 with rfl | rfl
   ·have p0:=HB6.out.cell 0
    have p1:=HB6.out.cell 1;have p2:=HB6.out.cell 2;simp only[zD] at p0 p1 p2;have m5:=bD HM.out.1 5 (by omega)
    simp[bxF,RS.setN,RS.stand] at m5
    have m7:=bD HM.out.1 7 (by omega)
    simp[bxF,RS.setN,RS.stand] at m7
    by_cases c1:st.next<=oa
    ·have d1:decide (st.next<=oa)=true:=decide_eq_true c1
     have HR:=qd (HE.out.trans (if_pos (.inl c1)));go_wp2;rename_i K0 hK0
     go_quiet (fail)
     have hmd:=qd (And.intro (HM.out.1.drewN nq) (HM.out.2.trans (Below.drewN (Below.refl B _) nq)));have hb6:=qd (HB6.out.drewN nq);have hb7:=qd (HB7.out.drewN nq);clear HM HB6 HB7;have HM:=hmd;have HB6:=hb6;have HB7:=hb7;clear hmd hb6 hb7;generalize World.drewN _ nq=w4 at *;refine hK0 _ _ ?_;clear hK0 K0;clear p0 p1 p2 m5 m7;have q0:=HB7.out.cell 0;have q1:=HB7.out.cell 1;have q2:=HB7.out.cell 2;simp only[zD] at q0 q1 q2
     go_wp2_with fail
     refine(bN HM.out.1 (Nat.le_trans hB HM.out.2.size) hi hat hans ⟨false,1,[]⟩ nilS ⟨none,0,rfl⟩ (.inl ⟨rfl,rfl⟩)).mono ?_;rintro x w9 ⟨rfl,h2,b2⟩;have H2:=qd (And.intro h2 (HM.out.2.trans b2));clear h2 b2;go_wp2
     try simp only[Exit.inBlock,Exit.then]
     refine bodyPost_ret (results_none rfl _ _ _) rfl ?_;exact⟨rfl,HR.out▸H2.out⟩
    have d1:decide (st.next<=oa)=false:=decide_eq_false c1
    by_cases c2:oa<=st.done
    ·have d2:decide (oa<=st.done)=true:=decide_eq_true c2
     have HR:=qd (HE.out.trans (if_pos (.inr (.inl c2))));go_wp2;rename_i K0 hK0
     go_quiet (fail)
     have hmd:=qd (And.intro (HM.out.1.drewN nq) (HM.out.2.trans (Below.drewN (Below.refl B _) nq)));have hb6:=qd (HB6.out.drewN nq);have hb7:=qd (HB7.out.drewN nq);clear HM HB6 HB7;have HM:=hmd;have HB6:=hb6;have HB7:=hb7;clear hmd hb6 hb7;generalize World.drewN _ nq=w4 at *;refine hK0 _ _ ?_;clear hK0 K0;clear p0 p1 p2 m5 m7;have q0:=HB7.out.cell 0;have q1:=HB7.out.cell 1;have q2:=HB7.out.cell 2;simp only[zD] at q0 q1 q2
     go_wp2_with fail
     refine(bN HM.out.1 (Nat.le_trans hB HM.out.2.size) hi hat hans ⟨false,1,[]⟩ nilS ⟨none,0,rfl⟩ (.inl ⟨rfl,rfl⟩)).mono ?_;rintro x w9 ⟨rfl,h2,b2⟩;have H2:=qd (And.intro h2 (HM.out.2.trans b2));clear h2 b2;go_wp2
     try simp only[Exit.inBlock,Exit.then]
     refine bodyPost_ret (results_none rfl _ _ _) rfl ?_;exact⟨rfl,HR.out▸H2.out⟩
    have d2:decide (oa<=st.done)=false:=decide_eq_false c2
    by_cases c3:oa<0
    ·have d3:decide (oa<0)=true:=decide_eq_true c3
     have HR:=qd (HE.out.trans (if_pos (.inr (.inr c3))));go_wp2;rename_i K0 hK0
     go_quiet (fail)
     have hmd:=qd (And.intro (HM.out.1.drewN nq) (HM.out.2.trans (Below.drewN (Below.refl B _) nq)));have hb6:=qd (HB6.out.drewN nq);have hb7:=qd (HB7.out.drewN nq);clear HM HB6 HB7;have HM:=hmd;have HB6:=hb6;have HB7:=hb7;clear hmd hb6 hb7;generalize World.drewN _ nq=w4 at *;refine hK0 _ _ ?_;clear hK0 K0;clear p0 p1 p2 m5 m7;have q0:=HB7.out.cell 0;have q1:=HB7.out.cell 1;have q2:=HB7.out.cell 2;simp only[zD] at q0 q1 q2
     go_wp2_with fail
     refine(bN HM.out.1 (Nat.le_trans hB HM.out.2.size) hi hat hans ⟨false,1,[]⟩ nilS ⟨none,0,rfl⟩ (.inl ⟨rfl,rfl⟩)).mono ?_;rintro x w9 ⟨rfl,h2,b2⟩;have H2:=qd (And.intro h2 (HM.out.2.trans b2));clear h2 b2;go_wp2
     try simp only[Exit.inBlock,Exit.then]
     refine bodyPost_ret (results_none rfl _ _ _) rfl ?_;exact⟨rfl,HR.out▸H2.out⟩
    have d3:decide (oa<0)=false:=decide_eq_false c3;have HR:=qd (HE.out.trans (if_neg (λz=>z.elim c1 λz=>z.elim c2 c3)));go_wp2;rename_i K0 hK0
    go_quiet (fail)
    have hmd:=qd (And.intro (HM.out.1.drewN nq) (HM.out.2.trans (Below.drewN (Below.refl B _) nq)));have hb6:=qd (HB6.out.drewN nq);have hb7:=qd (HB7.out.drewN nq);clear HM HB6 HB7;have HM:=hmd;have HB6:=hb6;have HB7:=hb7;clear hmd hb6 hb7;generalize World.drewN _ nq=w4 at *;refine hK0 _ _ ?_;clear hK0 K0;clear p0 p1 p2 m5 m7 c1 c2 c3 d1 d2 d3;have p0:=HB6.out.cell 0;have p1:=HB6.out.cell 1;have p2:=HB6.out.cell 2;simp only[zD] at p0 p1 p2;have z4:=bC HM.out.1 hi 4;have t4:=aS HM.out.1 hi 4 (by omega)
    simp[tdF,RS.setN,RS.stand,upd] at t4
    go_wp2;rename_i K0 hK0;refine aR 6 (by kernel_rfl) (by kernel_rfl) (by kernel_rfl) (by kernel_rfl) ?_;simp only[idle,zB,Nat.reduceAdd]
    repeat (go_big_quiet_step (first |(go_at_call 71;exact dQ (gU _ _ _ _))))
    refine wpQuiet_nil ?_;rintro _ ⟨nq,rfl⟩;refine aX (m:=6) rfl ?_;have hmd:=qd (And.intro (HM.out.1.drewN nq) (HM.out.2.trans (Below.drewN (Below.refl B _) nq)));have hb6:=qd (HB6.out.drewN nq);have hb7:=qd (HB7.out.drewN nq);clear HM HB6 HB7;have HM:=hmd;have HB6:=hb6;have HB7:=hb7;clear hmd hb6 hb7;generalize World.drewN _ nq=w5 at *;clear p0 p1 p2 z4 t4;have p0:=HB6.out.cell 0;have p1:=HB6.out.cell 1;have p2:=HB6.out.cell 2;simp only[zD] at p0 p1 p2;have z4:=bC HM.out.1 hi 4;have t4:=aS HM.out.1 hi 4 (by omega)
    simp[tdF,RS.setN,RS.stand,upd] at t4
    have t2:=aS HM.out.1 hi 2 (by omega)
    simp[tdF,RS.setN,RS.stand,upd] at t2
    have z2:=bC HM.out.1 hi 2;have hm:=sN HM.out.1 hi 1 (by omega) oa;have bw:=HM.out.2.setCell (p:=⟨tb i,4,none⟩) hBt (.int .i64 oa);have HM4:=qd (And.intro hm bw);clear hm bw;go_wp2
    go_end0
    refine⟨rfl,?_,HM4.out.2.setCell (p:=⟨tb i,2,none⟩) hBt _⟩;rw[HR.out];exact⟨V,sPc HM4.out.1 hi 20⟩
   ·have p0:=HB6.out.cell 0
    have p1:=HB6.out.cell 1;have p2:=HB6.out.cell 2;simp only[zD] at p0 p1 p2;have m5:=bD HM.out.1 5 (by omega)
    simp[bxF,RS.setN,RS.stand] at m5
    have m7:=bD HM.out.1 7 (by omega)
    simp[bxF,RS.setN,RS.stand] at m7
    by_cases c1:st.next<=oa
    ·have d1:decide (st.next<=oa)=true:=decide_eq_true c1
     have HR:=qd (HE.out.trans (if_pos (.inl c1)));go_wp2;rename_i K0 hK0
     go_quiet (fail)
     have hmd:=qd (And.intro (HM.out.1.drewN nq) (HM.out.2.trans (Below.drewN (Below.refl B _) nq)));have hb6:=qd (HB6.out.drewN nq);have hb7:=qd (HB7.out.drewN nq);clear HM HB6 HB7;have HM:=hmd;have HB6:=hb6;have HB7:=hb7;clear hmd hb6 hb7;generalize World.drewN _ nq=w4 at *;refine hK0 _ _ ?_;clear hK0 K0;clear p0 p1 p2 m5 m7;have q0:=HB7.out.cell 0;have q1:=HB7.out.cell 1;have q2:=HB7.out.cell 2;simp only[zD] at q0 q1 q2
     go_wp2_with fail
     refine(bN HM.out.1 (Nat.le_trans hB HM.out.2.size) hi hat hans ⟨false,1,[]⟩ nilS ⟨none,0,rfl⟩ (.inl ⟨rfl,rfl⟩)).mono ?_;rintro x w9 ⟨rfl,h2,b2⟩;have H2:=qd (And.intro h2 (HM.out.2.trans b2));clear h2 b2;go_wp2
     try simp only[Exit.inBlock,Exit.then]
     refine bodyPost_ret (results_none rfl _ _ _) rfl ?_;exact⟨rfl,HR.out▸H2.out⟩
    have d1:decide (st.next<=oa)=false:=decide_eq_false c1
    by_cases c2:oa<=st.done
    ·have d2:decide (oa<=st.done)=true:=decide_eq_true c2
     have HR:=qd (HE.out.trans (if_pos (.inr (.inl c2))));go_wp2;rename_i K0 hK0
     go_quiet (fail)
     have hmd:=qd (And.intro (HM.out.1.drewN nq) (HM.out.2.trans (Below.drewN (Below.refl B _) nq)));have hb6:=qd (HB6.out.drewN nq);have hb7:=qd (HB7.out.drewN nq);clear HM HB6 HB7;have HM:=hmd;have HB6:=hb6;have HB7:=hb7;clear hmd hb6 hb7;generalize World.drewN _ nq=w4 at *;refine hK0 _ _ ?_;clear hK0 K0;clear p0 p1 p2 m5 m7;have q0:=HB7.out.cell 0;have q1:=HB7.out.cell 1;have q2:=HB7.out.cell 2;simp only[zD] at q0 q1 q2
     go_wp2_with fail
     refine(bN HM.out.1 (Nat.le_trans hB HM.out.2.size) hi hat hans ⟨false,1,[]⟩ nilS ⟨none,0,rfl⟩ (.inl ⟨rfl,rfl⟩)).mono ?_;rintro x w9 ⟨rfl,h2,b2⟩;have H2:=qd (And.intro h2 (HM.out.2.trans b2));clear h2 b2;go_wp2
     try simp only[Exit.inBlock,Exit.then]
     refine bodyPost_ret (results_none rfl _ _ _) rfl ?_;exact⟨rfl,HR.out▸H2.out⟩
    have d2:decide (oa<=st.done)=false:=decide_eq_false c2
    by_cases c3:oa<0
    ·have d3:decide (oa<0)=true:=decide_eq_true c3
     have HR:=qd (HE.out.trans (if_pos (.inr (.inr c3))));go_wp2;rename_i K0 hK0
     go_quiet (fail)
     have hmd:=qd (And.intro (HM.out.1.drewN nq) (HM.out.2.trans (Below.drewN (Below.refl B _) nq)));have hb6:=qd (HB6.out.drewN nq);have hb7:=qd (HB7.out.drewN nq);clear HM HB6 HB7;have HM:=hmd;have HB6:=hb6;have HB7:=hb7;clear hmd hb6 hb7;generalize World.drewN _ nq=w4 at *;refine hK0 _ _ ?_;clear hK0 K0;clear p0 p1 p2 m5 m7;have q0:=HB7.out.cell 0;have q1:=HB7.out.cell 1;have q2:=HB7.out.cell 2;simp only[zD] at q0 q1 q2
     go_wp2_with fail
     refine(bN HM.out.1 (Nat.le_trans hB HM.out.2.size) hi hat hans ⟨false,1,[]⟩ nilS ⟨none,0,rfl⟩ (.inl ⟨rfl,rfl⟩)).mono ?_;rintro x w9 ⟨rfl,h2,b2⟩;have H2:=qd (And.intro h2 (HM.out.2.trans b2));clear h2 b2;go_wp2
     try simp only[Exit.inBlock,Exit.then]
     refine bodyPost_ret (results_none rfl _ _ _) rfl ?_;exact⟨rfl,HR.out▸H2.out⟩
    have d3:decide (oa<0)=false:=decide_eq_false c3;have HR:=qd (HE.out.trans (if_neg (λz=>z.elim c1 λz=>z.elim c2 c3)));go_wp2;rename_i K0 hK0
    go_quiet (fail)
    have hmd:=qd (And.intro (HM.out.1.drewN nq) (HM.out.2.trans (Below.drewN (Below.refl B _) nq)));have hb6:=qd (HB6.out.drewN nq);have hb7:=qd (HB7.out.drewN nq);clear HM HB6 HB7;have HM:=hmd;have HB6:=hb6;have HB7:=hb7;clear hmd hb6 hb7;generalize World.drewN _ nq=w4 at *;refine hK0 _ _ ?_;clear hK0 K0;clear p0 p1 p2 m5 m7 c1 c2 c3 d1 d2 d3;have p0:=HB6.out.cell 0;have p1:=HB6.out.cell 1;have p2:=HB6.out.cell 2;simp only[zD] at p0 p1 p2;have z4:=bC HM.out.1 hi 4;have t4:=aS HM.out.1 hi 4 (by omega)
    simp[tdF,RS.setN,RS.stand,upd] at t4
    go_wp2;rename_i K0 hK0;refine aR 6 (by kernel_rfl) (by kernel_rfl) (by kernel_rfl) (by kernel_rfl) ?_;simp only[idle,zB,Nat.reduceAdd]
    repeat (go_big_quiet_step (first |(go_at_call 71;exact dQ (gU _ _ _ _))))
    refine wpQuiet_nil ?_;rintro _ ⟨nq,rfl⟩;refine aX (m:=6) rfl ?_;have hmd:=qd (And.intro (HM.out.1.drewN nq) (HM.out.2.trans (Below.drewN (Below.refl B _) nq)));have hb6:=qd (HB6.out.drewN nq);have hb7:=qd (HB7.out.drewN nq);clear HM HB6 HB7;have HM:=hmd;have HB6:=hb6;have HB7:=hb7;clear hmd hb6 hb7;generalize World.drewN _ nq=w5 at *;clear p0 p1 p2 z4 t4;have p0:=HB6.out.cell 0;have p1:=HB6.out.cell 1;have p2:=HB6.out.cell 2;simp only[zD] at p0 p1 p2;have z4:=bC HM.out.1 hi 4;have t4:=aS HM.out.1 hi 4 (by omega)
    simp[tdF,RS.setN,RS.stand,upd] at t4
    have t2:=aS HM.out.1 hi 2 (by omega)
    simp[tdF,RS.setN,RS.stand,upd] at t2
    have z2:=bC HM.out.1 hi 2;have hm:=sN HM.out.1 hi 1 (by omega) oa;have bw:=HM.out.2.setCell (p:=⟨tb i,4,none⟩) hBt (.int .i64 oa);have HM4:=qd (And.intro hm bw);clear hm bw;go_wp2
    go_end0
    refine⟨rfl,?_,(HM4.out.2.setCell (p:=⟨tb i,2,none⟩) hBt _).setCell (p:=⟨tb i,2,none⟩) hBt _⟩;rw[HR.out];have h2:=sPc (sPc HM4.out.1 hi 20) hi 30;rw[RS.stand_twice] at h2;exact⟨V,h2⟩
  ·have e:sf=st.end_ i ⟨false,0,[]⟩:=by rw[HF.out];unfold RS.begin_;rw[if_neg (λz=>k1 z.2),if_neg (λz=>k4 z.2),if_neg (λz=>k23 z.2),if_neg (λz=>absurd z.1 (by rw[HI.out];exact Nat.lt_irrefl _)),if_neg (λz=>absurd z.1 (by rw[HI.out];exact Nat.lt_irrefl _))]
   have HE:=qd e
   have n2':(kd==2)=false:=by
    have:¬kd=2:=λz=>k23 (.inl z)
    simpa using this
   have n3':(kd==3)=false:=by
    have:¬kd=3:=λz=>k23 (.inr z)
    simpa using this
   have n0':decide (0<i)=false:=decide_eq_false (by rw[HI.out];exact Nat.lt_irrefl _);clear e k1 k4 k23;have p0:=HB6.out.cell 0;have p1:=HB6.out.cell 1;have p2:=HB6.out.cell 2;simp only[zD] at p0 p1 p2
   go_wp2_with fail
   refine(bN HM.out.1 (Nat.le_trans hB HM.out.2.size) hi hat hans ⟨false,0,[]⟩ nilS ⟨none,0,rfl⟩ (.inl ⟨rfl,rfl⟩)).mono ?_;rintro x w9 ⟨rfl,h2,b2⟩;have H2:=qd (And.intro h2 (HM.out.2.trans b2));clear h2 b2;go_wp2
   go_end0
   exact⟨rfl,HE.out▸H2.out⟩
 ·have hip:0<i:=by omega
  have e0:((i:Int)==0)=false:=by
   have:(i:Int)≠0:=by omega
   simpa using this
  have ep:decide (0<i)=true:=decide_eq_true hip
  have hf1:st.begin_ i ⟨kd,oa,ob,oc⟩=(if 0<i/\i<=st.rd/\kd=5 then(st.setN i 0 1).stand i 50 else if 0<i/\i<=st.rd/\kd=6 then((st.setN i 0 1).setN i 0 (bA (bA oa (-1) 2147483647) 1 2147483647)).stand i 50 else st.end_ i ⟨false,0,[]⟩):=by
   unfold RS.begin_;rw[if_neg (λz=>i0 z.1),if_neg (λz=>i0 z.1),if_neg (λz=>i0 z.1)]
  have HG:=qd (HF.out.trans hf1);have m10:=bD HM.out.1 10 (by omega)
  simp[bxF,RS.setN,RS.stand] at m10
  clear hf1 hb2
  by_cases c1:i<=st.rd
  ·have d1:decide (i<=st.rd)=true:=decide_eq_true c1
   by_cases k5:kd=5
   ·have HE:=qd (HG.out.trans (if_pos ⟨hip,c1,k5⟩))
    clear i0;subst k5;have p0:=HB6.out.cell 0;have p1:=HB6.out.cell 1;have p2:=HB6.out.cell 2;simp only[zD] at p0 p1 p2;have z3:=bC HM.out.1 hi 3;have t3:=aS HM.out.1 hi 3 (by omega)
    simp[tdF,RS.setN,RS.stand,upd] at t3
    have z2:=bC HM.out.1 hi 2;have t2:=aS HM.out.1 hi 2 (by omega)
    simp[tdF,RS.setN,RS.stand,upd] at t2
    have hm:=sN HM.out.1 hi 0 (by omega) 1;have bw:=HM.out.2.setCell (p:=⟨tb i,3,none⟩) hBt (.int .i64 1);have HM4:=qd (And.intro hm bw);clear hm bw;go_wp2
    go_end0
    refine⟨rfl,?_,HM4.out.2.setCell (p:=⟨tb i,2,none⟩) hBt _⟩;rw[HE.out];exact⟨V,sPc HM4.out.1 hi 50⟩
   ·have n5:(kd==5)=false:=by simpa using k5
    by_cases k6:kd=6
    ·have HE:=qd (HG.out.trans ((if_neg λz=>k5 z.2.2).trans (if_pos ⟨hip,c1,k6⟩)))
     clear i0 k5;subst k6;have p0:=HB6.out.cell 0;have p1:=HB6.out.cell 1;have p2:=HB6.out.cell 2;simp only[zD] at p0 p1 p2;have z3:=bC HM.out.1 hi 3;have t3:=aS HM.out.1 hi 3 (by omega)
     simp[tdF,RS.setN,RS.stand,upd] at t3
     go_wp2;clear p0 p1 p2 z3 t3 m10;have hm0:Mems B _ (World.setCell _ ⟨tb i,3,none⟩ (.int .i64 (1))):=sN HM.out.1 hi 0 (by omega) (1);have hb6:Blk (World.setCell _ ⟨tb i,3,none⟩ (.int .i64 (1))) b6 _ _:=HB6.out.far (p:=⟨tb i,3,none⟩) h6t (.int .i64 (1));have hb7:Blk (World.setCell _ ⟨tb i,3,none⟩ (.int .i64 (1))) b7 _ _:=HB7.out.far (p:=⟨tb i,3,none⟩) h7t (.int .i64 (1));have bw:=HM.out.2.setCell (p:=⟨tb i,3,none⟩) hBt (.int .i64 (1));clear HM HB6 HB7;generalize World.setCell _ _ _=w4 at *;have HM:=qd (And.intro hm0 bw);have HB6:=qd hb6;have HB7:=qd hb7;clear hm0 hb6 hb7 bw;have p0:=HB6.out.cell 0;have p1:=HB6.out.cell 1;have p2:=HB6.out.cell 2;simp only[zD] at p0 p1 p2;rename_i K0 hK0;refine aR 8 (by kernel_rfl) (by kernel_rfl) (by kernel_rfl) (by kernel_rfl) ?_;simp only[idle,zB,Nat.reduceAdd]
     repeat (go_big_quiet_step (first |(go_at_call 71;exact dQ (gU _ _ _ _))))
     refine wpQuiet_nil ?_;rintro _ ⟨nq,rfl⟩;refine aX (m:=8) rfl ?_;have hmd:=qd (And.intro (HM.out.1.drewN nq) (HM.out.2.trans (Below.drewN (Below.refl B _) nq)));have hb6:=qd (HB6.out.drewN nq);have hb7:=qd (HB7.out.drewN nq);clear HM HB6 HB7;have HM:=hmd;have HB6:=hb6;have HB7:=hb7;clear hmd hb6 hb7;generalize World.drewN _ nq=w5 at *;clear p0 p1 p2;have hb3:=RS.held3_bd (bA oa (-1) 2147483647) 1 2147483647 (by decide);have z3:=bC HM.out.1 hi 3;have t3:=aS HM.out.1 hi 3 (by omega)
     simp[tdF,RS.setN,RS.stand,upd] at t3
     have z2:=bC HM.out.1 hi 2;have t2:=aS HM.out.1 hi 2 (by omega)
     simp[tdF,RS.setN,RS.stand,upd] at t2
     generalize bA (bA oa (-1) 2147483647) 1 2147483647=hh at *;have hm:=sN HM.out.1 hi 0 (by omega) hh;have bw:=HM.out.2.setCell (p:=⟨tb i,3,none⟩) hBt (.int .i64 hh);have HM4:=qd (And.intro hm bw);clear hm bw;go_wp2
     go_end0
     refine⟨rfl,?_,HM4.out.2.setCell (p:=⟨tb i,2,none⟩) hBt _⟩;rw[HE.out];exact⟨V,sPc HM4.out.1 hi 50⟩
    ·have n6:(kd==6)=false:=by simpa using k6
     have HE:=qd (HG.out.trans ((if_neg λz=>k5 z.2.2).trans (if_neg λz=>k6 z.2.2)));clear i0 k5 k6;have p0:=HB6.out.cell 0;have p1:=HB6.out.cell 1;have p2:=HB6.out.cell 2;simp only[zD] at p0 p1 p2
     go_wp2_with fail
     refine(bN HM.out.1 (Nat.le_trans hB HM.out.2.size) hi hat hans ⟨false,0,[]⟩ nilS ⟨none,0,rfl⟩ (.inl ⟨rfl,rfl⟩)).mono ?_;rintro x w9 ⟨rfl,h2,b2⟩;have H2:=qd (And.intro h2 (HM.out.2.trans b2));clear h2 b2;go_wp2
     go_end0
     exact⟨rfl,HE.out▸H2.out⟩
  ·have d1:decide (i<=st.rd)=false:=decide_eq_false c1
   have HE:=qd (HG.out.trans ((if_neg λz=>c1 z.2.1).trans (if_neg λz=>c1 z.2.1)));clear i0;have p0:=HB6.out.cell 0;have p1:=HB6.out.cell 1;have p2:=HB6.out.cell 2;simp only[zD] at p0 p1 p2
   go_wp2_with fail
   refine(bN HM.out.1 (Nat.le_trans hB HM.out.2.size) hi hat hans ⟨false,0,[]⟩ nilS ⟨none,0,rfl⟩ (.inl ⟨rfl,rfl⟩)).mono ?_;rintro x w9 ⟨rfl,h2,b2⟩;have H2:=qd (And.intro h2 (HM.out.2.trans b2));clear h2 b2;go_wp2
   go_end0
   exact⟨rfl,HE.out▸H2.out⟩
end
end Go.Proofs.Ytlcplealnbekeaa
namespace Go.Proofs.Ytlcplealnbekeaa
open Go.RowKit Go.Turn
open Go.ConcN (upd upd_ne upd_same)
namespace RS
theorem iA (m:RS) (i:Nat) (o:OpI) (h0:i=0):Same i m (m.claimed i o):=by
 unfold RS.claimed;have h1:Same i m { (m.setN i 6 m.next).setN i 1 m.next with next:=m.next+m.N i 0 }:=((bM m i 6 m.next).trans (bM _ i 1 m.next)).trans ⟨rfl,rfl,rfl,rfl,rfl,λ_ _=>⟨rfl,rfl,rfl,rfl,rfl,rfl⟩,λ_ _=>rfl,λe=>absurd h0 e⟩
 split
 ·exact dH _ _ _
 ·dsimp only
  split
  ·exact h1.trans (dH _ _ _)
  ·exact h1.trans (bE _ _ _)
theorem nL (m:RS) (i:Nat) (o:OpI) (h0:i=0):Same i m (m.claim i o):=by
 unfold RS.claim;have h1:Same i m { m.setN i 2 0 with cached:=4611686018427387904,old:=m.cached }:=(bM m i 2 0).trans ⟨rfl,rfl,rfl,rfl,rfl,λ_ _=>⟨rfl,rfl,rfl,rfl,rfl,rfl⟩,λ_ _=>rfl,λe=>absurd h0 e⟩
 split
 ·exact dH _ _ _
 ·split
  ·exact dH _ _ _
  ·split
   ·dsimp only
    split
    ·exact h1.trans (bE _ _ _)
    ·exact h1.trans (iA _ _ _ h0)
   ·exact iA _ _ _ h0
theorem same_begin (m:RS) (i:Nat) (o:OpI):Same i m (m.begin_ i o):=by
 unfold RS.begin_
 split
 ·rename_i h;exact(bM _ _ _ _).trans (nL _ _ _ h.1)
 ·split
  ·rename_i h;exact((bM _ _ _ _).trans (bM _ _ _ _)).trans (nL _ _ _ h.1)
  ·split
   ·split
    ·exact dH _ _ _
    ·exact (bM _ _ _ _).trans (bE _ _ _)
   ·split
    ·exact (bM _ _ _ _).trans (bE _ _ _)
    ·split
     ·exact ((bM _ _ _ _).trans (bM _ _ _ _)).trans (bE _ _ _)
     ·exact dH _ _ _
def Went (m m':RS) (i:Nat):Prop:=(m'.pc i=0/\m'.at_ i=m.at_ i+1)\/(m'.pc i≠0/\m'.at_ i=m.at_ i)
theorem gN (m m1:RS) (i:Nat) (a:Ans) (h:m1.at_ i=m.at_ i):Went m (m1.end_ i a) i:=.inl ⟨upd_same _ _ _,(upd_same _ _ _).trans (by rw[h])⟩
theorem fW (m m1:RS) (i p:Nat) (h:m1.at_ i=m.at_ i) (hp:p≠0):Went m (m1.stand i p) i:=.inr ⟨by show upd m1.pc i p i≠0;rw[upd_same];exact hp,h⟩
theorem kD (m m1:RS) (i:Nat) (o:OpI) (h:m1.at_ i=m.at_ i):Went m (m1.claimed i o) i:=by
 unfold RS.claimed
 split
 ·exact gN _ _ _ _ h
 ·dsimp only
  split
  ·exact gN _ _ _ _ h
  ·exact fW _ _ _ _ h (by decide)
theorem mW (m m1:RS) (i:Nat) (o:OpI) (h:m1.at_ i=m.at_ i):Went m (m1.claim i o) i:=by
 unfold RS.claim
 split
 ·exact gN _ _ _ _ h
 ·split
  ·exact gN _ _ _ _ h
  ·split
   ·dsimp only
    split
    ·exact fW _ _ _ _ h (by decide)
    ·exact kD _ _ _ _ h
   ·exact kD _ _ _ _ h
theorem went_begin (m:RS) (i:Nat) (o:OpI):Went m (m.begin_ i o) i:=by
 unfold RS.begin_
 split
 ·exact mW _ _ _ _ rfl
 ·split
  ·exact mW _ _ _ _ rfl
  ·split
   ·split
    ·exact gN _ _ _ _ rfl
    ·exact fW _ _ _ _ rfl (by split <;> decide)
   ·split
    ·exact fW _ _ _ _ rfl (by decide)
    ·split
     ·exact fW _ _ _ _ rfl (by decide)
     ·exact gN _ _ _ _ rfl
def rest (m:RS) (i:Nat):Nat:=(m.ops i).length+1-m.at_ i
theorem settle_pc {m:RS}{i:Nat}(h:m.pc i≠0) (f:Nat):m.settle i f=m:=by
 cases f with
 | zero=>rfl
 | succ f=>simp only[settle,if_neg h]
theorem settle_none {m:RS}{i:Nat}(h:(m.ops i)[m.at_ i]?=none) (f:Nat):m.settle i f=m:=by
 cases f with
 | zero=>rfl
 | succ f =>
   simp only[settle,h]
   split <;> rfl
theorem settle_begin {m:RS}{i:Nat}{o:OpI}(hp:m.pc i=0) (ho:(m.ops i)[m.at_ i]?=some o):m.settle i (m.rest i)=(m.begin_ i o).settle i ((m.begin_ i o).rest i):=by
 have hat:=(List.getElem?_eq_some_iff.1 ho).1;have e:m.rest i=((m.ops i).length-m.at_ i)+1:=by unfold rest;omega
 rw[e];have e1:m.settle i (((m.ops i).length-m.at_ i)+1)=(m.begin_ i o).settle i ((m.ops i).length-m.at_ i):=by simp only[settle,if_pos hp,ho]
 rw[e1]
 rcases went_begin m i o with⟨h1,h2⟩ | ⟨h1,h2⟩
 ·have e2:(m.begin_ i o).rest i=(m.ops i).length-m.at_ i:=by unfold rest;rw[(same_begin m i o).ops,h2];omega
  rw[e2]
 ·rw [settle_pc h1,settle_pc h1]
theorem same_settle (i:Nat):∀ (f:Nat) (m:RS),Same i m (m.settle i f)
 | 0,m=>Same.refl i m
 | f + 1,m=>by
   simp only[settle]
   split
   ·split
    ·exact (same_begin _ _ _).trans (same_settle i f _)
    ·exact Same.refl i m
   ·exact Same.refl i m
theorem Ok.settle {i:Nat}:∀ (f:Nat) {m:RS},m.Ok->i<m.n->(m.settle i f).Ok
 | 0,m,h,_=>h
 | f + 1,m,h,hi=>by
   simp only[RS.settle]
   split
   ·rename_i hp
    split
    ·rename_i o ho
     exact Ok.settle f (h.begin_ hi hp ho) (by rw[(same_begin m i o).n];exact hi)
    ·exact h
   ·exact h
theorem At.ended {m:RS}{i j:Nat}{o:OpI}(f:Nat->Bool) (h:At m j o):At { m with ended:=f } j o:=by
 cases h with
 | look hp hi hk h1 h2 h3 h4 h5=>exact .look hp hi hk h1 h2 h3 h4 h5
 | put hp hi hk h1 h2 h3=>exact .put hp hi hk h1 h2 h3
 | pub hp hi hk h1 h2 h3=>exact .pub hp hi hk h1 h2 h3
 | get hp hi hr hk h1 h2 h3 h4 h5=>exact .get hp hi hr hk h1 h2 h3 h4 h5
theorem Ok.setEnded {m:RS}(h:m.Ok) (f:Nat->Bool):({ m with ended:=f }:RS).Ok:=
 ⟨h.n,h.s0,h.s1,h.rd,h.nx0,h.nx1,h.ca0,h.ca1,h.dn0,h.dn1,h.cu0,h.cu1,h.nu,h.pl,h.len,h.at_,h.ans,h.op,h.nil,fun i hi hp=>by
   obtain⟨o,h1,h2⟩:=h.live i hi hp;exact⟨o,h1,At.ended (i:=i) f h2⟩⟩
theorem Ok.settled {m:RS}{i:Nat}(h:m.Ok) (hi:i<m.n):(m.settled i).Ok:=(Ok.settle _ h hi).setEnded _
end RS
def pR (w:World) (b len:Nat):Nat:=match w.cell? ⟨b,1,none⟩,w.cell? ⟨b,2,none⟩ with
 | some (.int _ a),some (.int _ p)=>2*(len-a.toNat)+(if p=0 then 1 else 0)
 | _,_=>0
section
variable {B mb:Nat}{tb:Nat->Nat}{st:RS}{V:Rt->Value}{w w':World}{i:Nat}
theorem rem12_eq (h:Mems B (aY mb tb st V) w) (hi:i<st.n) (len:Nat):pR w (tb i) len=2*(len-st.at_ i)+(if st.pc i=0 then 1 else 0):=by
 have t1:=aS h hi 1 (by omega);have t2:=aS h hi 2 (by omega);simp only[tdF] at t1 t2;unfold pR;rw[t1,t2]
 simp
theorem sEn (h:Mems B (aY mb tb st V) w) (hi:i<st.n) (b:Bool):Mems B (aY mb tb { st with ended:=upd st.ended i b } V) (w.setCell ⟨tb i,13,none⟩ (.bool b)):=
 gD (gset h hi 13 (.bool b)) rfl (λk hk=>by rcases k with _ | _ | _ | _ | _ | _ | _ | _ | _ | _ | _ | k <;> first | omega | rfl) (λj k hj hk=>by
  by_cases e:j=i
  ·subst e
   rcases k with _ | _ | _ | _ | _ | _ | _ | _ | _ | _ | _ | _ | _ | _ | k <;> first | omega | simp[gO,tdF,upd_same]
  ·rcases k with _ | _ | _ | _ | _ | _ | _ | _ | _ | _ | _ | _ | _ | _ | k <;> first | omega | simp[gO,tdF,upd_ne _ _ e,e]) (λr _ _ d' hd=>.inl ⟨d'.f,hd,λ_ _=>rfl⟩)
theorem dB (h:Mems B (aY mb tb st V) w) (hB:B<=w.heap.size) (hi:i<st.n) (hok:st.Ok):Calls Try.prog 25 #[.pointer (some ⟨mb,0,none⟩),.int .i64 i] w λx w'=>x=.returned (.tuple #[])/\SMem B mb tb (st.settled i) w'/\Below B w w':=by
 have hBt:B<=tb i:=(h.lt (r:=.th i) (gth hi) (b:=tb i) rfl).1;have hlen:=hok.len i hi;have hn:=hok.n;obtain⟨g,c,hT,hgc,hcm⟩:=bS h (r:=.T) (e:=116) (sz:=1) (v:=V .T) (n:=st.n) (f:=λj=>.pointer (some ⟨tb j,0,none⟩)) rfl (by omega);have hTc:w.cell? ⟨g,i,none⟩=some (.pointer (some ⟨tb i,0,none⟩)):=h.cell (r:=.T) (e:=116) (sz:=1) (cap:=c) (n:=st.n) (f:=λj=>.pointer (some ⟨tb j,0,none⟩)) (by rw[<-hT];rfl) (by omega);have HM:=qd (And.intro h (Below.refl B w));have HT:=qd hT;have HK:=qd hok;have m9:w.cell? ⟨mb,9,none⟩=some (.slice (some ⟨g,0,none⟩) st.n c):=by rw[bD h 9 (by omega)];exact congrArg some hT
 unfold maxLen at hcm;clear h hok hT
 go_enter Try.func25,Try.ntmps25
 go_wp2;clear m9 hTc
 go_loopw [] (λwr=>∃ st':RS,SMem B mb tb st' wr/\st'.Ok/\RS.Same i st st'/\st.settle i (st.rest i)=st'.settle i (st'.rest i)/\Below B w wr) (λwr=>pR wr (tb i) (st.ops i).length)
 case atStart=>exact⟨st,⟨V,HM.out.1⟩,HK.out,RS.Same.refl _ _,rfl,Below.refl _ _⟩
 case round =>
  obtain⟨s,⟨V2,h⟩,hok,hs,he,hb⟩:=hrel;have hi':i<s.n:=by rw[hs.n];exact hi
  obtain⟨A0,cA,hA⟩:=cB h (r:=.op i) (e:=46) (sz:=4) (v:=V2 (.op i)) (n:=(s.ops i).length) (f:=cJ 4 (oqF (s.ops i))) (by simp only[aY,bW,bQ,if_pos hi']);have t0:wr.cell? ⟨tb i,0,none⟩=some (.slice A0 (s.ops i).length cA):=by rw[aS h hi' 0 (by omega)];exact congrArg some hA
  have t1:wr.cell? ⟨tb i,1,none⟩=some (.int .i64 (s.at_ i)):=aS h hi' 1 (by omega);have t2:wr.cell? ⟨tb i,2,none⟩=some (.int .i64 (s.pc i)):=aS h hi' 2 (by omega);have ha:=hok.at_ i hi';have hl:=hok.len i hi';have hBr:=Nat.le_trans hB hb.size;have HM2:=qd (And.intro h hb);have HK2:=qd hok;have HS:=qd hs;have HE:=qd he;have HA:=qd hA;clear h hb hok hs he hA
  by_cases hp:s.pc i=0
  ·have fp:((s.pc i:Int)==0)=true:=by simp[hp]
   by_cases hl2:s.at_ i<(s.ops i).length
   ·have fl:decide (s.at_ i<(s.ops i).length)=true:=decide_eq_true hl2
    obtain⟨o,ho⟩:∃ o,(s.ops i)[s.at_ i]?=some o:=⟨_,List.getElem?_eq_getElem hl2⟩;have HO:=qd (And.intro ho hp);clear ho hp;go_wp2;rename_i K0 hK0
    go_quiet (fail)
    have hmd:=qd (And.intro (HM2.out.1.drewN nq) (HM2.out.2.trans (Below.drewN (Below.refl B _) nq)));have hbd:B<=(wr.drewN nq).heap.size:=hBr;have HRW:Hid (pR wr (tb i) (st.ops i).length=2*((st.ops i).length-s.at_ i)+1):=qd (by rw[rem12_eq HM2.out.1 hi',if_pos HO.out.2]);clear HM2 hBr t0 t1 t2;generalize World.drewN wr nq=wd at *;refine hK0 _ _ ?_;clear hK0 K0
    go_wp2_with fail
    refine(begin12_ok hmd.out.1 hbd hi' (HK2.out.x i) HO.out.1 (HK2.out.op i hi' o (List.mem_of_getElem? HO.out.1))).mono ?_;rintro x w5 ⟨rfl,h5,b5⟩
    have HREL:=qd (show (∃ st':RS,SMem B mb tb st' w5/\st'.Ok/\RS.Same i st st'/\st.settle i (st.rest i)=st'.settle i (st'.rest i)/\Below B w w5)/\pR w5 (tb i) (st.ops i).length<pR wr (tb i) (st.ops i).length from by
     have hsb:=RS.same_begin s i o;refine⟨⟨s.begin_ i o,h5,HK2.out.begin_ hi' HO.out.2 HO.out.1,HS.out.trans hsb,HE.out.trans (RS.settle_begin HO.out.2 HO.out.1),hmd.out.2.trans b5⟩,?_⟩;obtain⟨V5,h5⟩:=h5;rw[rem12_eq h5 (by rw[hsb.n];exact hi'),HRW.out];have e:=HS.out.ops;rw[e] at hl2
     rcases RS.went_begin s i o with⟨q1,q2⟩ | ⟨q1,q2⟩
     ·rw [if_pos q1,q2];omega
     ·rw [if_neg q1,q2];omega)
    clear h5 b5;go_wp2;go_roundw
    case rel=>exact HREL.out.1
    case measure=>exact HREL.out.2
   ·have fl:decide (s.at_ i<(s.ops i).length)=false:=decide_eq_false hl2
    have fl2:decide ((s.ops i).length<=s.at_ i)=true:=decide_eq_true (by omega);have hno:=qd (show (s.ops i)[s.at_ i]?=none from List.getElem?_eq_none (by omega));clear hp
    have HR:=qd (show st.settled i={ s with ended:=upd s.ended i (decide ((s.ops i).length<=s.at_ i)) } from by
     unfold RS.settled;rw[show st.settle i ((st.ops i).length+1-st.at_ i)=s from HE.out.trans (RS.settle_none hno.out _)];dsimp only;rw[HS.out.ops])
    go_wp2;rename_i K0 hK0
    go_quiet (fail)
    have hmd:=qd (And.intro (HM2.out.1.drewN nq) (HM2.out.2.trans (Below.drewN (Below.refl B _) nq)));have t0:(wr.drewN nq).cell? ⟨tb i,0,none⟩=some (.slice A0 (s.ops i).length cA):=t0;have t1:(wr.drewN nq).cell? ⟨tb i,1,none⟩=some (.int .i64 (s.at_ i)):=t1;clear HM2 hBr t2;generalize World.drewN wr nq=wd at *;refine hK0 _ _ ?_;clear hK0 K0;go_wp2;rename_i K0 hK0;refine aR 13 (by kernel_rfl) (by kernel_rfl) (by kernel_rfl) (by kernel_rfl) ?_;simp only[idle,zB,Nat.reduceAdd]
    repeat (go_big_quiet_step (fail))
    refine wpQuiet_nil ?_;rintro _ ⟨nq,rfl⟩;refine aX (m:=13) rfl ?_;have hm2:=qd (And.intro (hmd.out.1.drewN nq) (hmd.out.2.trans (Below.drewN (Below.refl B _) nq)));clear hmd t0 t1;generalize World.drewN wd nq=we at *;have t13:we.cell? ⟨tb i,13,none⟩=some (.bool (s.ended i)):=aS hm2.out.1 hi' 13 (by omega);have z13:=bC hm2.out.1 hi' 13;go_wp2
    go_end0
    refine⟨rfl,?_,hm2.out.2.setCell (p:=⟨tb i,13,none⟩) hBt _⟩;rw[HR.out]
    first
     | exact⟨V2,sEn hm2.out.1 hi' _⟩
     | (rw[fl2];exact⟨V2,sEn hm2.out.1 hi' true⟩)
  ·have fp:((s.pc i:Int)==0)=false:=by
    have:(s.pc i:Int)≠0:=by omega
    simpa using this
   have HP:=qd hp;clear hp
   have HR:=qd (show st.settled i={ s with ended:=upd s.ended i (decide ((s.ops i).length<=s.at_ i)) } from by
    unfold RS.settled;rw[show st.settle i ((st.ops i).length+1-st.at_ i)=s from HE.out.trans (RS.settle_pc HP.out _)];dsimp only;rw[HS.out.ops])
   go_wp2;rename_i K0 hK0
   go_quiet (fail)
   have hmd:=qd (And.intro (HM2.out.1.drewN nq) (HM2.out.2.trans (Below.drewN (Below.refl B _) nq)));have t0:(wr.drewN nq).cell? ⟨tb i,0,none⟩=some (.slice A0 (s.ops i).length cA):=t0;have t1:(wr.drewN nq).cell? ⟨tb i,1,none⟩=some (.int .i64 (s.at_ i)):=t1;clear HM2 hBr t2;generalize World.drewN wr nq=wd at *;refine hK0 _ _ ?_;clear hK0 K0;go_wp2;rename_i K0 hK0;refine aR 13 (by kernel_rfl) (by kernel_rfl) (by kernel_rfl) (by kernel_rfl) ?_;simp only[idle,zB,Nat.reduceAdd]
   repeat (go_big_quiet_step (fail))
   refine wpQuiet_nil ?_;rintro _ ⟨nq,rfl⟩;refine aX (m:=13) rfl ?_;have hm2:=qd (And.intro (hmd.out.1.drewN nq) (hmd.out.2.trans (Below.drewN (Below.refl B _) nq)));clear hmd t0 t1;generalize World.drewN wd nq=we at *;have t13:we.cell? ⟨tb i,13,none⟩=some (.bool (s.ended i)):=aS hm2.out.1 hi' 13 (by omega);have z13:=bC hm2.out.1 hi' 13;go_wp2
   go_end0
   refine⟨rfl,?_,hm2.out.2.setCell (p:=⟨tb i,13,none⟩) hBt _⟩;rw[HR.out]
   first
    | exact⟨V2,sEn hm2.out.1 hi' _⟩
    | (rw[fl2];exact⟨V2,sEn hm2.out.1 hi' true⟩)
end
end Go.Proofs.Ytlcplealnbekeaa
namespace Go.Proofs.Ytlcplealnbekeaa
open Go.RowKit Go.Turn
open Go.ConcN (upd upd_ne upd_same)
theorem updTwice {α:Type}(f:Nat->α) (i:Nat) (x y:α):upd (upd f i x) i y=upd f i y:=by
 funext j
 by_cases e:j=i
 ·subst e;rw[upd_same,upd_same]
 ·rw [upd_ne _ _ e,upd_ne _ _ e,upd_ne _ _ e]
theorem RS.setV_twice (m:RS) (k:Nat) (x y:Int):({ ({ m with V:=upd m.V k x }:RS) with V:=upd (upd m.V k x) k y }:RS)={ m with V:=upd m.V k y }:=by rw[updTwice]
section
variable {B mb:Nat}{tb:Nat->Nat}{st:RS}{V:Rt->Value}{w w':World}{i:Nat}
theorem srow (h:Mems B (aY mb tb st V) w) (hs:0<st.size):∃ g c,V .S=.slice (some ⟨g,0,none⟩) st.size c/\st.size<=c/\c<=maxLen:=bS h (r:=.S) (e:=2) (sz:=1) (v:=V .S) (n:=st.size) (f:=λj=>.int .i64 (st.S j)) rfl hs
theorem vrow (h:Mems B (aY mb tb st V) w) (hs:0<st.size):∃ g c,V .V=.slice (some ⟨g,0,none⟩) st.size c/\st.size<=c/\c<=maxLen:=bS h (r:=.V) (e:=2) (sz:=1) (v:=V .V) (n:=st.size) (f:=λj=>.int .i64 (st.V j)) rfl hs
theorem scell {g c:Nat}(h:Mems B (aY mb tb st V) w) (hS:V .S=.slice (some ⟨g,0,none⟩) st.size c) {k:Nat}(hk:k<st.size):w.cell? ⟨g,k,none⟩=some (.int .i64 (st.S k))/\w.frozen? ⟨g,k,none⟩=false:=by
 have e:aY mb tb st V .S=some ⟨2,1,.slice (some ⟨g,0,none⟩) st.size c,st.size,λj=>.int .i64 (st.S j)⟩:=by rw[<-hS];rfl
 exact⟨h.cell e (by omega),h.frozen e k⟩
theorem vcell {g c:Nat}(h:Mems B (aY mb tb st V) w) (hS:V .V=.slice (some ⟨g,0,none⟩) st.size c) {k:Nat}(hk:k<st.size):w.cell? ⟨g,k,none⟩=some (.int .i64 (st.V k))/\w.frozen? ⟨g,k,none⟩=false:=by
 have e:aY mb tb st V .V=some ⟨2,1,.slice (some ⟨g,0,none⟩) st.size c,st.size,λj=>.int .i64 (st.V j)⟩:=by rw[<-hS];rfl
 exact⟨h.cell e (by omega),h.frozen e k⟩
theorem dT {g c n:Nat}{r:Rt}{e:TypeId}{sz:Nat}{f:Nat->Value}(h:Mems B (aY mb tb st V) w) (hr:aY mb tb st V r=some ⟨e,sz,.slice (some ⟨g,0,none⟩) n c,n,f⟩):B<=g/\g<w.heap.size:=h.lt hr rfl
theorem mV (h:Mems B (aY mb tb st V) w) (hB:B<=w.heap.size) (hi:i<st.n) (hok:st.Ok) {o:OpI}(ho:(st.ops i)[st.at_ i]?=some o) (ha:RS.At st i o) (hw:st.pc i=20\/st.pc i=21\/st.pc i=22\/st.pc i=30) (hf:o.Fits):Calls Try.prog 52 #[.pointer (some ⟨mb,0,none⟩),.pointer (some ⟨tb i,0,none⟩)] w λx w'=>x=.returned (.tuple #[])/\SMem B mb tb (st.write i o) w'/\Below B w w':=by
 have hBt:B<=tb i:=(h.lt (r:=.th i) (gth hi) (b:=tb i) rfl).1;have hBm:B<=mb:=(h.lt (r:=.box) rfl (b:=mb) rfl).1;have hx:=hok.x i;have hat0:=(List.getElem?_eq_some_iff.1 ho).1;have hlen:=hok.len i hi;have hat:st.at_ i<65536:=by omega
 have hans:(st.ans i).length<65536:=by rw[hok.ans i hi];exact hat
 have s0:=hok.s0;have s1:=hok.s1;have nx1:=hok.nx1
 obtain ⟨q0,q1⟩:0<=st.N i 1/\st.N i 1<4611686018427387904:=by
  cases ha with
  | look hp=>omega
  | get hp=>omega
  | put _ _ _ h1 h2 _=>omega
  | pub _ _ _ h1 h2 _=>omega
 obtain⟨sb,sc,hS,hsc,hsm⟩:=srow h s0;obtain⟨vb,vc,hV,hvc,hvm⟩:=vrow h s0;have hSr:aY mb tb st V .S=some ⟨2,1,.slice (some ⟨sb,0,none⟩) st.size sc,st.size,λj=>.int .i64 (st.S j)⟩:=by rw[<-hS];rfl
 have hVr:aY mb tb st V .V=some ⟨2,1,.slice (some ⟨vb,0,none⟩) st.size vc,st.size,λj=>.int .i64 (st.V j)⟩:=by rw[<-hV];rfl
 obtain⟨hBs,hls⟩:=dT h hSr;obtain⟨hBv,hlv⟩:=dT h hVr;have nst:¬sb=tb i:=λz=>cD h hSr (gth (R:=bQ tb st V) (G:=bxF st V) (F:=tdF st V) (mb:=mb) (tb:=tb) hi) (by simp) (b:=sb) rfl (by rw[z];rfl);have nvt:¬vb=tb i:=λz=>cD h hVr (gth (R:=bQ tb st V) (G:=bxF st V) (F:=tdF st V) (mb:=mb) (tb:=tb) hi) (by simp) (b:=vb) rfl (by rw[z];rfl);have nst':¬tb i=sb:=λz=>nst z.symm;have nvt':¬tb i=vb:=λz=>nvt z.symm;have hne1:¬tb i=mb:=λz=>cD h (r:=.box) (r':=.th i) rfl (gth hi) (by simp) (b:=mb) rfl (by rw[<-z];rfl);have hne2:¬mb=tb i:=λz=>hne1 z.symm;have hl1:=(h.lt (r:=.th i) (gth hi) (b:=tb i) rfl).2;have hl2:=(h.lt (r:=.box) rfl (b:=mb) rfl).2;obtain⟨⟨fa0,fa1⟩,fb0,fb1⟩:=hf;obtain⟨k,hk⟩:∃ k:Nat,st.N i 1%(st.size:Int)=k:=⟨(st.N i 1%(st.size:Int)).toNat,by have:=Int.emod_nonneg (st.N i 1) (show (st.size:Int)≠0 by omega);omega⟩;have hks:k<st.size:=by have:=Int.emod_lt_of_pos (st.N i 1) (show (0:Int)<st.size by omega);omega
 obtain⟨l,hl⟩:∃ l,l=st.N i 1 / (st.size:Int):=⟨_,rfl⟩;have l0:0<=l:=by rw[hl];exact Int.ediv_nonneg q0 (by omega)
 have ll:l<=st.N i 1:=by rw[hl];exact Int.ediv_le_self _ q0
 have HM:=qd (And.intro h (Below.refl B w));have HX:=qd hx;have HO:=qd ho;have HA:=qd ha;have HR:=qd (And.intro hS hV);have HK:=qd (And.intro hk hl);obtain⟨sf,hsf⟩:∃ sf,sf=st.write i o:=⟨_,rfl⟩;rw[<-hsf];have hsf2:sf=st.write i o:=hsf;unfold RS.write at hsf2;dsimp only at hsf2;rw[hk,<-hl] at hsf2;simp only[Int.toNat_natCast] at hsf2;have HF:=qd hsf2
 have ez:((st.size:Int)==0)=false:=by
  have:(st.size:Int)≠0:=by omega
  simpa using this
 have em:Int.tmod (st.N i 1) (st.size:Int)=(k:Int):=by rw[Int.tmod_eq_emod_of_nonneg q0,hk]
 have ed:Int.tdiv (st.N i 1) (st.size:Int)=l:=by rw[Int.tdiv_eq_ediv_of_nonneg q0,<-hl]
 have HW:=qd hw;clear h hx ho ha hS hV hSr hVr hk hl hsf hsf2 hok hw
 go_enter Try.func52,Try.ntmps52
 refine fD λK hK=>?_
 go_wp2_with fail
 refine(mM HM.out.1 hi HO.out hlen).mono ?_;rintro x w1 ⟨rfl,hk⟩;have hm:=qd (And.intro (HM.out.1.same λb hb=>hk.block b hb id) (HM.out.2.trans (hk.to_below (B:=B) (λ_ z=>z.elim) (Nat.le_trans hB HM.out.2.size))));clear HM hk;have HM:=hm;clear hm;obtain⟨kd,oa,ob,oc⟩:=o;simp only[OpI.val];dsimp only at fa0 fa1 fb0 fb1;go_wp2;refine hK.out _ _ ?_;clear hK K;have hsz1:=HM.out.2.size;have hm:=HM.out.1.alloc (.cells #[.int .i64 kd,.int .i64 oa,.int .i64 ob,.int .i64 oc] 46);have hw1:B<=w1.heap.size:=Nat.le_trans hB HM.out.2.size;have bw:=HM.out.2.alloc hw1 (.cells #[.int .i64 kd,.int .i64 oa,.int .i64 ob,.int .i64 oc] 46);have hb6:=Blk.new w1 46 #[.int .i64 kd,.int .i64 oa,.int .i64 ob,.int .i64 oc];clear HM;generalize w1.alloc (.cells #[.int .i64 kd,.int .i64 oa,.int .i64 ob,.int .i64 oc] 46)=w2 at *;generalize w1.heap.size=b6 at *;have HM:=qd (And.intro hm bw);have HB6:=qd hb6;have hB2:B<=w2.heap.size:=Nat.le_trans hB bw.size;have h6t:¬b6=tb i:=by omega
 have h6m:¬b6=mb:=by omega
 have h6s:¬b6=sb:=by omega
 have h6v:¬b6=vb:=by omega
 clear hm bw hb6 hw1 hls hlv hl1 hl2 hsz1;have m0:=bD HM.out.1 0 (by omega)
 simp[bxF,RS.setN,RS.stand] at m0
 have t4:=aS HM.out.1 hi 4 (by omega)
 simp[tdF,RS.setN,RS.stand,upd] at t4
 go_wp2;rename_i K0 hK0
 go_quiet (fail)
 have hmd:=qd (And.intro (HM.out.1.drewN nq) (HM.out.2.trans (Below.drewN (Below.refl B _) nq)));have hb6:=qd (HB6.out.drewN nq);clear HM HB6;have HM:=hmd;have HB6:=hb6;clear hmd hb6;generalize World.drewN _ nq=w3 at *;refine hK0 _ _ ?_;clear hK0 K0;clear m0 t4;have m0:=bD HM.out.1 0 (by omega)
 simp[bxF,RS.setN,RS.stand] at m0
 have t4:=aS HM.out.1 hi 4 (by omega)
 simp[tdF,RS.setN,RS.stand,upd] at t4
 go_wp2;rename_i K0 hK0
 go_quiet (fail)
 have hmd:=qd (And.intro (HM.out.1.drewN nq) (HM.out.2.trans (Below.drewN (Below.refl B _) nq)));have hb6:=qd (HB6.out.drewN nq);clear HM HB6;have HM:=hmd;have HB6:=hb6;clear hmd hb6;generalize World.drewN _ nq=w4 at *;refine hK0 _ _ ?_;clear hK0 K0;clear m0 t4 ez em ed
 rcases HW.out with p | p | p | p
 ·have t2:w4.cell? ⟨tb i,2,none⟩=some (.int .i64 20):=by rw[aS HM.out.1 hi 2 (by omega)];simp[tdF,p]
  have z2:=bC HM.out.1 hi 2;have m1:w4.cell? ⟨mb,1,none⟩=some (.slice (some ⟨sb,0,none⟩) st.size sc):=by rw[bD HM.out.1 1 (by omega)];exact congrArg some HR.out.1
  obtain⟨cS,zS⟩:=scell HM.out.1 HR.out.1 hks;have hm:=sPc (sS HM.out.1 HR.out.1 k (2*l-1)) hi 21;have bw:=(HM.out.2.setCell (p:=⟨sb,k,none⟩) hBs (.int .i64 (2*l-1))).setCell (p:=⟨tb i,2,none⟩) hBt (.int .i64 21);have HE:=qd (HF.out.trans (if_pos p));have HM4:=qd (And.intro hm bw);clear hm bw p;go_wp2
  go_end0
  exact⟨rfl,⟨V,HE.out▸HM4.out.1⟩,HM4.out.2⟩
 ·have t2:w4.cell? ⟨tb i,2,none⟩=some (.int .i64 21):=by rw[aS HM.out.1 hi 2 (by omega)];simp[tdF,p]
  have m2:w4.cell? ⟨mb,2,none⟩=some (.slice (some ⟨vb,0,none⟩) st.size vc):=by rw[bD HM.out.1 2 (by omega)];exact congrArg some HR.out.2
  have p0:=HB6.out.cell 0;have p1:=HB6.out.cell 1;have p2:=HB6.out.cell 2;simp only[zD] at p0 p1 p2;have HE:=qd (HF.out.trans ((if_neg (by omega)).trans (if_pos p)));go_wp2;rename_i K0 hK0;refine aR 8 (by kernel_rfl) (by kernel_rfl) (by kernel_rfl) (by kernel_rfl) ?_;simp only[idle,zB,Nat.reduceAdd]
  repeat (go_big_quiet_step (fail))
  refine wpQuiet_nil ?_;rintro _ ⟨nq,rfl⟩;refine aX (m:=8) rfl ?_;have hmd:=qd (And.intro (HM.out.1.drewN nq) (HM.out.2.trans (Below.drewN (Below.refl B _) nq)));have hb6:=qd (HB6.out.drewN nq);clear HM HB6;have HM:=hmd;have HB6:=hb6;clear hmd hb6;generalize World.drewN _ nq=w5 at *;clear p0 p1 p2 m2 t2;have p0:=HB6.out.cell 0;have p1:=HB6.out.cell 1;have p2:=HB6.out.cell 2;simp only[zD] at p0 p1 p2;obtain⟨cV,zV⟩:=vcell HM.out.1 HR.out.2 hks
  by_cases k4:kd=4
  ·have n4:(kd==4)=true:=by simpa using k4
   have HE2:Hid (sf={ st.stand i 22 with V:=upd st.V k (wrap64 (wrap64 (oa+st.N i 1)-st.N i 6)) }):=qd (by have e:=HE.out;rw[if_pos k4] at e;exact e);clear k4;go_wp2;clear p0 p1 p2 cV zV;have hm0:Mems B _ (World.setCell _ ⟨vb,k,none⟩ (.int .i64 ob)):=sVa HM.out.1 HR.out.2 k ob;have hb6:Blk (World.setCell _ ⟨vb,k,none⟩ (.int .i64 ob)) b6 _ _:=HB6.out.far (p:=⟨vb,k,none⟩) (h6v) (.int .i64 ob);have bw:=HM.out.2.setCell (p:=⟨vb,k,none⟩) (hBv) (.int .i64 ob);clear HM HB6;generalize World.setCell _ _ _=w6 at *;have HM:=qd (And.intro hm0 bw);have HB6:=qd hb6;clear hm0 hb6 bw;have p0:=HB6.out.cell 0;have p1:=HB6.out.cell 1;have p2:=HB6.out.cell 2;simp only[zD] at p0 p1 p2;have t4:=aS HM.out.1 hi 4 (by omega)
   simp[tdF,RS.setN,RS.stand,upd] at t4
   have t9:=aS HM.out.1 hi 9 (by omega)
   simp[tdF,RS.setN,RS.stand,upd] at t9
   have m2:w6.cell? ⟨mb,2,none⟩=some (.slice (some ⟨vb,0,none⟩) st.size vc):=by rw[bD HM.out.1 2 (by omega)];exact congrArg some HR.out.2
   rename_i K0 hK0;refine aR 20 (by kernel_rfl) (by kernel_rfl) (by kernel_rfl) (by kernel_rfl) ?_;simp only[idle,zB,Nat.reduceAdd]
   repeat (go_big_quiet_step (fail))
   refine wpQuiet_nil ?_;rintro _ ⟨nq,rfl⟩;refine aX (m:=20) rfl ?_;have hmd:=qd (And.intro (HM.out.1.drewN nq) (HM.out.2.trans (Below.drewN (Below.refl B _) nq)));have hb6:=qd (HB6.out.drewN nq);clear HM HB6;have HM:=hmd;have HB6:=hb6;clear hmd hb6;generalize World.drewN _ nq=w7 at *;clear p0 p1 p2 t4 t9 m2;obtain⟨cV,zV⟩:=vcell HM.out.1 (st:={ st with V:=upd st.V k ob }) HR.out.2 hks;have t2:=aS HM.out.1 (st:={ st with V:=upd st.V k ob }) hi 2 (by omega);have z2:=bC HM.out.1 (st:={ st with V:=upd st.V k ob }) hi 2;simp only[tdF] at t2;go_wp2
   go_end0
   have hm:=sPc (sVa HM.out.1 (st:={ st with V:=upd st.V k ob }) HR.out.2 k (wrap64 (wrap64 (oa+st.N i 1)-st.N i 6))) hi 22;rw[RS.setV_twice] at hm;exact⟨rfl,⟨V,HE2.out▸hm⟩,(HM.out.2.setCell (p:=⟨vb,k,none⟩) hBv _).setCell (p:=⟨tb i,2,none⟩) hBt _⟩
  ·have n4:(kd==4)=false:=by simpa using k4
   have HE2:Hid (sf={ st.stand i 22 with V:=upd st.V k ob }):=qd (by have e:=HE.out;rw[if_neg k4] at e;exact e);clear k4;have t2:=aS HM.out.1 hi 2 (by omega);have z2:=bC HM.out.1 hi 2;simp only[tdF] at t2;have hm:=sPc (sVa HM.out.1 HR.out.2 k ob) hi 22;have bw:=(HM.out.2.setCell (p:=⟨vb,k,none⟩) hBv (.int .i64 ob)).setCell (p:=⟨tb i,2,none⟩) hBt (.int .i64 22);have HM4:=qd (And.intro hm bw);clear hm bw p;go_wp2
   go_end0
   exact⟨rfl,⟨V,HE2.out▸HM4.out.1⟩,HM4.out.2⟩
 ·have t2:w4.cell? ⟨tb i,2,none⟩=some (.int .i64 22):=by rw[aS HM.out.1 hi 2 (by omega)];simp[tdF,p]
  have m1:w4.cell? ⟨mb,1,none⟩=some (.slice (some ⟨sb,0,none⟩) st.size sc):=by rw[bD HM.out.1 1 (by omega)];exact congrArg some HR.out.1
  obtain⟨cS,zS⟩:=scell HM.out.1 HR.out.1 hks;have p0:=HB6.out.cell 0;have p1:=HB6.out.cell 1;have p2:=HB6.out.cell 2;simp only[zD] at p0 p1 p2;have HE:=qd (HF.out.trans ((if_neg (by omega)).trans ((if_neg (by omega)).trans (if_pos p))))
  by_cases k2:kd=2
  ·have n2:(kd==2)=true:=by simpa using k2
   have HE2:Hid (sf=({ st with S:=upd st.S k (2*l) }:RS).end_ i ⟨true,0,[]⟩):=qd (by have e:=HE.out;rw[if_pos k2] at e;exact e);clear k2 p
   go_wp2_with fail
   clear t2 m1 cS zS p0 p1 p2;have hm0:Mems B _ (World.setCell _ ⟨sb,k,none⟩ (.int .i64 (2*l))):=sS HM.out.1 HR.out.1 k (2*l);have hb6:Blk (World.setCell _ ⟨sb,k,none⟩ (.int .i64 (2*l))) b6 _ _:=HB6.out.far (p:=⟨sb,k,none⟩) (h6s) (.int .i64 (2*l));have bw:=HM.out.2.setCell (p:=⟨sb,k,none⟩) (hBs) (.int .i64 (2*l));clear HM HB6;generalize World.setCell _ _ _=w5 at *;have HM:=qd (And.intro hm0 bw);have HB6:=qd hb6;clear hm0 hb6 bw;refine(bN (st:={ st with S:=upd st.S k (2*l) }) HM.out.1 (Nat.le_trans hB HM.out.2.size) hi hat hans ⟨true,0,[]⟩ nilS ⟨none,0,rfl⟩ (.inl ⟨rfl,rfl⟩)).mono ?_;rintro x w9 ⟨rfl,h2,b2⟩;have H2:=qd (And.intro h2 (HM.out.2.trans b2));clear h2 b2;go_wp2
   try simp only[Exit.inBlock,Exit.then]
   refine bodyPost_ret (results_none rfl _ _ _) rfl ?_;exact⟨rfl,HE2.out▸H2.out⟩
  ·have n2:(kd==2)=false:=by simpa using k2
   obtain ⟨g1,g2,g3,g4,g5,g6⟩:1<=st.N i 0/\st.N i 0<=st.size/\0<=st.N i 6/\st.N i 6<=st.N i 1/\st.N i 1<st.N i 6+st.N i 0/\st.N i 6+st.N i 0=st.next:=by
    cases HA.out with
    | look hp=>omega
    | get hp=>omega
    | pub hp=>omega
    | put _ _ hk _ _ h3=>exact h3 (hk.resolve_left k2)
   have z2:=bC HM.out.1 hi 2;have HE2:Hid (sf=if st.N i 1=st.N i 6+st.N i 0-1 then((({ st with S:=upd st.S k (2*l) }:RS).stand i 20).stand i 30) else((({ st with S:=upd st.S k (2*l) }:RS).stand i 20).setN i 1 (st.N i 1+1))):=qd (by have e:=HE.out;rw[if_neg k2] at e;exact e);have G6:=qd g6;clear k2 p HE g6;go_wp2;clear t2 m1 cS zS p0 p1 p2 z2;have hm0:=sPc (sS HM.out.1 HR.out.1 k (2*l)) hi 20;have bw:=(HM.out.2.setCell (p:=⟨sb,k,none⟩) hBs (.int .i64 (2*l))).setCell (p:=⟨tb i,2,none⟩) hBt (.int .i64 20);have HM5:=qd (And.intro hm0 bw);clear HM hm0 bw;have HM:Hid (Mems B (aY mb tb (({ st with S:=upd st.S k (2*l) }:RS).stand i 20) V) ((w4.setCell ⟨sb,k,none⟩ (.int .i64 (2*l))).setCell ⟨tb i,2,none⟩ (.int .i64 20))/\Below B w ((w4.setCell ⟨sb,k,none⟩ (.int .i64 (2*l))).setCell ⟨tb i,2,none⟩ (.int .i64 20))):=HM5;clear HM5 HB6;generalize (w4.setCell ⟨sb,k,none⟩ (.int .i64 (2*l))).setCell ⟨tb i,2,none⟩ (.int .i64 20)=w5 at *;have t4:=aS HM.out.1 hi 4 (by omega);have t9:=aS HM.out.1 hi 9 (by omega);have t3:=aS HM.out.1 hi 3 (by omega);simp only[tdF,RS.stand] at t4 t9 t3;rename_i K0 hK0
   by_cases ce:st.N i 1=st.N i 6+st.N i 0-1
   ·have de:(st.N i 1==st.N i 6+st.N i 0-1)=true:=by simpa using ce
    have HE3:=qd (HE2.out.trans (if_pos ce));clear ce
    go_quiet (fail)
    replace HM:=qd (And.intro (HM.out.1.drewN nq) (HM.out.2.trans (Below.drewN (Below.refl B _) nq)));generalize World.drewN _ nq=w6 at *;refine hK0 _ _ ?_;clear hK0 K0 t4 t9 t3;have t2:=aS HM.out.1 hi 2 (by omega);have z2:=bC HM.out.1 hi 2;simp only[tdF,RS.stand] at t2;go_wp2
    go_end0
    refine⟨rfl,?_,HM.out.2.setCell (p:=⟨tb i,2,none⟩) hBt _⟩;rw[HE3.out];exact⟨V,sPc HM.out.1 hi 30⟩
   ·have de:(st.N i 1==st.N i 6+st.N i 0-1)=false:=by simpa using ce
    have HE3:=qd (HE2.out.trans (if_neg ce));clear ce
    go_quiet (fail)
    replace HM:=qd (And.intro (HM.out.1.drewN nq) (HM.out.2.trans (Below.drewN (Below.refl B _) nq)));generalize World.drewN _ nq=w6 at *;refine hK0 _ _ ?_;clear hK0 K0 t4 t9 t3 de;have t4:=aS HM.out.1 hi 4 (by omega);simp only[tdF,RS.stand] at t4;go_wp2;rename_i K0 hK0;refine aR 10 (by kernel_rfl) (by kernel_rfl) (by kernel_rfl) (by kernel_rfl) ?_;simp only[idle,zB,Nat.reduceAdd]
    repeat (go_big_quiet_step (fail))
    refine wpQuiet_nil ?_;rintro _ ⟨nq,rfl⟩;refine aX (m:=10) rfl ?_;replace HM:=qd (And.intro (HM.out.1.drewN nq) (HM.out.2.trans (Below.drewN (Below.refl B _) nq)));generalize World.drewN _ nq=w7 at *;clear t4;have t4:=aS HM.out.1 hi 4 (by omega);have z4:=bC HM.out.1 hi 4;simp only[tdF,RS.stand] at t4;go_wp2
    go_end0
    refine⟨rfl,?_,HM.out.2.setCell (p:=⟨tb i,4,none⟩) hBt _⟩;rw[HE3.out];exact⟨V,sN HM.out.1 hi 1 (by omega) (st.N i 1+1)⟩
 ·have t2:w4.cell? ⟨tb i,2,none⟩=some (.int .i64 30):=by rw[aS HM.out.1 hi 2 (by omega)];simp[tdF,p]
  have t4:=aS HM.out.1 hi 4 (by omega);have t9:=aS HM.out.1 hi 9 (by omega);simp only[tdF] at t4 t9;have m3:=bD HM.out.1 3 (by omega)
  simp[bxF,RS.setN,RS.stand] at m3
  have m7:=bD HM.out.1 7 (by omega)
  simp[bxF,RS.setN,RS.stand] at m7
  have y3:=iF HM.out.1 3;have y7:=iF HM.out.1 7;have p0:=HB6.out.cell 0;have p1:=HB6.out.cell 1;have p2:=HB6.out.cell 2;simp only[zD] at p0 p1 p2;have HE:=qd (HF.out.trans ((if_neg (by omega)).trans ((if_neg (by omega)).trans ((if_neg (by omega)).trans (if_pos p)))));have hmA:=(sDone (sCur HM.out.1 (st.N i 1)) (st.N i 1)).alloc (.cells #[.bool true,.int .i64 0,.slice none 0 0] 48);have hB4:B<=w4.heap.size:=Nat.le_trans hB HM.out.2.size;have bwA:=((HM.out.2.setCell (p:=⟨mb,3,none⟩) hBm (.int .i64 (st.N i 1))).setCell (p:=⟨mb,7,none⟩) hBm (.int .i64 (st.N i 1))).alloc (by simpa using hB4) (.cells #[.bool true,.int .i64 0,.slice none 0 0] 48);have hb7:=Blk.new ((w4.setCell ⟨mb,3,none⟩ (.int .i64 (st.N i 1))).setCell ⟨mb,7,none⟩ (.int .i64 (st.N i 1))) 48 #[.bool true,.int .i64 0,.slice none 0 0];have hb6:=((HB6.out.far (p:=⟨mb,3,none⟩) h6m (.int .i64 (st.N i 1))).far (p:=⟨mb,7,none⟩) h6m (.int .i64 (st.N i 1))).alloc (.cells #[.bool true,.int .i64 0,.slice none 0 0] 48);simp only[World.size_setCell] at hb7;have r0:=hb6.cell 0;have r9:=aS hmA hi 9 (by omega);have u0:=hb7.cell 0;have u1:=hb7.cell 1;have u2:=hb7.cell 2;have z1:=hb7.frozen 1;simp only[tdF] at r9;simp only[zD] at r0 u0 u1 u2;have hl8:=(hmA.lt (r:=.th i) (gth (n:=st.n) (mb:=mb) (tb:=tb) (G:=bxF { st with cur:=st.N i 1,done:=st.N i 1 } V) (F:=tdF { st with cur:=st.N i 1,done:=st.N i 1 } V) (R:=bQ tb { st with cur:=st.N i 1,done:=st.N i 1 } V) hi) (b:=tb i) rfl).2;have HMA:=qd (And.intro hmA bwA);have HB7:=qd hb7;clear hmA bwA hb7 hb6
  by_cases k4:kd=4
  ·have n4:(kd==4)=true:=by simpa using k4
   have HE2:Hid (sf=({ st with cur:=st.N i 1,done:=st.N i 1 }:RS).end_ i ⟨true,st.N i 6,[]⟩):=qd (by have e:=HE.out;rw[if_pos k4] at e;exact e);clear k4 p
   go_wp2_with fail
   have hmA:=(sDone (sCur HM.out.1 (st.N i 1)) (st.N i 1)).alloc (.cells #[.bool true,.int .i64 (st.N i 6),.slice none 0 0] 48);have bwA:=((HM.out.2.setCell (p:=⟨mb,3,none⟩) hBm (.int .i64 (st.N i 1))).setCell (p:=⟨mb,7,none⟩) hBm (.int .i64 (st.N i 1))).alloc (by simpa using hB4) (.cells #[.bool true,.int .i64 (st.N i 6),.slice none 0 0] 48);refine(bN (st:={ st with cur:=st.N i 1,done:=st.N i 1 }) hmA (Nat.le_trans hB bwA.size) hi hat hans ⟨true,st.N i 6,[]⟩ nilS ⟨none,0,rfl⟩ (.inl ⟨rfl,rfl⟩)).mono ?_;rintro x w9 ⟨rfl,h2,b2⟩;have H2:=qd (And.intro h2 (bwA.trans b2));clear h2 b2 hmA bwA;go_wp2
   go_end0
   exact⟨rfl,HE2.out▸H2.out⟩
  ·have n4:(kd==4)=false:=by simpa using k4
   have HE2:Hid (sf=({ st with cur:=st.N i 1,done:=st.N i 1 }:RS).end_ i ⟨true,0,[]⟩):=qd (by have e:=HE.out;rw[if_neg k4] at e;exact e);clear k4 p
   go_wp2_with fail
   refine(bN (st:={ st with cur:=st.N i 1,done:=st.N i 1 }) HMA.out.1 (Nat.le_trans hB HMA.out.2.size) hi hat hans ⟨true,0,[]⟩ nilS ⟨none,0,rfl⟩ (.inl ⟨rfl,rfl⟩)).mono ?_;rintro x w9 ⟨rfl,h2,b2⟩;have H2:=qd (And.intro h2 (HMA.out.2.trans b2));clear h2 b2;go_wp2
   go_end0
   exact⟨rfl,HE2.out▸H2.out⟩
end
end Go.Proofs.Ytlcplealnbekeaa
namespace Go.Proofs.Ytlcplealnbekeaa
open Go.RowKit Go.Turn
open Go.ConcN (upd upd_ne upd_same)
def tzF (vo:Value):Nat->Value
 | 0=>vo
 | 11=>nilS
 | 12=>nilS
 | 13=>.bool false
 | _=>.int .i64 0
def cR (k h:Nat) (tb:Nat->Nat) (VT:Value) (VO:Nat->Value) (ops:Nat->List OpI):Rt->Option Row
 | .T=>some ⟨116,1,VT,k,λj=>.pointer (some ⟨tb j,0,none⟩)⟩
 | .th i=>if i<h then some ⟨115,14,.slice (some ⟨tb i,0,none⟩) 1 1,1,tzF (VO i)⟩ else none
 | .op i=>if i<h then some ⟨46,4,VO i,(ops i).length,cJ 4 (oqF (ops i))⟩ else none
 | _=>none
structure OpsH (w0:World) (n Tb To:Nat) (A:Nat->Option Addr) (len cap:Nat->Nat) (ops:Nat->List OpI):Prop where
 row:∀ i,i<n->w0.cell? ⟨Tb,To+i,none⟩=some (.slice (A i) (len i) (cap i))
 le:∀ i,i<n->len i<=cap i
 max:∀ i,i<n->cap i<=maxLen
 olen:∀ i,i<n->(ops i).length=min (len i) 65536
 op:∀ i,i<n->∀ j o,(ops i)[j]?=some o->∃ b f,A i=some ⟨b,f,none⟩/\w0.cell? ⟨b,f+j*4,none⟩=some (.int .i64 o.kind)/\w0.cell? ⟨b,f+j*4+1,none⟩=some (.int .i64 o.a)/\w0.cell? ⟨b,f+j*4+2,none⟩=some (.int .i64 o.b)/\w0.cell? ⟨b,f+j*4+3,none⟩=some (.int .i64 o.c)
def fF (ops:Nat->List OpI) (k j:Nat):Nat->List OpI:=λi=>if i=k then(ops k).take j else ops i
section
variable {B k h:Nat}{tb:Nat->Nat}{VT:Value}{VO:Nat->Value}{ops:Nat->List OpI}{w w1:World}
theorem thT (k h:Nat) (tb:Nat->Nat) (VT:Value) (VO:Nat->Value) (ops:Nat->List OpI):cR k h tb VT VO ops .T=some ⟨116,1,VT,k,λj=>.pointer (some ⟨tb j,0,none⟩)⟩:=rfl
theorem thTh {i:Nat}(hi:i<h):cR k h tb VT VO ops (.th i)=some ⟨115,14,.slice (some ⟨tb i,0,none⟩) 1 1,1,tzF (VO i)⟩:=if_pos hi
theorem thOp {i:Nat}(hi:i<h):cR k h tb VT VO ops (.op i)=some ⟨46,4,VO i,(ops i).length,cJ 4 (oqF (ops i))⟩:=if_pos hi
theorem th_new (hm:Mems B (cR k k tb VT VO ops) w) (hB:B<=w.heap.size):Mems B (cR k (k+1) (λi=>if i=k then w.heap.size else tb i) VT (λi=>if i=k then nilS else VO i) (fF ops k 0)) (w.alloc (.cells #[nilS,.int .i64 0,.int .i64 0,.int .i64 0,.int .i64 0,.int .i64 0,.int .i64 0,.int .i64 0,.int .i64 0,.int .i64 0,.int .i64 0,nilS,nilS,.bool false] 115)):=by
 have h1:Mems B (λr=>if r=.th k then some ⟨115,14,.slice (some ⟨w.heap.size,0,none⟩) 1 1,1,tzF nilS⟩ else cR k k tb VT VO ops r) (w.alloc (.cells #[nilS,.int .i64 0,.int .i64 0,.int .i64 0,.int .i64 0,.int .i64 0,.int .i64 0,.int .i64 0,.int .i64 0,.int .i64 0,.int .i64 0,nilS,nilS,.bool false] 115)):=by
  refine hm.new (r:=.th k) (if_pos rfl) (λr hr=>if_neg hr) (λb hb=>Below.heap_alloc _ _ _ hb) ?_ (λb hb=>by simp[Value.ownBlock] at hb;omega);refine⟨by simp[aK],.inr ⟨w.heap.size,1,_,rfl,hB,Blk.new w _ _,Nat.le_refl _,(by show 1<=maxLen;unfold maxLen;omega),rfl,rfl⟩⟩
 refine h1.eqv λr d hr=>?_;cases r with
 | T =>
   cases hr;refine .inl ⟨_,rfl,λj hj=>?_⟩;have:j≠k:=by simp at hj;omega
   simp[this]
 | th i =>
   by_cases hi:i<k+1
   ·rw [thTh hi] at hr
    cases hr
    by_cases e:i=k
    ·subst e;exact .inl ⟨tzF nilS,by simp,λ_ _=>by simp⟩
    ·exact .inl ⟨tzF (VO i),by simp[cR,show i<k by omega,e],λ_ _=>by simp[e]⟩
   ·exact absurd (hr.symm.trans (if_neg hi)) (by simp)
 | op i =>
   by_cases hi:i<k+1
   ·rw [thOp hi] at hr
    cases hr
    by_cases e:i=k
    ·subst e;exact .inr ⟨by simp[nilS],by simp[fF]⟩
    ·exact .inl ⟨cJ 4 (oqF (ops i)),by simp[cR,show i<k by omega,e,fF],λ_ _=>by simp[e,fF]⟩
   ·exact absurd (hr.symm.trans (if_neg hi)) (by simp)
 | _=>cases hr
theorem th_app {j:Nat}{o:OpI}{vg:Value}(hm:Mems B (cR k (k+1) tb VT VO (fF ops k j)) w) (hj:j<(ops k).length) (ho:(ops k)[j]?=some o) (hown:w1.ownsRow B 46 4 vg (j+1) (aK (j*4) (cJ 4 (oqF ((ops k).take j)))++[.int .i64 o.kind,.int .i64 o.a,.int .i64 o.b,.int .i64 o.c]))
  (hg:w.grownBy w1 (VO k).ownBlock) (hv:vg.ownBlock=(VO k).ownBlock\/vg.ownBlock=some w.heap.size) :
  Mems B (λr=>if r=.op k then some ⟨46,4,vg,j+1,cJ 4 (oqF ((ops k).take (j+1)))⟩ else cR k (k+1) tb VT VO (fF ops k j) r) w1:=by
 refine hm.app (r:=.op k) (thOp (by omega)) (if_pos rfl) (λr hr=>if_neg hr) hg ?_ hv
 show w1.ownsRow B _ 4 vg (j+1) (aK ((j+1)*4) _)
 have e:aK ((j+1)*4) (cJ 4 (oqF ((ops k).take (j+1))))=aK (j*4) (cJ 4 (oqF ((ops k).take j)))++[.int .i64 o.kind,.int .i64 o.a,.int .i64 o.b,.int .i64 o.c]:=by
  rw[jB [.int .i64 o.kind,.int .i64 o.a,.int .i64 o.b,.int .i64 o.c] undef,dO,show (j+1)*4=j*4+4 from by omega];refine bU λy hy=>?_
  have ht:∀ i,i<j->((ops k).take (j+1)).getD i ⟨0,0,0,0⟩=((ops k).take j).getD i ⟨0,0,0,0⟩:=λi hi=>by
   simp[List.getD_eq_getElem?_getD,List.getElem?_take,hi,show i<j+1 by omega]
  have hl:((ops k).take (j+1)).getD j ⟨0,0,0,0⟩=o:=by
   simp[List.getD_eq_getElem?_getD,List.getElem?_take,ho]
  by_cases hlt:y<j*4
  ·have : y / 4<j:=(Nat.div_lt_iff_lt_mul (by omega)).2 hlt
   simp only[hlt,if_true,cJ];have h1:=ht _ this;generalize y%4=m
   rcases m with _ | _ | _ | m <;> simp only[oqF,h1]
  ·obtain ⟨m,rfl⟩:∃ m,y=j*4+m:=⟨y-j*4,by omega⟩
   have hk:m<4:=by omega
   rw[jH hk,if_neg hlt,Nat.add_sub_cancel_left]
   rcases m with _ | _ | _ | _ | m
   ·simp only [oqF,hl];rfl
   ·simp only [oqF,hl];rfl
   ·simp only [oqF,hl];rfl
   ·simp only [oqF,hl];rfl
   ·omega
 rw[e];exact hown
theorem th_shut {j:Nat}{vg:Value}(hj:j<(ops k).length) (h:Mems B (λr=>if r=.op k then some ⟨46,4,vg,j+1,cJ 4 (oqF ((ops k).take (j+1)))⟩ else cR k (k+1) tb VT VO (fF ops k j) r) w) :
  Mems B (cR k (k+1) tb VT (λi=>if i=k then vg else VO i) (fF ops k (j+1))) (w.setCell ⟨tb k,0,none⟩ vg):=by
 have h1:Mems B (λr=>if r=.th k then some ⟨115,14,.slice (some ⟨tb k,0,none⟩) 1 1,1,tzF vg⟩ else if r=.op k then some ⟨46,4,vg,j+1,cJ 4 (oqF ((ops k).take (j+1)))⟩ else cR k (k+1) tb VT VO (fF ops k j) r) (w.setCell ⟨tb k,0,none⟩ vg):=by
  refine h.set (r:=.th k) (f':=tzF vg) (by simp[cR];rfl) 0 vg (if_pos rfl) (λy hy=>?_) λr hr=>if_neg hr
  rcases y with _ | y
  ·rfl
  ·rw [if_neg (by omega)]
   rcases y with _ | _ | _ | _ | _ | _ | _ | _ | _ | _ | _ | _ | _ | y <;> first | rfl | omega
 refine h1.eqv λr d hr=>?_;cases r with
 | T=>cases hr;exact .inl ⟨_,rfl,λ_ _=>rfl⟩
 | th i =>
   by_cases hi:i<k+1
   ·rw [thTh hi] at hr
    cases hr
    by_cases e:i=k
    ·subst e;exact .inl ⟨tzF vg,by simp,λ_ _=>by simp⟩
    ·exact .inl ⟨tzF (VO i),by simp[cR,hi,e],λ_ _=>by simp[e]⟩
   ·exact absurd (hr.symm.trans (if_neg hi)) (by simp)
 | op i =>
   by_cases hi:i<k+1
   ·rw [thOp hi] at hr
    cases hr
    by_cases e:i=k
    ·subst e
     refine .inl ⟨cJ 4 (oqF ((ops i).take (j+1))),?_,λ_ _=>by simp[fF]⟩;have:((ops i).take (j+1)).length=j+1:=by simp;omega
     simp only[fF,if_true];rw[this]
     simp
    ·exact .inl ⟨cJ 4 (oqF (ops i)),by simp[cR,hi,e,fF],λ_ _=>by simp[e,fF]⟩
   ·exact absurd (hr.symm.trans (if_neg hi)) (by simp)
 | _=>cases hr
theorem th_list {vg:Value}{m:Nat}(hml:(ops k).length<=m) (hm:Mems B (cR k (k+1) tb VT VO (fF ops k m)) w) (hown:w1.ownsRow B 116 1 vg (k+1) (aK k (λj=>.pointer (some ⟨tb j,0,none⟩))++[.pointer (some ⟨tb k,0,none⟩)]))
  (hg:w.grownBy w1 VT.ownBlock) (hv:vg.ownBlock=VT.ownBlock\/vg.ownBlock=some w.heap.size):Mems B (cR (k+1) (k+1) tb vg VO ops) w1:=by
 have e1:fF ops k m=ops:=by
  funext i
  unfold fF
  by_cases e:i=k
  ·subst e;rw[if_pos rfl,List.take_of_length_le hml]
  ·rw [if_neg e]
 rw[e1] at hm;refine hm.app (r:=.T) (thT _ _ _ _ _ _) (thT _ _ _ _ _ _) (λr hr=>?_) hg ?_ hv
 ·cases r with
  | T=>exact absurd rfl hr
  | _=>rfl
 ·show w1.ownsRow B _ 1 vg (k+1) (aK ((k+1)*1) _)
  rw[Nat.mul_one]
  have e:aK (k+1) (λj=>(.pointer (some ⟨tb j,0,none⟩):Value))=aK k (λj=>.pointer (some ⟨tb j,0,none⟩))++[.pointer (some ⟨tb k,0,none⟩)]:=by
   rw[show ([.pointer (some ⟨tb k,0,none⟩)]:List Value)=aK 1 (λ_=>.pointer (some ⟨tb k,0,none⟩)) from rfl,dO];refine bU λj hj=>?_
   by_cases hlt:j<k
   ·rw [if_pos hlt]
   ·rw [if_neg hlt,show j=k by omega]
  rw[e];exact hown
end
end Go.Proofs.Ytlcplealnbekeaa
