/- DERIVED. Two runs of one piece of the model side by side: in a world, and in one like it in which some cells are frozen and the tape is another. No program of this claim is in sight. -/
import GoSem.Claim
import Derived.Calls
import Derived.Lib.Hide
import Derived.Laws.Sem
namespace Go
theorem qd {p:Prop}(h:p):RowKit.Hid p:=Lib.hid h
theorem zA {α:Type _}:(∀ (l:List α) (i:Nat) (a:α),l.toArray.setIfInBounds i a=(l.set i a).toArray)/\(∀ (x a:α) (l:List α),(x::l).set 0 a=a::l)/\∀ (x a:α) (l:List α) (n:Nat),(x::l).set (n+1) a=x::l.set n a:=⟨λ_ _ _=>by simp,λ_ _ _=>rfl,λ_ _ _ _=>rfl⟩
theorem zB {α:Type _}:(∀ (l:List α) (i:Nat) (f:α->α),l.toArray.modify i f=(l.modify i f).toArray)/\(∀ (f:α->α) (a:α) (l:List α) (n:Nat),(a::l).modify (n+1) f=a::l.modify n f)/\(∀ (f:α->α) (a:α) (l:List α),(a::l).modify 0 f=f a::l)/\(∀ l:List α,l.toArray.size=l.length)/\(∀ (a:α) (l:List α),(a::l).length=l.length+1)/\([]:List α).length=0:=⟨λ_ _ _=>by simp,λ_ _ _ _=>rfl,λ_ _ _=>rfl,λ_=>rfl,λ_ _=>rfl,rfl⟩
theorem zC {α:Type _}:(∀ l:List α,l.drop 0=l)/\(∀ (a:α) (l:List α) (i:Nat),(a::l).drop (i+1)=l.drop i)/\(∀ (a:α) (l:List α) (i:Nat),(a::l).take (i+1)=a::l.take i)/\∀ l:List α,l.take 0=[]:=⟨λ_=>rfl,λ_ _ _=>rfl,λ_ _ _=>rfl,λ_=>by simp⟩
theorem zD {α:Type _}:(∀ (l:List α) (i:Nat),l.toArray[i]?=l[i]?)/\(∀ (a:α) (l:List α),(a::l)[0]?=some a)/\∀ (a:α) (l:List α) (i:Nat),(a::l)[i+1]?=l[i]?:=⟨λ_ _=>by simp,λ_ _=>rfl,λ_ _ _=>by simp⟩
end Go
namespace Go.Tame
def Cut:Halt->Prop
 | .unsupported _ | .stuck _=>True
 | _=>False
def Hid:Obj->Prop
 | .loop _ | .chan .. | .map ..=>True
 | _=>False
def Vis:Obj->Prop
 | .loop _ | .map ..=>False
 | .chan cap buf closed _ _ tm=>cap=0/\buf=#[]/\closed=false/\tm=false
 | _=>True
theorem Hid.ncell {o:Obj}(h:Hid o):∀ c t f,o≠.cells c t f:=λ_ _ _ e=>by subst e;exact h
inductive R (P:Program) {α:Type}:Sem α->Sem α->Prop
 | pure (a:α):R P (.pure a) (.pure a)
 | load {m a k k'} (h:∀ v,R P (k v) (k' v)):R P (.load m a k) (.load m a k')
 | store {m a v k k'} (h:R P k k'):R P (.store m a v k) (.store m a v k')
 | new {o k k'} (ho:Vis o) (h:∀ r,R P (k r) (k' r)):R P (.new o k) (.new o k')
 | shape {r k k'} (h:∀ s,R P (k s) (k' s)):R P (.shape r k) (.shape r k')
 | frozen {a k k'} (h:∀ b,R P (k b) (k' b)) (h':R P (k true) (k' false)):R P (.frozen a k) (.frozen a k')
 | getObj {r k k'} (h:∀ o,Vis o->R P (k o) (k' o)) (h':∀ o,Hid o->R P (k (.deferred none)) (k' o)):R P (.getObj r k) (.getObj r k')
 | choose {q k k'} (h:∀ n,R P (k n) (k' n)):R P (.choose q k) (.choose q k')
 | program {k k'} (h:R P (k P) (k' P)):R P (.program k) (.program k')
 | mark {y k k'} (hy:y=.noRoom\/∃ f,y=.extern f) (h:R P k k'):R P (.mark y k) (.mark y k')
 | panic (v):R P (.halt (.panic v)) (.halt (.panic v))
 | cut {h m} (hc:Cut h):R P (.halt h) m
 | skip {y k m} (h:R P k m):R P (.mark y k) m
 | shapeR {r m k'} (h:∀ s,R P m (k' s)):R P m (.shape r k')
 | frozenR {a m k'} (h:∀ b,R P m (k' b)):R P m (.frozen a k')
 | shapeL {r k m} (h:∀ s,R P (k s) m):R P (.shape r k) m
 | frozenL {a k m} (h:∀ b,R P (k b) m):R P (.frozen a k) m
 | env {k k'} (h:∀ r,R P (k r) (k' r)):R P (.sys .env k) (.sys .env k')
 | extra {q k m} (t:Nat) (hq:q.forced=false) (h:R P (k (q.cut t)) m):R P (.choose q k) m
theorem R.bind {P:Program}{α β:Type}{m m':Sem α}{f f':α->Sem β}(h:R P m m') (hf:∀ a,R P (f a) (f' a)):R P (m.bind f) (m'.bind f'):=by
 induction h with
 | pure a=>exact hf a
 | load _ ih=>exact .load ih
 | store _ ih=>exact .store ih
 | new ho _ ih=>exact .new ho ih
 | shape _ ih=>exact .shape ih
 | frozen _ _ ih ih'=>exact .frozen ih ih'
 | getObj _ _ ih ih'=>exact .getObj ih ih'
 | choose _ ih=>exact .choose ih
 | program _ ih=>exact .program ih
 | mark hy _ ih=>exact .mark hy ih
 | panic v=>exact .panic v
 | cut hc=>exact .cut hc
 | skip _ ih=>exact .skip ih
 | shapeR _ ih=>exact .shapeR ih
 | frozenR _ ih=>exact .frozenR ih
 | shapeL _ ih=>exact .shapeL ih
 | frozenL _ ih=>exact .frozenL ih
 | env _ ih=>exact .env ih
 | extra t hq _ ih=>exact .extra t hq ih
def T (P:Program) {α:Type}(m:Sem α):Prop:=R P m m
structure Fast where
 rng:Nat->Option (Nat × Nat)
 hid:Nat->Prop
def Sub (s r:Nat × Nat):Prop:=∀ i,s.1<=i/\i<s.2->r.1<=i/\i<r.2
def LikeObj (q:Prop):Option (Nat × Nat)->Option Obj->Option Obj->Prop
 | none,x,o=>(x=o/\(∀ h,x=some h->Vis h)/\¬q)\/(q/\∃ h,Hid h/\o=some h/\x=some (.deferred none))
 | some r,x,o=>∃ c t s,x=some (.cells c t r)/\o=some (.cells c t s)/\Sub s r
structure Like (F:Fast) (x w:World):Prop where
 size:x.heap.size=w.heap.size
 os:x.os=w.os
 output:x.output=w.output
 blk:∀ b:Nat,LikeObj (F.hid b) (F.rng b) x.heap[b]? w.heap[b]?
def _root_.Go.World.re (w:World) (τ:Nat->Question->Nat) (d:Nat):World:={ w with tape:=τ,drawn:=d }
def Fast.has (F:Fast) (a:Addr):Prop:=∃ r,F.rng a.block=some r/\r.1<=a.off/\a.off<r.2
def EvOk (F:Fast) (n:Nat) (e:Event):Prop:=
 (∃ a,e.loc=.cell a/\a.block<n/\(e.write=true->¬F.has a))\/(∃ r,e.loc=.obj r/\r<n/\e.write=false)\/e.loc=.mark .noRoom\/(∃ f,e.loc=.mark (.extern f))\/e.loc=.output
structure Kep (F:Fast) (w w':World):Prop where
 tape:w'.tape=w.tape
 size:w.heap.size<=w'.heap.size
 cell:∀ a,F.has a->w'.cell? a=w.cell? a
 obj:∀ (b:Nat) o,w.heap[b]?=some o->(∀ c t f,o≠.cells c t f)->w'.heap[b]?=some o
 row:∀ (b:Nat) c t f,w.heap[b]?=some (.cells c t f)->∃ c',w'.heap[b]?=some (.cells c' t f)/\c'.size=c.size
 io:w'.os=w.os/\w'.output=w.output
section
variable {F:Fast}{x w:World}
theorem Like.cell (h:Like F x w) (a:Addr):x.cell? a=w.cell? a:=by
 have hb:=h.blk a.block;unfold World.cell?;cases e:F.rng a.block with
 | none =>
   rw[e] at hb
   rcases hb with⟨hb,_,_⟩ | ⟨hq,h,hh,h1,h2⟩
   ·rw [hb]
   ·rw [h1,h2];cases h <;> first | rfl | exact hh.elim
 | some r=>rw[e] at hb;obtain⟨c,t,s,h1,h2,_⟩:=hb;rw[h1,h2]
theorem Like.shape (h:Like F x w) (r:Nat):x.shape? r=w.shape? r:=by
 have hb:=h.blk r;unfold World.shape?;cases e:F.rng r with
 | none =>
   rw[e] at hb
   rcases hb with⟨hb,_,_⟩ | ⟨hq,h,hh,h1,h2⟩
   ·rw [hb]
   ·rw [h1,h2];cases h <;> first | rfl | exact hh.elim
 | some r=>rw[e] at hb;obtain⟨c,t,s,h1,h2,_⟩:=hb;rw[h1,h2]
theorem Like.frozen (h:Like F x w) (a:Addr):x.frozen? a=w.frozen? a\/(x.frozen? a=true/\w.frozen? a=false/\F.has a):=by
 have hb:=h.blk a.block;unfold World.frozen?;cases e:F.rng a.block with
 | none =>
   rw[e] at hb
   left
   rcases hb with⟨hb,_,_⟩ | ⟨hq,h,hh,h1,h2⟩
   ·rw [hb]
   ·rw [h1,h2];cases h <;> first | rfl | exact hh.elim
 | some r =>
   rw[e] at hb;obtain⟨c,t,s,h1,h2,h3⟩:=hb;rw[h1,h2];have h3:=h3 a.off
   by_cases hr:r.1<=a.off/\a.off<r.2
   ·by_cases hs:s.1<=a.off/\a.off<s.2
    ·exact .inl (by simp[hr,hs])
    ·exact .inr ⟨by simp[hr],by simp;omega,r,e,hr⟩
   ·have hs:¬(s.1<=a.off/\a.off<s.2):=λz=>hr (h3 z)
    left
    have e1:(decide (r.1<=a.off) && decide (a.off<r.2))=false:=by simpa using hr
    have e2:(decide (s.1<=a.off) && decide (a.off<s.2))=false:=by simpa using hs
    simp only[e1,e2]
theorem Like.has (h:Like F x w) {a:Addr}(ha:F.has a):x.frozen? a=true:=by
 obtain⟨r,e,h1,h2⟩:=ha;have hb:=h.blk a.block;rw[e] at hb;obtain⟨c,t,s,h3,_,_⟩:=hb;unfold World.frozen?;rw[h3];simp[h1,h2]
theorem kZ (o:Obj):(∃ c t f,o=.cells c t f)\/∀ c t f,o≠.cells c t f:=by
 cases o <;> first | exact .inl ⟨_,_,_,rfl⟩ | exact .inr (λ_ _ _=>by simp)
theorem Like.other' (h:Like F x w) {b:Nat}{o:Obj}(ho:x.heap[b]?=some o) (hn:∀ c t f,o≠.cells c t f):w.heap[b]?=some o\/(o=.deferred none/\∃ h,Hid h/\w.heap[b]?=some h):=by
 have hb:=h.blk b;cases e:F.rng b with
 | none =>
   rw[e] at hb
   rcases hb with⟨hb,_,_⟩ | ⟨hq,h,hh,h1,h2⟩
   ·exact .inl (by rw[<-hb];exact ho)
   ·rw [h2] at ho;exact .inr ⟨(Option.some.inj ho).symm,h,hh,h1⟩
 | some r=>rw[e] at hb;obtain⟨c,t,s,h1,h2,_⟩:=hb;rw[h1] at ho;exact absurd (Option.some.inj ho).symm (hn _ _ _)
theorem Like.other (h:Like F x w) {b:Nat}{o:Obj}(ho:x.heap[b]?=some o) (hn:∀ c t f,o≠.cells c t f) (hd:o≠.deferred none):w.heap[b]?=some o:=
 (h.other' ho hn).resolve_right λz=>hd z.1
theorem Like.re (h:Like F x w) (τ:Nat->Question->Nat) (d:Nat):Like F (x.re τ d) w:=⟨h.size,h.os,h.output,h.blk⟩
end
theorem Kep.refl (F:Fast) (w:World):Kep F w w:=⟨rfl,Nat.le_refl _,λ_ _=>rfl,λ_ _ h _=>h,λ_ c _ _ h=>⟨c,h,rfl⟩,⟨rfl,rfl⟩⟩
theorem Kep.trans {F:Fast}{a b c:World}(h:Kep F a b) (k:Kep F b c):Kep F a c:=
 ⟨k.tape.trans h.tape,Nat.le_trans h.size k.size,λp hp=>(k.cell p hp).trans (h.cell p hp),λi o ho hn=>k.obj i o (h.obj i o ho hn) hn,λi c t f ho=>by
   obtain⟨c1,h1,e1⟩:=h.row i c t f ho;obtain⟨c2,h2,e2⟩:=k.row i c1 t f h1;exact⟨c2,h2,e2.trans e1⟩,⟨k.io.1.trans h.io.1,k.io.2.trans h.io.2⟩⟩
section
variable {F:Fast}{x w:World}{P:Program}
theorem Like.seen (h:Like F x w) (at_:Addr) (u:TypeId) (k:Addr) (m:Bool) {y:Array Value × TypeId × (Nat × Nat) × Nat × Value × List (Nat × Nat × List UInt8)}(hy:x.seen P at_ u k m=.ok y) :
  ∃ c e f f' first like cells,y=(c,e,f,first,like,cells)/\x.heap[at_.block]?=some (.cells c e f)/\w.heap[at_.block]?=some (.cells c e f')/\w.seen P at_ u k m=.ok (c,e,f',first,like,cells)/\at_.block<w.heap.size:=by
 have hb:=h.blk at_.block
 have two:∀ c e f,x.heap[at_.block]?=some (.cells c e f)->∃ f',w.heap[at_.block]?=some (.cells c e f'):=by
  intro c e f hx;cases e':F.rng at_.block with
  | none =>
    rw[e'] at hb
    rcases hb with⟨hb,_,_⟩ | ⟨hq,h,hh,h1,h2⟩
    ·exact ⟨f,by rw[<-hx];exact hb.symm⟩
    ·rw [h2] at hx;cases hx
  | some r=>rw[e'] at hb;obtain⟨c',t',s,h1,h2,_⟩:=hb;rw[h1] at hx;cases hx;exact⟨_,h2⟩
 unfold World.seen at hy ⊢
 by_cases g1:(k.spot.isSome || at_.spot.isSome)=true
 ·simp [g1,bind,Except.bind] at hy
 have thr:∀ {α:Type}(s:String),(MonadExcept.throw s:Except String α)=.error s:=λ_=>rfl;simp only[g1,Bool.false_eq_true,if_false,bind,Except.bind,pure,Except.pure,thr] at hy ⊢
 split at hy
 case h_2=>cases hy
 split at hy
 case h_2=>cases hy
 split at hy
 case h_2=>cases hy
 split at hy
 case h_2=>cases hy
 rename_i c e f hx;obtain⟨f',hw⟩:=two c e f hx;rw[hw];have hlt:at_.block<w.heap.size:=(Array.getElem?_eq_some_iff.1 hw).1;refine⟨c,e,f,f',?_⟩;simp only
 repeat' split at hy
 all_goals first |(cases hy;done) | skip
 all_goals cases hy
 all_goals exact⟨_,_,_,rfl,hx,trivial,by simp_all,hlt⟩
theorem Like.viewLoad (h:Like F x w) (at_:Addr) (u:TypeId) (k:Addr) (m:Bool) {v:Value}{ps:List Addr}(hy:x.viewLoad P at_ u k m=.ok (v,ps)) :
  w.viewLoad P at_ u k m=.ok (v,ps)/\∀ a∈ps,a.block<w.heap.size:=by
 unfold World.viewLoad at hy ⊢;simp only[bind,Except.bind] at hy ⊢;cases hs:x.seen P at_ u k m with
 | error e=>rw[hs] at hy;cases hy
 | ok y =>
   obtain⟨c,e,f,f',first,like,cells,rfl,_,_,hw,hlt⟩:=h.seen at_ u k m hs;rw[hs] at hy;rw[hw];simp only at hy ⊢;refine⟨hy,?_⟩
   split at hy
   ·simp only [pure,Except.pure,Except.ok.injEq,Prod.mk.injEq] at hy
    rintro a ha;rw[<-hy.2] at ha;obtain⟨_,_,rfl⟩:=List.mem_map.1 ha;exact hlt
   ·cases hy
theorem Like.farLoad (h:Like F x w) (a:Addr) (m:Bool) {v:Value}{ps:List Addr}(hy:x.farLoad P a m=.ok (v,ps)):w.farLoad P a m=.ok (v,ps)/\∀ a∈ps,a.block<w.heap.size:=by
 unfold World.farLoad at hy ⊢
 split at hy
 ·rename_i at_ u hx
  rw[h.other hx (by simp) (by simp)];simp only
  split at hy
  ·rename_i r hr
   obtain rfl:=Except.ok.inj hy;obtain⟨h1,h2⟩:=h.viewLoad at_ u a m hr;rw[h1];exact⟨rfl,h2⟩
  ·cases hy
 ·cases hy
theorem fold_ok {f f':Nat × Nat}(g:(Nat × Nat)->Array Value->(Nat × Nat × List UInt8)->Except String (Array Value))
  (hg:∀ c y c',g f c y=.ok c'->g f' c y=.ok c'/\¬(f.1<=y.1/\y.1<f.2)/\∃ v,c'=c.setIfInBounds y.1 v) :
  ∀ (l:List (Nat × Nat × List UInt8)) (c c':Array Value),l.foldlM (g f) c=.ok c'->l.foldlM (g f') c=.ok c'/\(∀ y∈l,¬(f.1<=y.1/\y.1<f.2))/\∀ i,(∀ y∈l,y.1≠i)->c'[i]?=c[i]?:=by
 intro l
 induction l with
 | nil =>
   intro c c' h;exact⟨h,λ_ hy=>absurd hy (by simp),λi _=>by cases h;rfl⟩
 | cons y l ih =>
   intro c c' h;simp only[List.foldlM_cons,bind,Except.bind] at h ⊢;cases e:g f c y with
   | error _=>rw[e] at h;cases h
   | ok c1 =>
     rw[e] at h;obtain⟨e',hn,v,rfl⟩:=hg c y c1 e;obtain⟨h1,h2,h3⟩:=ih _ _ h;rw[e'];refine⟨h1,λz hz=>?_,λi hi=>?_⟩
     ·rcases List.mem_cons.1 hz with rfl | hz
      ·exact hn
      ·exact h2 z hz
     ·rw [h3 i (λz hz=>hi z (List.mem_cons_of_mem _ hz))]
      exact Array.getElem?_setIfInBounds_ne (hi y (List.mem_cons_self ..))
theorem fold_size (g:Array Value->(Nat × Nat × List UInt8)->Except String (Array Value)) (hg:∀ c y c',g c y=.ok c'->c'.size=c.size) :
  ∀ (l:List (Nat × Nat × List UInt8)) (c c':Array Value),l.foldlM g c=.ok c'->c'.size=c.size:=by
 intro l
 induction l with
 | nil=>intro c c' h;cases h;rfl
 | cons y l ih =>
   intro c c' h;simp only[List.foldlM_cons,bind,Except.bind] at h;cases e:g c y with
   | error _=>rw[e] at h;cases h
   | ok c1=>rw[e] at h;exact(ih _ _ h).trans (hg _ _ _ e)
def dF (first:Nat) (bytes:List UInt8) (f:Nat × Nat) (c:Array Value) (x:Nat × Nat × List UInt8):Except String (Array Value):=
 if (decide (x.2.fst<first) || decide (x.2.fst+x.2.snd.length > first+bytes.length))=true then .error "memory seen as another type: a part of a cell written" else
 if (decide (f.fst<=x.fst) && decide (x.fst<f.snd))=true then .error "a write to bytes that a string shares" else
 match c[x.fst]? with
 | some old =>
   match old.ofBytes (List.take x.2.snd.length (List.drop (x.2.fst-first) bytes)) with
   | some new=>.ok (c.setIfInBounds x.fst new)
   | _=>.error "memory seen as another type: a bool from a byte other than 0 or 1"
 | _=>.error "memory seen as another type: no such cell"
theorem lT {first:Nat}{bytes:List UInt8}{f f':Nat × Nat}(hf:∀ i,f'.1<=i/\i<f'.2->f.1<=i/\i<f.2) (c:Array Value) (y:Nat × Nat × List UInt8) (c':Array Value) (h:dF first bytes f c y=.ok c') :
  dF first bytes f' c y=.ok c'/\¬(f.1<=y.1/\y.1<f.2)/\∃ v,c'=c.setIfInBounds y.1 v:=by
 unfold dF at h ⊢
 split at h
 ·cases h
 split at h
 ·cases h
 rename_i h1 h2;have h2':¬(f.1<=y.1/\y.1<f.2):=by simpa using h2
 have h3:¬((decide (f'.fst<=y.fst) && decide (y.fst<f'.snd))=true):=by
  intro z;exact h2' (hf _ (by simpa using z))
 rw[if_neg h1,if_neg h3];refine⟨h,h2',?_⟩
 split at h
 ·split at h
  ·exact ⟨_,(Except.ok.inj h).symm⟩
  ·cases h
 ·cases h
theorem gZ (w:World) (at_:Addr) (u:TypeId) (k:Addr) (v:Value) (m:Bool):w.viewStore P at_ u k v m =
  if (!tight P P.depth u)=true then .error "memory seen as another type: a store through a type with padding" else
  match w.seen P at_ u k m with
  | .error e=>.error e
  | .ok (c,e,f,first,like,cells) =>
    match v.bytes? with
    | some bytes =>
      if some bytes.length≠Option.map (λx=>x.length) like.bytes? then .error "memory seen as another type: a value of another size" else
      match cells.foldlM (dF first bytes f) c with
      | .error e=>.error e
      | .ok c'=>.ok ({ w with heap:=w.heap.setIfInBounds at_.block (.cells c' e f) },cells.map λx=>{ block:=at_.block,off:=x.1 })
    | none=>.error "memory seen as another type: a value that is no plain data" := by
 have thr:∀ {α:Type}(s:String),(MonadExcept.throw s:Except String α)=.error s:=λ_=>rfl;unfold World.viewStore;simp only[bind,Except.bind,pure,Except.pure,thr]
 split
 ·rfl
 cases w.seen P at_ u k m with
 | error e=>rfl
 | ok y =>
   obtain⟨c,e,f,first,like,cells⟩:=y;simp only;cases v.bytes? with
   | none=>rfl
   | some bytes =>
     simp only
     split
     ·rfl
     ·have e2:∀ g:Array Value->(Nat × Nat × List UInt8)->Except String (Array Value),(∀ a b,g a b=dF first bytes f a b)->List.foldlM g c cells=List.foldlM (dF first bytes f) c cells:=by
       intro g hg;rw[show g=dF first bytes f from funext λa=>funext λb=>hg a b]
      conv=>lhs; rw[e2 _ (by
       intro a b;unfold dF
       split
       ·rfl
       ·split
        ·rfl
        ·rfl)]
      cases List.foldlM (dF first bytes f) c cells <;> rfl
theorem Like.viewStore (h:Like F x w) (at_:Addr) (u:TypeId) (k:Addr) (v:Value) (m:Bool) {x':World}{ps:List Addr}(hy:x.viewStore P at_ u k v m=.ok (x',ps)) :
  ∃ w',w.viewStore P at_ u k v m=.ok (w',ps)/\Like F x' w'/\Kep F w w'/\(∀ a∈ps,a.block<w.heap.size/\¬F.has a)/\x'.tape=x.tape/\x'.drawn=x.drawn/\w'.drawn=w.drawn:=by
 rw[gZ] at hy ⊢
 split at hy
 ·cases hy
 rename_i ht;rw[if_neg ht];cases hs:x.seen P at_ u k m with
 | error e=>rw[hs] at hy;cases hy
 | ok y =>
   obtain⟨c,e,f,f',first,like,cells,rfl,hx,hw,hsw,hlt⟩:=h.seen at_ u k m hs;rw[hs] at hy;rw[hsw];simp only at hy ⊢
   split at hy
   ·rename_i bytes hb
    split at hy
    ·cases hy
    rename_i hlen;rw[if_neg hlen]
    split at hy
    ·cases hy
    rename_i c' hfold;obtain⟨rfl,rfl⟩:=Prod.mk.inj (Except.ok.inj hy);have hblk:=h.blk at_.block;rw[hx,hw] at hblk
    have hff:∀ i,f'.1<=i/\i<f'.2->f.1<=i/\i<f.2:=by
     intro i hi;cases eF:F.rng at_.block with
     | none =>
       rw[eF] at hblk
       rcases hblk with⟨hb,_,hq⟩ | ⟨_,_,_,_,h2⟩
       ·cases hb;exact hi
       ·cases h2
     | some r=>rw[eF] at hblk;obtain⟨_,_,s,h1,h2,h3⟩:=hblk;cases h1;cases h2;exact h3 i hi
    have hfr:∀ r,F.rng at_.block=some r->f=r:=by
     intro r eF;rw[eF] at hblk;obtain⟨_,_,s,h1,h2,_⟩:=hblk;cases h1;rfl
    obtain⟨h1,h2,h3⟩:=fold_ok (f:=f) (f':=f') (dF first bytes) (lT hff) _ _ _ hfold;rw[h1];refine⟨_,rfl,⟨by simpa using h.size,h.os,h.output,λb=>?_⟩,⟨rfl,by simp,λa ha=>?_,λb o ho hn=>?_,λb c0 t0 f0 ho=>?_,⟨rfl,rfl⟩⟩,λa ha=>?_,rfl,rfl,rfl⟩
    ·have hb:=h.blk b
     by_cases e1:b=at_.block
     ·subst e1
      have hlx:at_.block<x.heap.size:=by rw[h.size];exact hlt
      rw[Array.getElem?_setIfInBounds_self_of_lt hlx,Array.getElem?_setIfInBounds_self_of_lt hlt];cases eF:F.rng at_.block with
      | none =>
        rw[eF] at hblk
        rcases hblk with⟨hb,_,hq⟩ | ⟨_,_,_,_,h2⟩
        ·cases hb;exact .inl ⟨rfl,λh e=>by cases e;exact trivial,hq⟩
        ·cases h2
      | some r=>rw[eF] at hblk;obtain⟨_,_,s,h1,h2,h3⟩:=hblk;cases h1;cases h2;exact⟨_,_,_,rfl,rfl,h3⟩
     ·rw [Array.getElem?_setIfInBounds_ne (Ne.symm e1),Array.getElem?_setIfInBounds_ne (Ne.symm e1)];exact hb
    ·unfold World.cell?
     by_cases e1:a.block=at_.block
     ·simp only [e1]
      rw[Array.getElem?_setIfInBounds_self_of_lt hlt,hw];simp only
      split
      ·rfl
      ·obtain ⟨r,eF,hr⟩:=ha
       rw[e1] at eF;have:=hfr r eF;subst this;exact h3 _ (λy hy e=>h2 y hy (by rw[e];exact hr))
     ·simp only
      rw[Array.getElem?_setIfInBounds_ne (Ne.symm e1)]
    ·by_cases e1:b=at_.block
     ·subst e1;rw[hw] at ho;exact absurd (Option.some.inj ho).symm (hn _ _ _)
     ·simp only
      rw[Array.getElem?_setIfInBounds_ne (Ne.symm e1)];exact ho
    ·by_cases e1:b=at_.block
     ·subst e1
      rw[hw] at ho;cases ho;refine⟨c',Array.getElem?_setIfInBounds_self_of_lt hlt,?_⟩
      exact fold_size (dF first bytes f') (λc y c' h=>by
       obtain⟨v,rfl⟩:=(lT (f:=f') (f':=f') (λ_ hi=>hi) c y c' h).2.2
       simp) _ _ _ h1
     ·refine ⟨c0,?_,rfl⟩
      simp only;rw[Array.getElem?_setIfInBounds_ne (Ne.symm e1)];exact ho
    ·obtain ⟨y,hy,rfl⟩:=List.mem_map.1 ha
     refine⟨hlt,?_⟩;rintro⟨r,eF,hr⟩;have:=hfr r eF;subst this;exact h2 y hy hr
   ·cases hy
theorem Like.farStore (h:Like F x w) (a:Addr) (v:Value) (m:Bool) {x':World}{ps:List Addr}(hy:x.farStore P a v m=.ok (x',ps)) :
  ∃ w',w.farStore P a v m=.ok (w',ps)/\Like F x' w'/\Kep F w w'/\(∀ a∈ps,a.block<w.heap.size/\¬F.has a)/\x'.tape=x.tape/\x'.drawn=x.drawn/\w'.drawn=w.drawn:=by
 unfold World.farStore at hy ⊢
 split at hy
 ·rename_i at_ u hx
  rw[h.other hx (by simp) (by simp)];simp only
  split at hy
  ·rename_i r hr
   obtain rfl:=Except.ok.inj hy;obtain⟨w',h1,h2⟩:=h.viewStore at_ u a v m hr;rw[h1];exact⟨w',rfl,h2⟩
  ·cases hy
 ·cases hy
theorem oR {w:World}{p:Addr}{v:Value}(h:w.cell? p=some v):p.block<w.heap.size:=by
 rcases Nat.lt_or_ge p.block w.heap.size with hlt | hge
 ·exact hlt
 ·simp [World.cell?,Array.getElem?_eq_none hge] at h
theorem Like.setCell (h:Like F x w) (a:Addr) (v:Value):Like F (x.setCell a v) (w.setCell a v):=by
 refine⟨by simpa [World.setCell] using h.size,h.os,h.output,λb=>?_⟩;have hb:=h.blk b;simp only[World.setCell,Array.getElem?_modify]
 split
 ·rename_i e
  subst e;cases eF:F.rng a.block with
  | none =>
    rw[eF] at hb
    rcases hb with⟨hb,hv,hq⟩ | ⟨hq,h,hh,h1,h2⟩
    ·rw [hb]
     refine .inl ⟨rfl,λh e=>?_,hq⟩;cases hw:w.heap[a.block]? with
     | none=>rw[hw] at e;cases e
     | some o =>
       rw[hw] at e;have hv:=hv o (hb.trans hw);cases o <;> simp only[Option.map_some,Option.some.injEq] at e <;> subst e <;> first | exact hv | exact trivial
    ·rw [h1,h2]
     cases h <;> first | exact .inr ⟨hq,_,hh,rfl,rfl⟩ | exact False.elim hh
  | some r=>rw[eF] at hb;obtain⟨c,t,s,h1,h2,h3⟩:=hb;rw[h1,h2];exact⟨_,_,_,rfl,rfl,h3⟩
 ·exact hb
theorem kep_setCell {a:Addr}(ha:¬F.has a) (v:Value):Kep F w (w.setCell a v):=by
 refine⟨rfl,by simp[World.setCell],λp hp=>?_,λb o ho hn=>?_,λb c t f ho=>?_,⟨rfl,rfl⟩⟩
 ·by_cases e:a.block=p.block
  ·have eo:a.off≠p.off:=λeo=>ha (by obtain⟨r,e1,e2⟩:=hp;exact⟨r,by rw[e];exact e1,by rw[eo];exact e2⟩)
   unfold World.cell?;simp only[World.setCell,Array.getElem?_modify,if_pos e];cases hw:w.heap[p.block]? with
   | none=>rfl
   | some o =>
     cases o with
     | cells c t f =>
       simp only[Option.map_some]
       by_cases sp:p.spot.isSome=true
       ·rw [if_pos sp,if_pos sp]
       ·rw [if_neg sp,if_neg sp]
        split
        ·rfl
        ·exact Array.getElem?_setIfInBounds_ne eo
     | _=>rfl
  ·unfold World.cell?
   simp only[World.setCell,Array.getElem?_modify,if_neg e]
 ·simp only [World.setCell,Array.getElem?_modify]
  split
  ·rw [ho]
   cases o <;> first | rfl | exact absurd rfl (hn _ _ _)
  ·exact ho
 ·simp only [World.setCell,Array.getElem?_modify]
  split
  ·rw [ho]
   refine⟨_,rfl,?_⟩
   split <;> simp
  ·exact ⟨c,ho,rfl⟩
theorem Like.push (h:Like F x w) (o:Obj) (ho:Vis o):Like F { x with heap:=x.heap.push o } { w with heap:=w.heap.push o }:=by
 refine⟨by simpa using h.size,h.os,h.output,λb=>?_⟩;have hb:=h.blk b;simp only[Array.getElem?_push,h.size]
 split
 ·rename_i e
  have hn:w.heap[b]?=none:=by rw[e];simp
  cases eF:F.rng b with
  | none =>
    refine .inl ⟨rfl,λh e=>by cases e;exact ho,λhq=>?_⟩;rw[eF] at hb
    rcases hb with⟨_,_,hn'⟩ | ⟨_,h,_,h1,_⟩
    ·exact hn' hq
    ·rw [hn] at h1;cases h1
  | some r=>rw[eF] at hb;obtain⟨c,t,s,_,h2,_⟩:=hb;rw[hn] at h2;cases h2
 ·exact hb
theorem Like.fast_lt (h:Like F x w) {p:Addr}(hp:F.has p):p.block<w.heap.size:=by
 obtain⟨r,e,_⟩:=hp;have hb:=h.blk p.block;rw[e] at hb;obtain⟨c,t,s,_,h2,_⟩:=hb;exact(Array.getElem?_eq_some_iff.1 h2).1
theorem Like.kep_push (h:Like F x w) (o:Obj):Kep F w { w with heap:=w.heap.push o }:=by
 have key:∀ (b:Nat) (o':Obj),w.heap[b]?=some o'->(w.heap.push o)[b]?=some o':=λb o' ho=>by
  simp only[Array.getElem?_push]
  split
  ·rename_i e;rw[e] at ho;simp at ho
  ·exact ho
 refine⟨rfl,by simp,λp hp=>?_,λb o' ho _=>key b o' ho,λb c t f ho=>⟨c,key b _ ho,rfl⟩,⟨rfl,rfl⟩⟩
 ·have:=h.fast_lt hp
  unfold World.cell?;simp only[Array.getElem?_push];rw[if_neg (by omega)]
theorem EvOk.mono {n n':Nat}{e:Event}(h:EvOk F n e) (hn:n<=n'):EvOk F n' e:=by
 rcases h with⟨a,h1,h2,h3⟩ | ⟨r,h1,h2,h3⟩ | h
 ·exact .inl ⟨a,h1,by omega,h3⟩
 ·exact .inr (.inl ⟨r,h1,by omega,h3⟩)
 ·exact .inr (.inr h)
def Beside (P:Program) (F:Fast) {α:Type}(m:Sem α) (w:World) (es:Array Event) (τ:Nat->Question->Nat) (d n:Nat) (f:World->Result α) (x':World):Prop:=
 ∃ w' new,m.runT P w es=(f w',es++new)/\Like F x' w'/\x'.tape=τ/\x'.drawn=d+n/\Kep F w w'/\∀ e∈new,EvOk F w'.heap.size e
def Bes (P:Program) (F:Fast) {α:Type}(m:Sem α) (w:World) (es:Array Event) (τ:Nat->Question->Nat) (d n:Nat):Result α->Prop
 | .ok a x'=>Beside P F m w es τ d n (.ok a) x'
 | .halt h x'=>Cut h\/(∃ v,h=.panic v)/\Beside P F m w es τ d n (.halt h) x'
def Reads (τ:Nat->Question->Nat) (d:Nat) (L:List (Question->Nat)):Prop:=∀ j (hj:j<L.length),τ (d+j)=L[j]
theorem Reads.tail {τ:Nat->Question->Nat}{d:Nat}{q:Question->Nat}{L:List (Question->Nat)}(h:Reads τ d (q::L)):Reads τ (d+1) L:=by
 intro j hj;have:=h (j+1) (by simpa using hj);rw[show d+1+j=d+(j+1) by omega,this];rfl
theorem Reads.head {τ:Nat->Question->Nat}{d:Nat}{q:Question->Nat}{L:List (Question->Nat)}(h:Reads τ d (q::L)):τ d=q:=h 0 (by simp)
theorem Beside.ev {α:Type}{m m':Sem α}{w w1:World}{es:Array Event}{e:Array Event}{τ:Nat->Question->Nat}{d n:Nat}{f:World->Result α}{x':World}(h:Beside P F m w1 (es++e) τ d n f x') (hr:m'.runT P w es=m.runT P w1 (es++e)) (hk:Kep F w w1) (he:∀ y∈e,EvOk F w1.heap.size y) :
  Beside P F m' w es τ d n f x':=by
 obtain⟨w',new,h1,h2,h3,h4,h5,h6⟩:=h;refine⟨w',e++new,by rw[hr,h1,Array.append_assoc],h2,h3,h4,hk.trans h5,λy hy=>?_⟩
 rcases Array.mem_append.1 hy with hy | hy
 ·exact (he y hy).mono h5.size
 ·exact h6 y hy
theorem Bes.ev {α:Type}{m m':Sem α}{w w1:World}{es:Array Event}{e:Array Event}{τ:Nat->Question->Nat}{d n:Nat}{r:Result α}(h:Bes P F m w1 (es++e) τ d n r) (hr:m'.runT P w es=m.runT P w1 (es++e)) (hk:Kep F w w1) (he:∀ y∈e,EvOk F w1.heap.size y) :
  Bes P F m' w es τ d n r:=by
 cases r with
 | ok a x'=>exact Beside.ev h hr hk he
 | halt k x'=>exact Or.imp id (λh=>⟨h.1,Beside.ev h.2 hr hk he⟩) h
theorem Bes.same {α:Type}{m m':Sem α}{w w1:World}{es:Array Event}{τ:Nat->Question->Nat}{d n:Nat}{r:Result α}(h:Bes P F m w1 es τ d n r) (hr:m'.runT P w es=m.runT P w1 es) (hk:Kep F w w1):Bes P F m' w es τ d n r:=
 Bes.ev (e:=#[]) (by simpa using h) (by simpa using hr) hk (λy hy=>by simp at hy)
theorem Bes.drew {α:Type}{m m':Sem α}{w w1:World}{es:Array Event}{τ:Nat->Question->Nat}{d n:Nat}{r:Result α}(h:Bes P F m w1 es τ (d+1) n r) (hr:m'.runT P w es=m.runT P w1 es) (hk:Kep F w w1):Bes P F m' w es τ d (n+1) r:=by
 have key:∀ f x',Beside P F m w1 es τ (d+1) n f x'->Beside P F m' w es τ d (n+1) f x':=by
  rintro f x' ⟨w',new,h1,h2,h3,h4,h5,h6⟩;exact⟨w',new,by rw[hr,h1],h2,h3,by omega,hk.trans h5,h6⟩
 cases r with
 | ok a x'=>exact key _ _ h
 | halt k x'=>exact Or.imp id (λh=>⟨h.1,key _ _ h.2⟩) h
def Seen (x:World):Prop:=∀ (b:Nat) (o:Obj),x.heap[b]?=some o->Vis o
theorem Like.seen' (h:Like F x w):Seen x:=by
 intro b o ho;have hb:=h.blk b;cases e:F.rng b with
 | none =>
   rw[e] at hb
   rcases hb with⟨_,hb,_⟩ | ⟨_,_,_,_,h2⟩
   ·exact hb o ho
   ·rw [h2] at ho;cases ho;exact trivial
 | some r =>
   rw[e] at hb;obtain⟨c,t,s,h1,_⟩:=hb;rw[h1] at ho;cases ho;exact trivial
theorem Like.farLoad_err (_:Like F x w) (a:Addr) (m:Bool) {e:Halt}(hy:x.farLoad P a m=.error e):Cut e:=by
 unfold World.farLoad at hy
 split at hy
 ·split at hy
  ·cases hy
  ·cases hy;exact trivial
 ·cases hy
  unfold World.noCell
  split <;> exact trivial
theorem Like.farStore_err (_:Like F x w) (a:Addr) (v:Value) (m:Bool) {e:Halt}(hy:x.farStore P a v m=.error e):Cut e:=by
 unfold World.farStore at hy
 split at hy
 ·split at hy
  ·cases hy
  ·cases hy;exact trivial
 ·cases hy
  unfold World.noCell
  split <;> exact trivial
theorem Bes.stop {α:Type}{m:Sem α}{w:World}{es:Array Event}{τ:Nat->Question->Nat}{d n:Nat}{h:Halt}{x':World}(hc:Cut h):Bes P F m w es τ d n (.halt h x'):=.inl hc
theorem store_run {α:Type}(m:Mode) (a:Addr) (v:Value):(∀ (k:Sem α) (w:World),(Sem.store m a v k).run P w=.halt (.stuck "store: not the value of one cell") w) \/
  ((∀ (k:Sem α) (w:World),(Sem.store m a v k).run P w=match w.cell? a with
    | some _=>if w.frozen? a then .halt (.unsupported (.unsafePointer "a write to bytes that a string shares")) w else k.run P (w.setCell a v)
    | none=>match w.farStore P a v (m==.atomic) with
      | .ok (w,_)=>k.run P w
      | .error h=>.halt h w) /\
   (∀ (k:Sem α) (w:World) (es:Array Event),(Sem.store m a v k).runT P w es=match w.cell? a with
    | some _=>if w.frozen? a then(.halt (.unsupported (.unsafePointer "a write to bytes that a string shares")) w,es) else k.runT P (w.setCell a v) (es.push ⟨.cell a,true,m==.atomic⟩)
    | none=>match w.farStore P a v (m==.atomic) with
      | .ok (w,touched)=>k.runT P w (es++touched.toArray.map (⟨.cell ·,true,m==.atomic⟩))
      | .error h=>(.halt h w,es))):=by
 cases v <;> first | exact .inl (λ_ _=>rfl) | exact .inr ⟨λ_ _=>rfl,λ_ _ _=>rfl⟩
theorem mD (x:World) (τ:Nat->Question->Nat) (d:Nat) (a:Addr) (v:Value) (m:Bool):(x.re τ d).farStore P a v m=match x.farStore P a v m with
  | .ok (y,ps)=>.ok (y.re τ d,ps)
  | .error e=>.error e:=by
 have hv:∀ at_ u,(x.re τ d).viewStore P at_ u a v m=match x.viewStore P at_ u a v m with
   | .ok (y,ps)=>.ok (y.re τ d,ps)
   | .error e=>.error e:=by
  intro at_ u;rw[gZ,gZ]
  split
  ·rfl
  have hs:(x.re τ d).seen P at_ u a m=x.seen P at_ u a m:=rfl;rw[hs];cases x.seen P at_ u a m with
  | error e=>rfl
  | ok y =>
    obtain⟨c,e,f,first,like,cells⟩:=y;simp only;cases v.bytes? with
    | none=>rfl
    | some bytes =>
      simp only
      split
      ·rfl
      ·cases cells.foldlM (dF first bytes f) c <;> rfl
 unfold World.farStore;have hh:(x.re τ d).heap=x.heap:=rfl;rw[hh]
 split
 ·rw [hv]
  rename_i at_ u _;cases x.viewStore P at_ u a v m with
  | error e=>rfl
  | ok r=>rfl
 ·rfl
theorem sys_env (w:World):w.sys .env=(.strings w.os.env,w):=rfl
inductive Lv (P:Program) {α:Type}(A:α->Prop):Sem α->Prop
 | pure {a} (h:A a):Lv P A (.pure a)
 | load {m a k} (h:∀ v,Lv P A (k v)):Lv P A (.load m a k)
 | store {m a v k} (h:Lv P A k):Lv P A (.store m a v k)
 | new {o k} (h:∀ r,Lv P A (k r)):Lv P A (.new o k)
 | shape {r k} (h:∀ s,Lv P A (k s)):Lv P A (.shape r k)
 | freeze {a n k} (h:Lv P A k):Lv P A (.freeze a n k)
 | frozen {a k} (h:∀ b,Lv P A (k b)):Lv P A (.frozen a k)
 | getObj {r k} (h:∀ o,Vis o->Lv P A (k o)):Lv P A (.getObj r k)
 | setObj {r o k} (h:Lv P A k):Lv P A (.setObj r o k)
 | choose {q k} (h:∀ n,Lv P A (k n)):Lv P A (.choose q k)
 | sys {c k} (h:∀ r,Lv P A (k r)):Lv P A (.sys c k)
 | program {k} (h:Lv P A (k P)):Lv P A (.program k)
 | mark {y k} (h:Lv P A k):Lv P A (.mark y k)
 | halt {h}:Lv P A (.halt h)
theorem R.sim {α:Type}{m m':Sem α}(h:R P m m'):∀ (x w:World) (es:Array Event),Like F x w ->
  ∃ L:List (Question->Nat),∀ τ d,Reads τ d L->Bes P F m' w es τ d L.length (m.run P (x.re τ d))/\∀ A,Lv P A m->∀ a x',m.run P (x.re τ d)=.ok a x'->A a:=by
 induction h with
 | pure a =>
   intro x w es hl;refine⟨[],λτ d _=>⟨⟨w,#[],by simp[Sem.runT],hl.re τ d,rfl,rfl,Kep.refl F w,λe he=>by simp at he⟩,λA hA b y hy=>?_⟩⟩;cases hA with | pure h=>simp only[Sem.run,Result.ok.injEq] at hy;rw[<-hy.1];exact h
 | @load m a k k' _ ih =>
   intro x w es hl;cases hc:w.cell? a with
   | some v =>
     obtain⟨L,hL⟩:=ih v x w (es++#[⟨.cell a,false,m==.atomic⟩]) hl;refine⟨L,λτ d hT=>?_⟩;have hx:(x.re τ d).cell? a=some v:=(hl.cell a).trans hc;have hr:(Sem.load m a k).run P (x.re τ d)=(k v).run P (x.re τ d):=by simp only[Sem.run,hx]
     rw[hr];refine⟨(hL τ d hT).1.ev ?_ (Kep.refl F w) (λy hy=>?_),λA hA b z hz=>by cases hA with | load h=>exact((hL τ d hT)).2 A (h _) b z hz⟩
     ·simp only [Sem.runT,hc];rfl
     ·simp only [List.mem_toArray,List.mem_cons,List.not_mem_nil,or_false] at hy
      subst hy;exact .inl ⟨a,rfl,oR hc,λz=>by cases z⟩
   | none =>
     cases hf:x.farLoad P a (m==.atomic) with
     | error e =>
       refine⟨[],λτ d hT=>?_⟩;have hx:(x.re τ d).cell? a=none:=(hl.cell a).trans hc;have hf':(x.re τ d).farLoad P a (m==.atomic)=.error e:=hf;have hr:(Sem.load m a k).run P (x.re τ d)=.halt e (x.re τ d):=by simp only[Sem.run,hx,hf']
       rw[hr];exact⟨Bes.stop (hl.farLoad_err a _ hf),λ_ _ _ _ z=>by cases z⟩
     | ok r =>
       obtain⟨v,ps⟩:=r;obtain⟨hw,hps⟩:=hl.farLoad a _ hf;obtain⟨L,hL⟩:=ih v x w (es++ps.toArray.map (⟨.cell ·,false,m==.atomic⟩)) hl;refine⟨L,λτ d hT=>?_⟩;have hx:(x.re τ d).cell? a=none:=(hl.cell a).trans hc;have hf':(x.re τ d).farLoad P a (m==.atomic)=.ok (v,ps):=hf;have hr:(Sem.load m a k).run P (x.re τ d)=(k v).run P (x.re τ d):=by simp only[Sem.run,hx,hf']
       rw[hr];refine⟨(hL τ d hT).1.ev ?_ (Kep.refl F w) (λy hy=>?_),λA hA b z hz=>by cases hA with | load h=>exact((hL τ d hT)).2 A (h _) b z hz⟩
       ·simp only [Sem.runT,hc,hw]
       ·obtain ⟨p,hp,rfl⟩:=Array.mem_map.1 hy
        exact .inl ⟨p,rfl,hps p (by simpa using hp),λz=>by cases z⟩
 | @store m a v k k' _ ih =>
   intro x w es hl
   rcases store_run (P:=P) (α:=α) m a v with h0 | ⟨h1,h2⟩
   ·refine ⟨[],λτ d _=>?_⟩
    rw[h0];exact⟨Bes.stop trivial,λ_ _ _ _ z=>by cases z⟩
   ·cases hc:w.cell? a with
    | some u =>
      rcases hl.frozen a with hz | ⟨hz,_,_⟩
      ·cases hfz:w.frozen? a with
       | true =>
         refine⟨[],λτ d _=>?_⟩;have hx:(x.re τ d).cell? a=some u:=(hl.cell a).trans hc;have hx2:(x.re τ d).frozen? a=true:=hz.trans hfz;rw[h1,hx];simp only[hx2,if_true];exact⟨Bes.stop trivial,λ_ _ _ _ z=>by cases z⟩
       | false =>
         have hnot:¬F.has a:=λhh=>by have:=hl.has hh;rw[hz,hfz] at this;cases this
         obtain⟨L,hL⟩:=ih (x.setCell a v) (w.setCell a v) (es++#[⟨.cell a,true,m==.atomic⟩]) (hl.setCell a v);refine⟨L,λτ d hT=>?_⟩;have hx:(x.re τ d).cell? a=some u:=(hl.cell a).trans hc;have hx2:(x.re τ d).frozen? a=false:=hz.trans hfz;rw[h1,hx];simp only[hx2,Bool.false_eq_true,if_false];refine⟨Bes.ev (hL τ d hT).1 ?_ (kep_setCell hnot v) (λy hy=>?_),λA hA b z hz=>by cases hA with | store h=>exact((hL τ d hT)).2 A (h) b z hz⟩
         ·simp only [h2,hc,hfz,Bool.false_eq_true,if_false];rfl
         ·simp only [List.mem_toArray,List.mem_cons,List.not_mem_nil,or_false] at hy
          subst hy;exact .inl ⟨a,rfl,by simpa [World.setCell] using oR hc,λ_=>hnot⟩
      ·refine ⟨[],λτ d _=>?_⟩
       have hx:(x.re τ d).cell? a=some u:=(hl.cell a).trans hc;have hx2:(x.re τ d).frozen? a=true:=hz;rw[h1,hx];simp only[hx2,if_true];exact⟨Bes.stop trivial,λ_ _ _ _ z=>by cases z⟩
    | none =>
      cases hf:x.farStore P a v (m==.atomic) with
      | error e =>
        refine⟨[],λτ d _=>?_⟩;have hx:(x.re τ d).cell? a=none:=(hl.cell a).trans hc;rw[h1,hx];simp only[mD,hf];exact⟨Bes.stop (hl.farStore_err a v _ hf),λ_ _ _ _ z=>by cases z⟩
      | ok r =>
        obtain⟨y,ps⟩:=r;obtain⟨w1,hw1,hl1,hk1,hp1,ht1,hd1,hd2⟩:=hl.farStore a v _ hf;obtain⟨L,hL⟩:=ih y w1 (es++ps.toArray.map (⟨.cell ·,true,m==.atomic⟩)) hl1;refine⟨L,λτ d hT=>?_⟩;have hx:(x.re τ d).cell? a=none:=(hl.cell a).trans hc;rw[h1,hx];simp only[mD,hf];refine⟨(hL τ d hT).1.ev ?_ hk1 (λz hz=>?_),λA hA b z hz=>by cases hA with | store h=>exact((hL τ d hT)).2 A (h) b z hz⟩
        ·simp only [h2,hc,hw1]
        ·obtain ⟨p,hp,rfl⟩:=Array.mem_map.1 hz
         have:=hp1 p (by simpa using hp);exact .inl ⟨p,rfl,Nat.lt_of_lt_of_le this.1 hk1.size,λ_=>this.2⟩
 | @new o k k' ho _ ih =>
   intro x w es hl;obtain⟨L,hL⟩:=ih w.heap.size _ _ es (hl.push o ho);refine⟨L,λτ d hT=>?_⟩;have hs:(x.re τ d).heap.size=w.heap.size:=hl.size
   have hr:(Sem.new o k).run P (x.re τ d)=(k w.heap.size).run P (({ x with heap:=x.heap.push o }:World).re τ d):=by
    rw[<-hs];rfl
   rw[hr];refine⟨(hL τ d hT).1.same (by simp only[Sem.runT]) (hl.kep_push o),λA hA b z hz=>by cases hA with | new h=>exact((hL τ d hT)).2 A (h _) b z hz⟩
 | @shape r k k' _ ih =>
   intro x w es hl;obtain⟨L,hL⟩:=ih (w.shape? r) x w es hl;refine⟨L,λτ d hT=>?_⟩;have hs:(x.re τ d).shape? r=w.shape? r:=hl.shape r;have hr:(Sem.shape r k).run P (x.re τ d)=(k (w.shape? r)).run P (x.re τ d):=by rw[<-hs];rfl
   rw[hr];refine⟨(hL τ d hT).1.same (by simp only[Sem.runT]) (Kep.refl F w),λA hA b z hz=>by cases hA with | shape h=>exact((hL τ d hT)).2 A (h _) b z hz⟩
 | @frozen a k k' _ _ ih ih' =>
   intro x w es hl
   rcases hl.frozen a with hz | ⟨hz,hz',_⟩
   ·obtain ⟨L,hL⟩:=ih (w.frozen? a) x w es hl
    refine⟨L,λτ d hT=>?_⟩;have hs:(x.re τ d).frozen? a=w.frozen? a:=hz;have hr:(Sem.frozen a k).run P (x.re τ d)=(k (w.frozen? a)).run P (x.re τ d):=by rw[<-hs];rfl
    rw[hr];refine⟨(hL τ d hT).1.same (by simp only[Sem.runT]) (Kep.refl F w),λA hA b z hz=>by cases hA with | frozen h=>exact((hL τ d hT)).2 A (h _) b z hz⟩
   ·obtain ⟨L,hL⟩:=ih' x w es hl
    refine⟨L,λτ d hT=>?_⟩;have hs:(x.re τ d).frozen? a=true:=hz;have hr:(Sem.frozen a k).run P (x.re τ d)=(k true).run P (x.re τ d):=by rw[<-hs];rfl
    rw[hr];refine⟨(hL τ d hT).1.same (by simp only[Sem.runT,hz']) (Kep.refl F w),λA hA b z hz=>by cases hA with | frozen h=>exact((hL τ d hT)).2 A (h _) b z hz⟩
 | @getObj r k k' _ _ ih ih' =>
   intro x w es hl;cases ho:x.heap[r]? with
   | none =>
     refine⟨[],λτ d _=>?_⟩;have hs:(x.re τ d).heap[r]?=none:=ho;simp only[Sem.run,hs];exact⟨Bes.stop trivial,λ_ _ _ _ z=>by cases z⟩
   | some o =>
     rcases kZ o with⟨c,t,f,rfl⟩ | hn
     ·refine ⟨[],λτ d _=>?_⟩
      have hs:(x.re τ d).heap[r]?=some (.cells c t f):=ho;simp only[Sem.run,hs];exact⟨Bes.stop trivial,λ_ _ _ _ z=>by cases z⟩
     ·have key:∀ o',w.heap[r]?=some o'->(∀ c t f,o'≠.cells c t f)->(∀ (x w:World) (es:Array Event),Like F x w->∃ L:List (Question->Nat),∀ τ d,Reads τ d L->Bes P F (k' o') w es τ d L.length ((k o).run P (x.re τ d))/\∀ A,Lv P A (k o)->∀ a x',(k o).run P (x.re τ d)=.ok a x'->A a) ->
        ∃ L:List (Question->Nat),∀ τ d,Reads τ d L->Bes P F (.getObj r k') w es τ d L.length ((Sem.getObj r k).run P (x.re τ d))/\∀ A,Lv P A (Sem.getObj r k)->∀ a x',(Sem.getObj r k).run P (x.re τ d)=.ok a x'->A a:=by
       intro o' hw hn' ih;obtain⟨L,hL⟩:=ih x w (es++#[⟨.obj r,false,o'.isChan⟩]) hl;refine⟨L,λτ d hT=>?_⟩;have hs:(x.re τ d).heap[r]?=some o:=ho
       have hr':(Sem.getObj r k).run P (x.re τ d)=(k o).run P (x.re τ d):=by
        simp only[Sem.run,hs]
       rw[hr'];refine⟨(hL τ d hT).1.ev ?_ (Kep.refl F w) (λy hy=>?_),λA hA b z hz=>by cases hA with | getObj h=>exact((hL τ d hT)).2 A (h _ (hl.seen' _ _ ho)) b z hz⟩
       ·rw [show (Sem.getObj r k').runT P w es=(k' o').runT P w (es.push ⟨.obj r,false,o'.isChan⟩) by
         simp only[Sem.runT,hw]]
        rfl
       ·simp only [List.mem_toArray,List.mem_cons,List.not_mem_nil,or_false] at hy
        subst hy;exact .inr (.inl ⟨r,rfl,(Array.getElem?_eq_some_iff.1 hw).1,rfl⟩)
      rcases hl.other' ho hn with hw | ⟨rfl,h,hh,hw⟩
      ·exact key o hw hn (ih o (hl.seen' _ _ ho))
      ·exact key h hw hh.ncell (ih' h hh)
 | @choose q k k' _ ih =>
   intro x w es hl;cases hq:q.forced with
   | true =>
     obtain⟨L,hL⟩:=ih 0 x w es hl;refine⟨L,λτ d hT=>?_⟩;simp only[Sem.run,hq,if_true];refine⟨(hL τ d hT).1.same (by simp only[Sem.runT,hq,if_true]) (Kep.refl F w),λA hA b z hz=>by cases hA with | choose h=>exact((hL τ d hT)).2 A (h _) b z hz⟩
   | false =>
     obtain⟨L,hL⟩:=ih (q.cut (w.tape w.drawn q)) x { w with drawn:=w.drawn+1 } es ⟨hl.size,hl.os,hl.output,hl.blk⟩;refine⟨w.tape w.drawn::L,λτ d hT=>?_⟩;have ht:(x.re τ d).tape (x.re τ d).drawn q=w.tape w.drawn q:=congrFun hT.head q;simp only[Sem.run,hq,Bool.false_eq_true,if_false,ht];refine⟨Bes.drew (hL τ (d+1) hT.tail).1 (by simp only[Sem.runT,hq,Bool.false_eq_true,if_false]) ⟨rfl,Nat.le_refl _,λ_ _=>rfl,λ_ _ h _=>h,λ_ c _ _ h=>⟨c,h,rfl⟩,⟨rfl,rfl⟩⟩,λA hA b z hz=>by cases hA with | choose h=>exact((hL τ (d+1) hT.tail)).2 A (h _) b z hz⟩
 | @program k k' _ ih =>
   intro x w es hl;obtain⟨L,hL⟩:=ih x w es hl;refine⟨L,λτ d hT=>?_⟩;simp only[Sem.run];refine⟨(hL τ d hT).1.same (by simp only[Sem.runT]) (Kep.refl F w),λA hA b z hz=>by cases hA with | program h=>exact((hL τ d hT)).2 A (h) b z hz⟩
 | @mark y k k' hy _ ih =>
   intro x w es hl;obtain⟨L,hL⟩:=ih x w (es++#[⟨.mark y,false,true⟩]) hl;refine⟨L,λτ d hT=>?_⟩;simp only[Sem.run];refine⟨(hL τ d hT).1.ev (by simp only[Sem.runT];rfl) (Kep.refl F w) (λz hz=>?_),λA hA b z hz=>by cases hA with | mark h=>exact((hL τ d hT)).2 A (h) b z hz⟩;simp only[List.mem_toArray,List.mem_cons,List.not_mem_nil,or_false] at hz;subst hz;exact .inr (.inr (hy.elim (λe=>.inl (by rw[e])) (λ⟨f,e⟩=>.inr (.inl ⟨f,by rw[e]⟩))))
 | panic v =>
   intro x w es hl;exact⟨[],λτ d _=>⟨.inr ⟨⟨v,rfl⟩,w,#[],by simp[Sem.runT],hl.re τ d,rfl,rfl,Kep.refl F w,λe he=>by simp at he⟩,λ_ _ _ _ z=>by cases z⟩⟩
 | cut hc =>
   intro x w es hl;exact⟨[],λτ d _=>⟨Bes.stop hc,λ_ _ _ _ z=>by cases z⟩⟩
 | @skip y k m' _ ih =>
   intro x w es hl;obtain⟨L,hL⟩:=ih x w es hl;exact⟨L,λτ d hT=>⟨(hL τ d hT).1,λA hA b z hz=>by cases hA with | mark h=>exact(hL τ d hT).2 A (h) b z hz⟩⟩
 | @shapeR r m k' _ ih =>
   intro x w es hl;obtain⟨L,hL⟩:=ih (w.shape? r) x w es hl;exact⟨L,λτ d hT=>⟨(hL τ d hT).1.same (by simp only[Sem.runT]) (Kep.refl F w),λA hA b z hz=>(hL τ d hT).2 A hA b z hz⟩⟩
 | @frozenR r m k' _ ih =>
   intro x w es hl;obtain⟨L,hL⟩:=ih (w.frozen? r) x w es hl;exact⟨L,λτ d hT=>⟨(hL τ d hT).1.same (by simp only[Sem.runT]) (Kep.refl F w),λA hA b z hz=>(hL τ d hT).2 A hA b z hz⟩⟩
 | @shapeL r k m' _ ih =>
   intro x w es hl;obtain⟨L,hL⟩:=ih (x.shape? r) x w es hl;exact⟨L,λτ d hT=>⟨(hL τ d hT).1,λA hA b z hz=>by cases hA with | shape h=>exact(hL τ d hT).2 A (h _) b z hz⟩⟩
 | @frozenL r k m' _ ih =>
   intro x w es hl;obtain⟨L,hL⟩:=ih (x.frozen? r) x w es hl;exact⟨L,λτ d hT=>⟨(hL τ d hT).1,λA hA b z hz=>by cases hA with | frozen h=>exact(hL τ d hT).2 A (h _) b z hz⟩⟩
 | @env k k' _ ih =>
   intro x w es hl;obtain⟨L,hL⟩:=ih (.strings w.os.env) x w (es++#[⟨.output,true,false⟩]) hl;refine⟨L,λτ d hT=>?_⟩
   have hr:(Sem.sys .env k).run P (x.re τ d)=(k (.strings w.os.env)).run P (x.re τ d):=by
    show (k ((x.re τ d).sys .env).1).run P ((x.re τ d).sys .env).2=_
    rw[sys_env]
    show (k (.strings x.os.env)).run P (x.re τ d)=_
    rw[hl.os]
   rw[hr];refine⟨(hL τ d hT).1.ev ?_ (Kep.refl F w) (λy hy=>?_),λA hA b z hz=>by cases hA with | sys h=>exact((hL τ d hT)).2 A (h _) b z hz⟩
   ·show (k' (w.sys .env).1).runT P (w.sys .env).2 (es.push ⟨.output,true,false⟩)=_
    rw[sys_env];rfl
   ·simp only [List.mem_toArray,List.mem_cons,List.not_mem_nil,or_false] at hy
    subst hy;exact .inr (.inr (.inr (.inr rfl)))
 | @extra q k m' t hq _ ih =>
   intro x w es hl;obtain⟨L,hL⟩:=ih x w es hl;refine⟨(λ_=>t)::L,λτ d hT=>?_⟩;have ht:(x.re τ d).tape (x.re τ d).drawn q=t:=congrFun hT.head q;simp only[Sem.run,hq,Bool.false_eq_true,if_false,ht];refine⟨Bes.drew (hL τ (d+1) hT.tail).1 rfl (Kep.refl F w),λA hA b z hz=>by cases hA with | choose h=>exact((hL τ (d+1) hT.tail)).2 A (h _) b z hz⟩
end
end Go.Tame
