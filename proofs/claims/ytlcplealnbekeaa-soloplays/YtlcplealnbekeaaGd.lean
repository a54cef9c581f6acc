/- DERIVED. A region that draws its order and has calls that step in its middle: whatever order comes up. No program of this claim is in sight. -/
import Derived.Test.YtlcplealnbekeaaGc
import Derived.Calls
import Derived.Tactics
import Derived.Deep.QuietTactic
import Derived.Deep.Draws
import Derived.OrdersHeld
set_option linter.unusedVariables false
namespace Go.Turn
open Go.Conc Go.Tame
structure Nd (fr:Frame) (mid:List Frame):Prop where
 top:fr.defers=[]
 below:∀ f∈mid,f.defers=[]/\f.mode=.run
structure Lg (P:Program) (κ:Type) where
 T:κ->Frame->List Frame->World->Prop
 tail : List Frame
  /-- Are deferred calls shunned? -/
 strict:Prop
 re:∀ {t fr mid x} (τ:Nat->Question->Nat) (n:Nat),T t fr mid x->T t fr mid (x.re τ n)
 close:∀ {t fr mid x},(∀ τ n,∃ fr' mid' x',Steps P (lone fr (mid++tail) (x.re τ n)) (lone fr' (mid'++tail) x')/\(strict->Nd fr mid->Nd fr' mid')/\T t fr' mid' x')->T t fr mid x
section
variable {P:Program}{κ:Type}(L:Lg P κ)
theorem Lg.re_iff {t:κ}{fr:Frame}{mid:List Frame}{x:World}{τ:Nat->Question->Nat}{n:Nat}:L.T t fr mid (x.re τ n) ↔ L.T t fr mid x:=
 ⟨λh=>(show L.T t fr mid ((x.re τ n).re x.tape x.drawn) from L.re _ _ h),L.re τ n⟩
theorem Lg.move {t:κ}{fr fr':Frame}{mid:List Frame}{x:World}(h:∀ cs y,step P (lone fr cs y)=.next (lone fr' cs y)) (hd:fr.defers=[]->fr'.defers=[]) (hT:L.T t fr' mid x):L.T t fr mid x:=
 L.close λτ n=>⟨fr',mid,x.re τ n,.one (h _ _),λ_ hn=>⟨hd hn.top,hn.below⟩,L.re τ n hT⟩
theorem Lg.steps {t:κ}{fr:Frame}{mid:List Frame}{x:World}(h:∀ y τ n,x=y.re τ n->∃ fr' mid' y',Steps P (lone fr (mid++L.tail) y) (lone fr' (mid'++L.tail) y')/\(L.strict->Nd fr mid->Nd fr' mid')/\L.T t fr' mid' y'):L.T t fr mid x:=
 L.close λτ n=>h (x.re τ n) x.tape x.drawn rfl
def Lg.Arr (b:Frame) (k:List Item) (mid:List Frame):Exit->κ->Act->World->Prop
 | .normal,t,a,w=>L.T t (b.at a k) mid w
 | .exit id,t,a,w=>∃ k',exitTo id k=some k'/\L.T t (b.at a k') mid w
 | .goto l,t,a,w=>∃ k',gotoIn l k=some k'/\L.T t (b.at a k') mid w
 | .ret,t,a,w=>∀ todo,L.T t { b.at a todo with mode:=.returning } mid w
 | .panic ch,t,a,w=>∀ todo,L.T t { b.at a todo with mode:=.panicking ch } mid w
 | .outgrown,_,_,_=>False
def Cwp (c:Code) (Q:Exit->κ->Act->World->Prop) (t:κ) (a:Act) (w:World):Prop:=
 ∀ b k mid,(∀ e t' a' w',Q e t' a' w'->L.Arr b k mid e t' a' w')->L.T t (b.at a (.code c::k)) mid w
def Cops (ops:Array Oper) (Q:Exit->κ->Act->World->Prop) (l:List Nat) (t:κ) (a:Act) (w:World):Prop:=
 ∀ b k mid,(∀ e t' a' w',Q e t' a' w'->L.Arr b k mid e t' a' w')->L.T t (b.at a (.inRegion ops l::k)) mid w
def Ccalls (f:FuncId) (args:Array Value) (t:κ) (w:World) (R:Value->κ->World->Prop):Prop:=
 ∀ c mid,(∀ v t' w',R v t' w'->L.T t' (c.finish v) mid w')->L.T t (Frame.enter P f args .normal) (c::mid) w
variable {L} {Q Q':Exit->κ->Act->World->Prop}{t:κ}{a:Act}{w:World}
@[simp] theorem cwp_re {c:Code}{τ:Nat->Question->Nat}{n:Nat}:Cwp L c Q t a (w.re τ n) ↔ Cwp L c Q t a w:=
  ⟨λh b k mid hQ=>L.re_iff.1 (h b k mid hQ),λh b k mid hQ=>L.re_iff.2 (h b k mid hQ)⟩
@[simp] theorem cops_re {ops:Array Oper}{l:List Nat}{τ:Nat->Question->Nat}{n:Nat}:Cops L ops Q l t a (w.re τ n) ↔ Cops L ops Q l t a w:=
  ⟨λh b k mid hQ=>L.re_iff.1 (h b k mid hQ),λh b k mid hQ=>L.re_iff.2 (h b k mid hQ)⟩
@[simp] theorem ccalls_re {f:FuncId}{args:Array Value}{R:Value->κ->World->Prop}{τ:Nat->Question->Nat}{n:Nat}:Ccalls L f args t (w.re τ n) R ↔ Ccalls L f args t w R:=
  ⟨λh b k hQ=>L.re_iff.1 (h b k hQ),λh b k hQ=>L.re_iff.2 (h b k hQ)⟩
theorem Ccalls.mono {f:FuncId}{args:Array Value}{R R':Value->κ->World->Prop}(h:Ccalls L f args t w R) (hr:∀ v t w,R v t w->R' v t w):Ccalls L f args t w R':=λc mid hR=>h c mid λv t' w' r=>hR v t' w' (hr _ _ _ r)
theorem nd_act {b:Frame}{a a':Act}{l l':List Item}{mid:List Frame}(h:a.defers=[]->a'.defers=[]):Nd (b.at a l) mid->Nd (b.at a' l') mid:=λhn=>⟨h hn.top,hn.below⟩
theorem nd_mode {b:Frame}{a a':Act}{l l':List Item}{mid:List Frame}{m:FrameMode}(h:a.defers=[]->a'.defers=[]):Nd (b.at a l) mid->Nd { b.at a' l' with mode:=m } mid:=λhn=>⟨h hn.top,hn.below⟩
theorem Lg.code {b:Frame}{k:List Item}{mid:List Frame}{c:Code}(h:∀ K:Act->World->Prop,(∀ a' w',(L.strict->a'.defers=[])->L.T t (b.at a' k) mid w'->K a' w')->∀ (y:World) τ n,w=y.re τ n->c.wp P (Exit.then K λ_ _ _=>False) a y):L.T t (b.at a (.code c::k)) mid w:=by
 refine L.steps λy τ n hy=>?_;obtain⟨e,a',y',hq,harr⟩:=h (λa' w'=>(L.strict->a'.defers=[])/\L.T t (b.at a' k) mid w') (λ_ _ h1 h2=>⟨h1,h2⟩) y τ n hy b k (mid++L.tail);cases e with
 | normal=>exact⟨_,mid,y',harr,λz=>nd_act λ_=>hq.1 z,hq.2⟩
 | _=>exact False.elim hq
theorem eU {b:Frame}{ops:Array Oper}{i:Nat}{rest:List Nat}{k:List Item}{o:Oper}(ho:ops[i]?=some o) (v:Value):(b.at a (.inRegion ops (i::rest)::k)).finish v=b.at (a.put o.dst v) (.inRegion ops rest::k):=by
 rw[Frame.finish_at,ho];rfl
theorem eY {b:Frame}{ops:Array Oper}{i:Nat}{rest:List Nat}{k:List Item}{o:Oper}{f:FuncId}{args:Array Value}{cs:List Frame}{y y':World}(ho:ops[i]?=some o) (hw:Region.wanted o (yielded ops a.tmps)=true) (hr:(execOp a.eval o).run P y=.ok (.enter f args) y') :
  step P (lone (b.at a (.inRegion ops (i::rest)::k)) cs y)=.next (lone (Frame.enter P f args .normal) (b.at a (.inRegion ops (i::rest)::k)::cs) y'):=
 step_lone_go (by rw[stepG_op ho hw];simp[stepG.apply,hr,Frame.at])
theorem rM {b:Frame}{ops:Array Oper}{i:Nat}{rest:List Nat}{k:List Item}{o:Oper}{cs:List Frame}{y:World}{next:Act->World->Prop}{Z:Exit->Act->World->Prop}(ho:ops[i]?=some o) (hw:Region.wanted o (yielded ops a.tmps)=true) (h:o.wp P a y next Z) :
  (∃ a' w',next a' w'/\Steps P (lone (b.at a (.inRegion ops (i::rest)::k)) cs y) (lone (b.at a' (.inRegion ops rest::k)) cs w'))\/(∃ ch w',Z (.panic ch) a w'/\∃ todo,Steps P (lone (b.at a (.inRegion ops (i::rest)::k)) cs y) (lone { b.at a todo with mode:=.panicking ch } cs w'))\/LetsOut Z:=by
 have hg:=stepG_op (P:=P) (b:=b) (k:=k) (cs:=cs) (w:=y) (rest:=rest) ho hw;simp only[Oper.wp] at h;cases hr:(execOp a.eval o).run P y with
 | halt e w' =>
   rw[hr] at h;cases e with
   | panic v =>
     refine .inr (.inl ⟨_,w',h,.inRegion ops (i::rest)::k,.one (step_lone_go ?_)⟩);rw[hg,<-Frame.raise_at];simp[stepG.apply,hr]
   | _=>exact h.elim
 | ok nx w' =>
   rw[hr] at h;cases nx with
   | value v=>exact .inl ⟨_,w',h,.one (step_lone_go (by rw[hg,<-eU ho];simp[stepG.apply,hr]))⟩
   | skip=>exact .inl ⟨_,w',h,.one (step_lone_go (by rw[hg,<-eU ho];simp[stepG.apply,hr]))⟩
   | defer d =>
     refine .inl ⟨_,w',h,.one (step_lone_go ?_)⟩;rw[hg,<-eU (b:=b) (a:={ a with defers:=d::a.defers }) (rest:=rest) (k:=k) ho]
     simp[stepG.apply,hr,Frame.at]
   | enter f args =>
     obtain⟨e,w'',fr,hR,hs,_,hl⟩:=h (b.at a (.inRegion ops (i::rest)::k)::cs);have he:step P (lone (b.at a (.inRegion ops (i::rest)::k)) cs y)=_:=eY (b:=b) (k:=k) (cs:=cs) (rest:=rest) ho hw hr;cases e with
     | returned v=>exact .inl ⟨_,w'',hR,.head he (Steps.trans hs (.one ((step_leave_returned hl).trans (by rw[eU ho])))) ⟩
     | panicked ch=>exact .inr (.inl ⟨ch,w'',hR,.inRegion ops (i::rest)::k,.head he (Steps.trans hs (.one ((step_leave_panicked hl).trans (by rw[Frame.raise_at]))))⟩)
     | outgrown=>exact .inr (.inr hR)
   | row r args =>
     obtain⟨v,w'',hR,hs⟩:=h (b.at a (.inRegion ops (i::rest)::k)) cs;refine .inl ⟨_,w'',hR,.head (m₁:=lone (Frame.ofRow P r args .normal) (b.at a (.inRegion ops (i::rest)::k)::cs) w') (step_lone_go (by rw[hg];simp[stepG.apply,hr,Frame.at])) ?_⟩;rw[<-eU ho];exact hs
   | _=>exact h.elim
def Gone (P:Program) (ops:Array Oper) (b:Frame) (k:List Item) (cs:List Frame) (Z:Exit->Act->World->Prop) (rest:List Nat) (m:Machine):Prop:=
 (∃ a' w',Z .normal a' w'/\Steps P m (lone (b.at a' (.inRegion ops rest::k)) cs w'))\/(∃ ch a' w',Z (.panic ch) a' w'/\∃ todo,Steps P m (lone { b.at a' todo with mode:=.panicking ch } cs w'))\/LetsOut Z
theorem Gone.head {ops:Array Oper}{b:Frame}{k:List Item}{cs:List Frame}{Z:Exit->Act->World->Prop}{rest:List Nat}{m m':Machine}(hs:Steps P m m') (h:Gone P ops b k cs Z rest m'):Gone P ops b k cs Z rest m:=by
 rcases h with⟨a',w',h1,h2⟩ | ⟨ch,a',w',h1,todo,h2⟩ | h1
 ·exact .inl ⟨a',w',h1,hs.trans h2⟩
 ·exact .inr (.inl ⟨ch,a',w',h1,todo,hs.trans h2⟩)
 ·exact .inr (.inr h1)
theorem iT {ops:Array Oper}{b:Frame}{k:List Item}{cs:List Frame}{Z:Exit->Act->World->Prop}(rest:List Nat):∀ (l:List Nat) (a:Act) (y:World),wpOps P ops Z l a y ->
  Gone P ops b k cs Z rest (lone (b.at a (.inRegion ops (l++rest)::k)) cs y)
 | [],a,y,h=>.inl ⟨a,y,h,.refl ..⟩
 | i :: l,a,y,h=>by
   simp only[wpOps] at h;cases ho:ops[i]? with
   | none =>
     simp only[ho] at h;exact .head (.one (step_op_skip (rest:=l++rest) (by simp[ho]))) (iT rest l _ y (by simpa [ho,Act.put] using h))
   | some o =>
     simp only[ho] at h
     by_cases hw:Region.wanted o (yielded ops a.tmps)=true
     ·simp only [hw,if_true] at h
      rcases h with h | ⟨_,h⟩
      ·rcases rM (b:=b) (k:=k) (rest:=l++rest) (cs:=cs) ho hw h with⟨a1,w1,h1,h2⟩ | ⟨ch,w',h1,todo,h2⟩ | h1
       ·exact .head h2 (iT rest l a1 w1 h1)
       ·exact .inr (.inl ⟨ch,a,w',h1,todo,h2⟩)
       ·exact .inr (.inr h1)
      ·exact .inr (.inr h)
     ·simp only [hw,Bool.false_eq_true,if_false] at h
      exact .head (.one (step_op_skip (rest:=l++rest) (by simp[ho];simpa using hw))) (iT rest l _ y (by simpa [ho] using h))
theorem Lg.ops {ops:Array Oper}{b:Frame}{k:List Item}{mid:List Frame}(l rest:List Nat) (h:∀ K:Act->World->Prop,(∀ a' w',(L.strict->a'.defers=[])->L.T t (b.at a' (.inRegion ops rest::k)) mid w'->K a' w')->∀ y τ n,w=y.re τ n->wpOps P ops (Exit.then K λ_ _ _=>False) l a y) :
  L.T t (b.at a (.inRegion ops (l++rest)::k)) mid w:=by
 refine L.steps λy τ n hy=>?_
 rcases iT (b:=b) (k:=k) (cs:=mid++L.tail) rest l a y (h (λa' w'=>(L.strict->a'.defers=[])/\L.T t (b.at a' (.inRegion ops rest::k)) mid w') (λ_ _ h1 h2=>⟨h1,h2⟩) y τ n hy) with⟨a',w',⟨hd,hT⟩,hs⟩ | ⟨ch,a',w',hz,_⟩ | ⟨a',w',hz⟩
 ·exact ⟨_,mid,w',hs,λz=>nd_act λ_=>hd z,hT⟩
 ·exact hz.elim
 ·exact hz.elim
theorem pG {ops:Array Oper}{Z:Exit->Act->World->Prop}:∀ (l:List Oper) (k:Nat),(∀ j,j<l.length->l[j]?=ops[k+j]?)->wpOps P ops Z (List.range' k l.length)=wpList P ops Z l
 | [],_,_=>by funext a w;simp[wpOps,wpList]
 | o::l,k,hl=>by
   have h0:ops[k]?=some o:=by simpa using (hl 0 (by simp)).symm
   have ih:=pG (Z:=Z) l (k+1) (λj hj=>by have:=hl (j+1) (by simpa using hj);simpa [Nat.add_assoc,Nat.add_comm 1 j] using this)
   funext a y
   simp only[List.length_cons,List.range'_succ,wpOps,h0,wpList,ih]
theorem Lg.pre {ops:Array Oper}{b:Frame}{kk:List Item}{mid:List Frame}(k n m:Nat) (hsz:k+n<=ops.size) (h:∀ K:Act->World->Prop,(∀ a' w',(L.strict->a'.defers=[])->L.T t (b.at a' (.inRegion ops (List.range' (k+n) m)::kk)) mid w'->K a' w')->∀ y τ n',w=y.re τ n'->wpList P ops (Exit.then K λ_ _ _=>False) ((ops.toList.drop k).take n) a y) :
  L.T t (b.at a (.inRegion ops (List.range' k (n+m))::kk)) mid w:=by
 have hlen:((ops.toList.drop k).take n).length=n:=by simp;omega
 have e:List.range' k (n+m)=List.range' k n++List.range' (k+n) m:=by
  rw[<-List.range'_append_1]
 rw[e];refine L.ops _ _ λK hK y τ n' hy=>?_;have:=pG (P:=P) (ops:=ops) (Z:=Exit.then K λ_ _ _=>False) ((ops.toList.drop k).take n) k (λj hj=>by rw[hlen] at hj;simp[hj]);rw[hlen] at this;rw[this];exact h K hK y τ n' hy
theorem Lg.pan {ops:Array Oper}{b:Frame}{k:List Item}{mid:List Frame}{i:Nat}{rest:List Nat}{o:Oper}(ho:ops[i]?=some o) (hw:Region.wanted o (yielded ops a.tmps)=true) (ch:List PanicEntry)
  (h:∀ y τ n,w=y.re τ n->o.wp P a y (λ_ _=>False) λe a' w'=>e=.panic ch/\w'=y) (hT:∀ todo,L.T t { b.at a todo with mode:=.panicking ch } mid w):L.T t (b.at a (.inRegion ops (i::rest)::k)) mid w:=by
 refine L.steps λy τ n hy=>?_
 rcases rM (b:=b) (k:=k) (rest:=rest) (cs:=mid++L.tail) ho hw (h y τ n hy) with⟨a',w',hz,_⟩ | ⟨ch',w',⟨hz,rfl⟩,todo,hs⟩ | ⟨a',w',hz,_⟩
 ·exact hz.elim
 ·cases hz
  have:=hT todo;rw[hy] at this;exact⟨_,mid,w',hs,λ_=>nd_mode λh=>h,L.re_iff.1 this⟩
 ·cases hz
theorem Lg.leave {b fr:Frame}{mid:List Frame}{todo:List Item}{fn:Func}{v:Value}(hk:b.kind=.normal) (hf:P.funcs[b.fn]?=some fn) (hd:a.defers=[]) (hv:∀ y τ n,w=y.re τ n->(results fn a.tmps).run P y=.ok v y) (hT:L.T t (fr.finish v) mid w):L.T t { b.at a todo with mode:=.returning } (fr::mid) w:=by
 refine L.steps λy τ n hy=>⟨fr.finish v,mid,y,.one ?_,λ_ hn=>⟨?_,λg hg=>hn.below g (List.mem_cons_of_mem _ hg)⟩,?_⟩
 ·exact step_leave_returned (fr:={ b.at a todo with mode:=.returning }) (c:=fr) (cs:=mid++L.tail) ⟨rfl,hd,hk,fn,hf,hv y τ n hy⟩
 ·have:=(hn.below fr (by simp)).1
  rw[<-this];unfold Frame.finish
  split <;> rfl
 ·rw [hy] at hT
  exact L.re_iff.1 hT
def cbody (P:Program) (fn:Func) (R:Value->κ->World->Prop):Exit->κ->Act->World->Prop
 | .normal,t,a,w | .ret,t,a,w=>a.defers=[]/\∃ v,(∀ y τ n,w=y.re τ n->(results fn a.tmps).run P y=.ok v y)/\R v t w
 | _,_,_,_=>False
def Cfun (L:Lg P κ) (f:FuncId) (args:Array Value) (t:κ) (w:World) (R:Value->κ->World->Prop):Prop:=
 ∃ fn c,P.funcs[f]?=some fn/\fn.body=some c/\Cwp L c (cbody P fn R) t { tmps:=args++Array.replicate (fn.ntmps-args.size) undef,defers:=[] } w
theorem Cfun.calls {f:FuncId}{args:Array Value}{R:Value->κ->World->Prop}(h:Cfun L f args t w R):Ccalls L f args t w R:=by
 obtain⟨fn,c,hf,hb,hc⟩:=h;intro fr mid hR
 let b:Frame:={ (default:Frame) with fn:=f,kind:=.normal }
 have he:Frame.enter P f args .normal=b.at { tmps:=args++Array.replicate (fn.ntmps-args.size) undef,defers:=[] } [.code c]:=by
  simp[Frame.enter,Frame.at,hf,hb,b]
 have leave:∀ (a':Act) (t':κ) (w':World) todo,a'.defers=[]->(∃ v,(∀ y τ n,w'=y.re τ n->(results fn a'.tmps).run P y=.ok v y)/\R v t' w')->L.T t' { b.at a' todo with mode:=.returning } (fr::mid) w':=by
  rintro a' t' w' todo hd ⟨v,hv,hr⟩;refine L.steps λy τ n hy=>⟨fr.finish v,mid,y,.one ?_,λ_ hn=>⟨?_,λg hg=>hn.below g (List.mem_cons_of_mem _ hg)⟩,?_⟩
  ·exact step_leave_returned (fr:={ b.at a' todo with mode:=.returning }) (c:=fr) (cs:=mid++L.tail) ⟨rfl,hd,rfl,fn,hf,hv y τ n hy⟩
  ·have:=(hn.below fr (by simp)).1
   rw[<-this];unfold Frame.finish
   split <;> rfl
  ·have:=hR v t' w' hr
   rw[hy] at this;exact L.re_iff.1 this
 rw[he];refine hc b [] (fr::mid) λe t' a' w' q=>?_;cases e with
 | normal=>exact L.move (λ_ _=>step_end) (λh=>h) (leave a' t' w' _ q.1 q.2)
 | ret=>exact λtodo=>leave a' t' w' todo q.1 q.2
 | exit id=>exact q.elim
 | goto l=>exact q.elim
 | panic ch=>exact q.elim
 | outgrown=>exact q.elim
theorem jD {f:FuncId}{args:Array Value}{R:Value->κ->World->Prop}(h:∀ y τ n,w=y.re τ n->Calls P f args y λe w'=>∃ v,e=.returned v/\R v t w'):Ccalls L f args t w R:=by
 intro c mid hR;refine L.steps λy τ n hy=>?_;obtain⟨e,w',fr,⟨v,rfl,hr⟩,hs,_,hl⟩:=h y τ n hy (c::mid++L.tail);refine⟨c.finish v,mid,w',Steps.trans hs (.one (step_leave_returned hl)),λ_ hn=>⟨?_,λg hg=>hn.below g (List.mem_cons_of_mem _ hg)⟩,hR v t w' hr⟩;have:=(hn.below c (by simp)).1;rw[<-this];unfold Frame.finish
 split <;> rfl
end
end Go.Turn
namespace Go.Turn
open Go.Conc Go.Tame
structure Held (H:Nat->Prop) (w:World) (H':Nat->Prop) (w':World):Prop where
 size:w.heap.size<=w'.heap.size
 block:∀ b c t r,w.heap[b]?=some (.cells c t r)->¬H b->(r.2<big\/r.2%2=1)->w'.heap[b]?=some (.cells c t r)/\¬H' b
theorem Held.refl (H:Nat->Prop) (w:World):Held H w H w:=⟨Nat.le_refl _,λ_ _ _ _ h hs _=>⟨h,hs⟩⟩
theorem Held.trans {H H' H'':Nat->Prop}{w w' w'':World}(h:Held H w H' w') (k:Held H' w' H'' w''):Held H w H'' w'':=
 ⟨Nat.le_trans h.size k.size,λb c t r hb hs hr=>by
   obtain⟨h1,h2⟩:=h.block b c t r hb hs hr;exact k.block b c t r h1 h2 hr⟩
@[simp] theorem held_re {H H':Nat->Prop}{w w':World}{τ:Nat->Question->Nat}{n:Nat}:Held H w H' (w'.re τ n) ↔ Held H w H' w':=⟨λh=>⟨h.size,h.block⟩,λh=>⟨h.size,h.block⟩⟩
@[simp] theorem re_held {H H':Nat->Prop}{w w':World}{τ:Nat->Question->Nat}{n:Nat}:Held H (w.re τ n) H' w' ↔ Held H w H' w':=⟨λh=>⟨h.size,h.block⟩,λh=>⟨h.size,h.block⟩⟩
section
variable {P:Program}{S X:Type}
def ev:Tree S X->Option X
 | .ret x=>some x
 | .yield s k=>ev (k s)
 | .cut=>none
variable {e:Env P}{i:Nat}
def lgTh (hP:Prog P) (e:Env P) (i:Nat) (bot:List Frame):Lg P (Tree e.S e.S) where
 T t fr mid x:=Nd fr mid->Th e i t fr (mid++bot) x
 tail:=bot++[aV P]
 strict:=True
 re τ n h:=λhn=>(h hn).re τ n
 close h:=λhn=>kE hP λτ n=>by
  obtain⟨fr',mid',x',⟨N,hs⟩,hnd,hT⟩:=h τ n;exact⟨N,fr',mid'++bot,x',by simpa using hs,hT (hnd trivial hn)⟩
def qC (hP:Prog P) (e:Env P) (i:Nat) (bot:List Frame):Lg P (Tree e.S e.S) where
 T t fr mid x:=Th e i t fr (mid++bot) x
 tail:=bot++[aV P]
 strict:=False
 re τ n h:=h.re τ n
 close h:=kE hP λτ n=>by
  obtain⟨fr',mid',x',⟨N,hs⟩,hnd,hT⟩:=h τ n;exact⟨N,fr',mid'++bot,x',by simpa using hs,hT⟩
def lgTo (P:Program) (tail:List Frame) (GS:Frame->List Frame->World->Prop):Lg P Unit where
 T _ fr mid x:=∀ τ n,∃ fr' mid' x',Steps P (lone fr (mid++tail) (x.re τ n)) (lone fr' (mid'++tail) x')/\GS fr' mid' x'
 tail:=tail
 strict:=False
 re _ _ h:=λτ' n'=>h τ' n'
 close h:=λτ n=>by
  obtain⟨fr',mid',x',hs,_,hT⟩:=h τ n;obtain⟨fr2,mid2,x2,h1,h2⟩:=hT x'.tape x'.drawn;exact⟨fr2,mid2,x2,hs.trans h1,h2⟩
end
end Go.Turn
namespace Go.Turn
open Go.Conc Go.Tame
open Go.ConcN (upd upd_ne upd_same)
section
variable {P:Program}{e:Env P}{i:Nat}
theorem pA {w:World}{c b:Nat}{o:Obj}{cap:Nat}{buf:Array Value}{cl:Bool}{s r:Nat}{tm:Bool}(ho:w.heap[b]?=some o) (hne:c≠b):(w.setChan c cap buf cl s r tm).heap[b]?=some o:=(heap_setChan_ne w cap buf cl s r tm hne).trans ho
theorem TuAt.setChan {g:Gs}{ov br:Nat->Bool}{w:World}(h:TuAt g ov br w) {c:Nat}(hc:∀ (x:Array Value) (t:TypeId) (s:Nat × Nat),w.heap[c]?≠some (Obj.cells x t s)) (cap:Nat) (buf:Array Value) (cl:Bool) (s r:Nat) (tm:Bool):TuAt g ov br (w.setChan c cap buf cl s r tm):=by
 have key:∀ (b:Nat) (x:Array Value) (t:TypeId) (s':Nat × Nat),w.heap[b]?=some (Obj.cells x t s')->(w.setChan c cap buf cl s r tm).heap[b]?=some (Obj.cells x t s'):=λb x t s' hb=>pA hb (λe=>hc x t s' (e▸hb));obtain⟨ca,ha,ha'⟩:=h.a;obtain⟨cb,hb,hb'⟩:=h.b;exact⟨key _ _ _ _ h.v,key _ _ _ _ h.t,⟨ca,key _ _ _ _ ha,ha'⟩,λj hj=>key _ _ _ _ (h.s j hj),⟨cb,key _ _ _ _ hb,hb'⟩⟩
theorem jX {g:Gs}{w:World}(h:KT g w) {c:Nat}(h1:c≠g.tv) (h2:c≠g.tb) (h3:∀ j,j<g.n->c≠g.sb j) (cap:Nat) (buf:Array Value) (cl:Bool) (s r:Nat) (tm:Bool):KT g (w.setChan c cap buf cl s r tm):=by
 have key:∀ a:Addr,c≠a.block->(w.setChan c cap buf cl s r tm).cell? a=w.cell? a:=λa ha=>World.cell?_of_block (heap_setChan_ne w cap buf cl s r tm ha);exact⟨(key _ h1).trans h.v,(key _ h2).trans h.t,λj hj=>(key _ (h3 j hj)).trans (h.s j hj)⟩
theorem oQ {N:Nat}{Inb:Nat->Option Seat}{h:Nat}{gs:Array Goroutine}{T:Trace}{d:Wd}{ov br:Nat->Bool}(hB:Base e N Inb h gs T d ov br) {c:Nat}(hc:iK e.g c):c≠e.g.tv/\c≠e.g.tb/\∀ j,j<e.g.n->c≠e.g.sb j:=by
 obtain⟨k,hk⟩:=hB.chn c hc;refine⟨λz=>?_,λz=>?_,λj hj z=>?_⟩
 ·rw [z,hB.tu.v] at hk;cases hk
 ·rw [z,hB.tu.t] at hk;cases hk
 ·rw [z,hB.tu.s j hj] at hk;cases hk
theorem rG {N:Nat}{Inb:Nat->Option Seat}{h:Nat}{gs:Array Goroutine}{T:Trace}{d:Wd}{ov br:Nat->Bool}(hB:Base e N Inb h gs T d ov br) {x:Nat}{s:Seat}{c:Nat}(hx:Inb x=some s) (hc:s.has c):(x=0/\c=e.g.bk)\/∃ j,j<e.g.n/\x=e.b+j/\c=e.g.ps j:=by
 rcases hB.shp x s hx with⟨h0,H,rfl⟩ | ⟨j,H,hj,hxj,rfl⟩
 ·exact .inl ⟨h0,Seat.one_has.1 hc⟩
 ·exact .inr ⟨j,hj,hxj,Seat.one_has.1 hc⟩
theorem mQ {d:Wd}{x:World}(hl:Like (fast (meW i) d) x d.w) {b:Nat}{c:Array Value}{t:TypeId}{r:Nat × Nat}(hx:x.heap[b]?=some (.cells c t r)) (hr:r.2<big):meW i (d.own b)=true/\d.w.heap[b]?=some (.cells c t r):=by
 have hb:=hl.blk b;cases hg:(fast (meW i) d).rng b with
 | none =>
   rw[hg] at hb
   rcases hb with⟨h1,_,_⟩ | ⟨_,_,_,_,h1⟩
   ·rw [hx] at h1
    refine⟨?_,h1.symm⟩;cases hm:meW i (d.own b) with
    | true=>rfl
    | false=>rw[gI hm h1.symm] at hg;cases hg
   ·rw [hx] at h1;cases h1
 | some r' =>
   rw[hg] at hb;obtain⟨c',t',s',h1,h2,_⟩:=hb;obtain⟨_,c2,t2,s2,_,h3⟩:=qN hg;rw[hx] at h1;cases h1;rw[h3] at hr;simp only at hr
   omega
theorem odd_ro {d:Wd}{x:World}(hl:Like (fast (meW i) d) x d.w) {b:Nat}{c:Array Value}{t:TypeId}{r:Nat × Nat}(hx:x.heap[b]?=some (.cells c t r)) (hr:¬r.2<big) (ho:r.2%2=1) (hm:meW i (d.own b)=false):d.own b=.ro/\∃ s,d.w.heap[b]?=some (.cells c t s)/\r=(0,2*max (max s.2 c.size) big+1):=by
 have hb:=hl.blk b;cases hg:(fast (meW i) d).rng b with
 | none =>
   rw[hg] at hb
   rcases hb with⟨h1,_,_⟩ | ⟨_,_,_,_,h1⟩
   ·rw [hx] at h1
    rw[gI hm h1.symm] at hg;cases hg
   ·rw [hx] at h1;cases h1
 | some r' =>
   rw[hg] at hb;obtain⟨c',t',s',h1,h2,_⟩:=hb;rw[hx] at h1;cases h1;rw[gI hm h2] at hg;cases hg
   by_cases h3:d.own b=.ro
   ·exact ⟨h3,s',h2,by simp[h3]⟩
   ·simp only [h3,if_false] at ho
    omega
noncomputable def lab (i:Nat) (H:Nat->Prop) (d:Wd) (b:Nat):Ow:=
 open Classical in if b<d.w.heap.size/\meW i (d.own b)=false then d.own b else if H b then .sh else .wk i
theorem th_yield {fr fr2:Frame}{mid mid2:List Frame}{x:World}{s:e.S}{H₀:Nat->Prop}{k:e.S->Tree e.S e.S}{n:Nat}{z:Value}(hrep:e.Rep s H₀ x)
  (hsend:∀ (main:Bool) w,stepG P main (G fr mid) w=.comm (G fr mid) #[scase e.g.bk (.agg #[]) z] true .send w #[])
  (hway:∀ B,e.g.tv<B->e.g.tb<B->(∀ j,j<e.g.n->e.g.sb j<B)->Sits P false (KT e.g) (Still e.g) B (dX e.g i (·=G fr2 mid2)) n (G (fr.finish undef) mid))
  (hinv:Inv P fr mid->∀ v,Inv P (fr2.finish v) mid2)
  (hgo:∀ σ H' x',e.Rep σ H' x'->Held H₀ x H' x'->Th e i (k σ) (fr2.finish (.bool true)) mid2 x')
  (hout:∀ σ H' x',e.Rep σ H' x'->Held H₀ x H' x'->Th e i (.ret σ) (fr2.finish (.bool false)) mid2 x'):Th e i (.yield s k) fr mid x:=by
 intro d hl hb hI;intro N Inb H gs sl T ov br hB ha h0 hin ho hN;have h2:=hN (G fr2 mid2);have hpos:=e.pos;obtain⟨B,q,C⟩:=hB.cfg;have C:=kK (Nat.le_max_left B d.w.heap.size) C;have hch:iK e.g (e.g.ps i):=.inr ⟨i,hin,rfl⟩;obtain⟨kc,hkc⟩:=hB.chn _ hch;have hlt:∀ {b:Nat}{o:Obj},d.w.heap[b]?=some o->b<max B d.w.heap.size:=λh=>Nat.lt_of_lt_of_le (aB h) (Nat.le_max_right _ _);have hM:gA Inb (e.b+i) (e.b+i):=.inr rfl
 have C2:=C.reseat hM (dX e.g i (·=G fr2 mid2)) (Seat.one_wf _ _ _ _) (λx' s' c hx hs hc hc'=>by
   rw[Seat.one_has.1 hc'] at hc
   rcases rG hB hs hc with⟨_,h1⟩ | ⟨j,hj,rfl,h1⟩
   ·exact e.apart i hin h1
   ·exact hx (by rw[e.inj i j hin hj h1])) (λc hc=>by rw[Seat.one_has.1 hc];exact⟨0,kc,hkc⟩) (λc hc=>by rw[Seat.one_has.1 hc];exact hlt hkc)
 have hne:(e.b+i)≠0:=by omega
 have hj:upd Inb (e.b+i) (some (dX e.g i (·=G fr2 mid2))) 0=some (bF e.g H):=by rw[upd_ne _ _ (λz=>hne z.symm)];exact h0
 have hshp:∀ x' s',upd Inb (e.b+i) (some (dX e.g i (·=G fr2 mid2))) x'=some s'->(x'=0/\∃ H,s'=bF e.g H)\/∃ j H,j<e.g.n/\x'=e.b+j/\s'=dX e.g j H:=by
  intro x' s' hx
  by_cases ex:x'=e.b+i
  ·subst ex
   rw[upd_same] at hx;cases hx;exact .inr ⟨i,_,hin,rfl,rfl⟩
  ·rw [upd_ne _ _ ex] at hx
   exact hB.shp x' s' hx
 have hKc:∀ (w:World) (i':Nat) (s':Seat) (c cap:Nat) (buf:Array Value) (cl:Bool) (a b:Nat) (tm:Bool),upd Inb (e.b+i) (some (dX e.g i (·=G fr2 mid2))) i'=some s'->s'.has c->KT e.g w->KT e.g (w.setChan c cap buf cl a b tm):=by
  intro w i' s' c cap buf cl a b tm hs hc hK
  have hc':iK e.g c:=by
   rcases hshp i' s' hs with⟨_,H',rfl⟩ | ⟨j,H',hj,_,rfl⟩
   ·exact .inl (Seat.one_has.1 hc)
   ·exact .inr ⟨j,hj,Seat.one_has.1 hc⟩
  obtain⟨h1,h2,h3⟩:=oQ hB hc';exact jX hK h1 h2 h3 ..
 have hbelow:e.g.tv<max B d.w.heap.size/\e.g.tb<max B d.w.heap.size/\∀ j,j<e.g.n->e.g.sb j<max B d.w.heap.size:=⟨hlt hB.tu.v,hlt hB.tu.t,λj hj=>hlt (hB.tu.s j hj)⟩
 have h0lt:0<gs.size:=by
  have:=(Array.getElem?_eq_some_iff.1 ha).1
  omega
 obtain ⟨NN,m',T',hr,gs',g₂,dd,kk,cap,sl',q',rfl,hsz',hg0,hHome,hchan,R⟩:=give (sl:=sl) (Inb':=upd Inb (e.b+i) (some (dX e.g i (·=G fr2 mid2)))) (nh:=n) (kk:=0) (z:=.agg #[]) (z':=z) (v:=.agg #[]) (es:=#[]) (a₂:=G fr mid)
  (fun w d h=>⟨h.v,h.t,h.s⟩) hKc (λz=>hne z.symm) h0lt hj rfl hM ha rfl (λdd=>hsend _ _) (by simp) C2 (λ_ _=>rfl) (.inl rfl) (λT' _=>by
    rw[upd_same];have:((e.b+i)==0)=false:=by simp;omega
    show Sits P ((e.b+i)==0) _ _ _ _ _ _
    rw[this];exact hway _ hbelow.1 hbelow.2.1 hbelow.2.2)
 refine Ends.run hr ?_;have hbk:iK e.g e.g.bk:=.inl rfl;obtain⟨kb,hkb⟩:=hB.chn _ hbk;rw[hkb] at hchan;cases hchan;have hself:∀ b,meW i (d.own b)=true->e.g.bk≠b:=λb hm hz=>by rw[<-hz,hb.c _ hbk] at hm;cases hm
 let W':World:=(d.w.at dd).setChan e.g.bk 0 #[] false (kk+1) (kk+1) false
 have hW:∀ b,e.g.bk≠b->W'.heap[b]?=d.w.heap[b]?:=λb hne=>heap_setChan_ne (d.w.at dd) 0 #[] false (kk+1) (kk+1) false hne;have hWs:W'.heap.size=d.w.heap.size:=size_setChan ..
 have hme:∀ b,meW i (d.own b)=true ↔ d.own b=.wk i\/d.own b=.sh:=by
  intro b;cases d.own b <;> simp[meW]
 have hlabf:∀ b,b<d.w.heap.size->meW i (d.own b)=false->lab i H₀ d b=d.own b:=λb h1 h2=>by simp[lab,h1,h2]
 have hlabt:∀ b,(b<d.w.heap.size->meW i (d.own b)=true)->lab i H₀ d b=.wk i\/lab i H₀ d b=.sh:=λb h1=>by
  have:¬(b<d.w.heap.size/\meW i (d.own b)=false):=λ⟨h2,h3⟩=>by rw[h1 h2] at h3;cases h3
  unfold lab;rw[if_neg this]
  split
  ·exact .inr rfl
  ·exact .inl rfl
 have hlabw:∀ b,lab i H₀ d b=.wk i->¬H₀ b\/(d.own b=.wk i/\meW i (d.own b)=false):=λb h=>by
  unfold lab at h
  split at h
  ·rename_i h1;exact .inr ⟨h,h1.2⟩
  ·split at h
   ·cases h
   ·rename_i h2;exact .inl h2
 have hshnear:∀ b,H₀ b->meW i (d.own b)=true/\d.w.heap[b]?=x.heap[b]?/\b<d.w.heap.size:=λb hs=>by
  obtain⟨c,t,r,h1,h3⟩:=e.near s H₀ x b hrep hs;obtain⟨h4,h5⟩:=mQ hl h1 h3;exact⟨h4,h5.trans h1.symm,aB h5⟩
 have hlabs:∀ b,lab i H₀ d b=.sh ↔ H₀ b:=λb=>by
  constructor
  ·intro h
   unfold lab at h
   split at h
   ·rename_i h1
    rw[h] at h1;cases h1.2
   ·split at h
    ·assumption
    ·cases h
  ·intro h
   obtain⟨h1,_,_⟩:=hshnear b h;unfold lab;rw[if_neg (by rw[h1];simp),if_pos h]
 have htu:∀ b,d.own b=.tu->b<d.w.heap.size->lab i H₀ d b=.tu:=λb h1 h2=>by rw[hlabf b h2 (by rw[h1];rfl),h1]
 have hbase:Base e N (upd Inb (e.b+i) (some (dX e.g i (·=G fr2 mid2)))) 0 gs' T' ⟨W',lab i H₀ d⟩ ov br:=by
  refine⟨⟨max B d.w.heap.size,q',?_⟩,hsz'.trans hB.size,λx' s' hx=>?_,?_,?_,λb h=>(hW b (λz=>by have:=hb.c _ hbk;rw[z,hb.ro b h] at this;cases this)).trans (hB.rbl b h),?_,hshp,hB.io⟩
  ·have hmem:(λg=>gA Inb (e.b+i) g/\(upd Inb (e.b+i) (some (dX e.g i (·=G fr2 mid2))) g≠none\/g=0))=gA (upd Inb (e.b+i) (some (dX e.g i (·=G fr2 mid2)))) 0:=by
    funext g
    apply propext;refine⟨λh=>h.2,λh=>⟨?_,h⟩⟩
    by_cases eg:g=e.b+i
    ·exact .inr eg
    ·rcases h with h | rfl
     ·rw [upd_ne _ _ eg] at h;exact .inl h
     ·exact .inl (by rw[h0];simp)
   rw[<-hmem];exact R
  ·by_cases ex:x'=e.b+i
   ·rw [ex,<-hB.size];exact(Array.getElem?_eq_some_iff.1 ha).1
   ·rw [upd_ne _ _ ex] at hx;exact hB.lt x' s' hx
  ·exact TuAt.setChan (w:=d.w.at dd) ⟨hB.tu.v,hB.tu.t,hB.tu.a,hB.tu.s,hB.tu.b⟩ (λx t s' h=>by rw[show (d.w.at dd).heap[e.g.bk]?=_ from hkb] at h;cases h) ..
  ·obtain ⟨_,h1,_⟩:=hB.tu.a
   obtain⟨_,h3,_⟩:=hB.tu.b;exact⟨λb h=>(hlabf b (aB (hB.rbl b h)) (by rw[hb.ro b h];rfl)).trans (hb.ro b h),htu _ hb.v (aB hB.tu.v),htu _ hb.t (aB hB.tu.t),htu _ hb.a (aB h1),λj hj=>htu _ (hb.s j hj) (aB (hB.tu.s j hj)),htu _ hb.b (aB h3),λc hc=>by obtain⟨k',hk'⟩:=hB.chn c hc;exact htu _ (hb.c c hc) (aB hk')⟩
  ·intro c hc
   by_cases ec:e.g.bk=c
   ·subst ec
    exact⟨kk+1,heap_setChan _ _ _ _ _ _ _ _ (aB hkb)⟩
   ·obtain ⟨k',hk'⟩:=hB.chn c hc
    exact⟨k',(hW c ec).trans hk'⟩
 refine h2 ⟨W',lab i H₀ d⟩ gs' sl' T' g₂ br hbase ?_ hHome ?_ ⟨⟨H₀,?_,hlabs⟩,?_⟩
 ·rw [hg0]
  show _=some (Go.Conc.served g₂ (recvd false (.agg #[]) true))
  rw[<-commResult_one]
  rfl
 ·refine ⟨by rw[hWs];exact Nat.le_refl _,λb hlt h1 h2=>?_,λb hlt h1=>?_,λb hge=>?_,λb hlt h1 h2 h3=>?_⟩
  ·exact hlabf b hlt (by
    cases hm:meW i (d.own b) with
    | false=>rfl
    | true=>exact absurd ((hme b).1 hm) (by simp[h1,h2]))
  ·exact hlabt b λ_=>(hme b).2 h1
  ·exact hlabt b λh=>by omega
  ·exact hW b λh=>h3 (by rw[<-h];exact hb.c _ hbk)
 ·exact e.rep s H₀ x W' hrep (λb hs=>by
   obtain⟨h1,h2,_⟩:=hshnear b hs
   exact(hW b (hself b h1)).trans h2) λb c t r hrb hx=>by
   obtain⟨s',h3⟩:=qX hl hx;exact⟨s',(hW b (λz=>by have:=hb.c _ hbk;rw[z,hb.ro b hrb] at this;cases this)).trans h3⟩
 ·rintro d'' σ hres hlb ⟨H₁,hreal⟩
-- an own block,as it lay
  have hown:∀ b,b<d''.w.heap.size->d''.own b=.wk i->b<d.w.heap.size/\meW i (d.own b)=true/\d''.w.heap[b]?=d.w.heap[b]?/\¬H₀ b:=λb hbl hb'=>by
   obtain⟨h1,h3⟩:=hres.new b hbl hb';rw[show (⟨W',lab i H₀ d⟩:Wd).w.heap.size=d.w.heap.size from hWs] at h1;have h3:lab i H₀ d b=.wk i:=h3
   have hm:meW i (d.own b)=true:=by
    cases hm:meW i (d.own b) with
    | true=>rfl
    | false =>
      rw[hlabf b h1 hm] at h3;rw[h3] at hm
      simp[meW] at hm
   have h4:=(hres.keep b (by show b<W'.heap.size;rw[hWs];exact h1) (.inl h3)).2;refine⟨h1,hm,h4.trans (hW b (hself b hm)),?_⟩
   rcases hlabw b h3 with h5 | ⟨_,h5⟩
   ·exact h5
   ·rw [hm] at h5;cases h5
  have hme':∀ b,meW i (d''.own b)=true ↔ d''.own b=.wk i\/d''.own b=.sh:=by
   intro b;cases d''.own b <;> simp[meW]
  have hclear:mG (meW i) d'':=by
   intro b o hm hobj
   rcases(hme' b).1 hm with h1 | h1
   ·obtain ⟨h3,h4,h5,_⟩:=hown b (aB hobj) h1
    rw[h5] at hobj;have hb':=hl.blk b;have hr:(fast (meW i) d).rng b=none:=by simp[fast,h4]
    rw[hr] at hb'
    rcases hb' with⟨h6,h7,_⟩ | ⟨h6,_⟩
    ·exact h7 o (h6.trans hobj)
    ·exact absurd h6.1 (by rw[h4];simp)
   ·obtain ⟨c,t,r,h3,_⟩:=e.near σ H₁ d''.w b hreal.1 ((hreal.2 b).1 h1)
    rw[h3] at hobj;cases hobj
    trivial
  have hvl:=dY hclear
  have hrep':e.Rep σ H₁ (eQ (meW i) d''):=e.rep σ H₁ d''.w _ hreal.1 (λb hs=>by
   have h1:=(hreal.2 b).2 hs;have h2:meW i (d''.own b)=true:=(hme' b).2 (.inr h1);simp only[eQ,Array.getElem?_mapIdx,h2,if_true];cases d''.w.heap[b]? <;> rfl) λb c t r _ hx=>jQ hx
  have hheld : Held H₀ x H₁ (eQ (meW i) d''):=by
   refine⟨?_,λb c t r hx hs hr=>?_⟩
   ·rw [hl.size,hvl.size,<-hWs];exact hres.size
   ·cases hm:meW i (d.own b) with
    | true =>
      have hr0:(fast (meW i) d).rng b=none:=by simp[fast,hm]
      have hb':=hl.blk b;rw[hr0] at hb'
      have h1:d.w.heap[b]?=some (.cells c t r):=by
       rcases hb' with⟨h1,_,_⟩ | ⟨h1,_⟩
       ·exact h1.symm.trans hx
       ·exact absurd h1.1 (by rw[hm];simp)
      have h3:lab i H₀ d b=.wk i:=by
       rcases hlabt b λ_=>hm with h | h
       ·exact h
       ·exact absurd ((hlabs b).1 h) hs
      obtain⟨h4,h5⟩:=hres.keep b (by show b<W'.heap.size;rw[hWs];exact aB h1) (.inl h3);have h4:d''.own b=.wk i:=h4.trans h3;have h5:d''.w.heap[b]?=some (.cells c t r):=h5.trans ((hW b (hself b hm)).trans h1);refine⟨?_,λh=>?_⟩
      ·simp [eQ,h5,h4,meW]
      ·have:=(hreal.2 b).2 h
       rw[h4] at this;cases this
    | false =>
      rcases Classical.em (r.2<big) with hr' | hr'
      ·have:=(mQ hl hx hr').1
       rw[hm] at this;cases this
      ·obtain ⟨h1,s',h3,h4⟩:=odd_ro hl hx hr' (hr.resolve_left hr') hm
       have hlab:lab i H₀ d b=.ro:=by rw[hlabf b (aB h3) hm,h1]
       obtain⟨h5,h6⟩:=hres.keep b (by show b<W'.heap.size;rw[hWs];exact aB h3) (.inr hlab);have h5:d''.own b=.ro:=h5.trans hlab;have h6:d''.w.heap[b]?=some (.cells c t s'):=h6.trans ((hW b (λz=>by rw[<-z,hb.c _ hbk] at h1;cases h1)).trans h3);refine⟨?_,λh=>?_⟩
       ·simp [eQ,h6,h5,meW,h4]
       ·have:=(hreal.2 b).2 h
        rw[h5] at this;cases this
  exact⟨hgo σ H₁ _ hrep' hheld d'' hvl hlb (hinv hI _),hout σ H₁ _ hrep' hheld d'' hvl hlb (hinv hI _)⟩
end
end Go.Turn
namespace Go.Turn
open Go.Conc Go.Tame
open Go.ConcN (upd upd_ne upd_same)
section
variable {P:Program}{e:Env P}{i:Nat}
structure Tv (g:Gs) (ov br:Nat->Bool) (x:World):Prop where
 v:x.cell? ⟨g.tv,0,none⟩=some (.pointer (some ⟨g.tb,0,none⟩))
 t0:x.cell? ⟨g.tb,0,none⟩=some (.chan (some g.bk))
 t1:x.cell? ⟨g.tb,1,none⟩=some (.slice (some ⟨g.ab,0,none⟩) g.n g.cap)
 t2:x.cell? ⟨g.tb,2,none⟩=some (.slice (some ⟨g.rb,0,none⟩) g.n g.n)
 a:∀ i,i<g.n->x.cell? ⟨g.ab,i,none⟩=some (.pointer (some ⟨g.sb i,0,none⟩))
 s0:∀ i,i<g.n->x.cell? ⟨g.sb i,0,none⟩=some (.pointer (some ⟨g.tb,0,none⟩))
 s1:∀ i,i<g.n->x.cell? ⟨g.sb i,1,none⟩=some (.chan (some (g.ps i)))
 s2:∀ i,i<g.n->x.cell? ⟨g.sb i,2,none⟩=some (.bool (ov i))
 b:∀ i,i<g.n->x.cell? ⟨g.rb,i,none⟩=some (.bool (br i))
theorem TuAt.tv' {g:Gs}{ov br:Nat->Bool}{w:World}(h:TuAt g ov br w):Tv g ov br w:=by
 obtain⟨ca,ha,ha'⟩:=h.a;obtain⟨cb,hb,_,hb'⟩:=h.b;exact⟨by simp[World.cell?,h.v],by simp[World.cell?,h.t],by simp[World.cell?,h.t],by simp[World.cell?,h.t],λi hi=>by simp[World.cell?,ha,ha' i hi],λi hi=>by simp[World.cell?,h.s i hi],λi hi=>by simp[World.cell?,h.s i hi],λi hi=>by simp[World.cell?,h.s i hi],λi hi=>by simp[World.cell?,hb,hb' i hi]⟩
theorem Tv.like {g:Gs}{ov br:Nat->Bool}{F:Fast}{x w:World}(h:Tv g ov br w) (hl:Like F x w):Tv g ov br x:=
 ⟨(hl.cell _).trans h.v,(hl.cell _).trans h.t0,(hl.cell _).trans h.t1,(hl.cell _).trans h.t2,λi hi=>(hl.cell _).trans (h.a i hi),λi hi=>(hl.cell _).trans (h.s0 i hi),λi hi=>(hl.cell _).trans (h.s1 i hi),λi hi=>(hl.cell _).trans (h.s2 i hi),λi hi=>(hl.cell _).trans (h.b i hi)⟩
theorem th_tu {κ:Tree e.S e.S}{fr:Frame}{mid:List Frame}{x:World}(h:∀ ov br,Tv e.g ov br x->i<e.g.n->Inv P fr mid->(∀ b,e.RB b->b<x.heap.size)->Th e i κ fr mid x):Th e i κ fr mid x:=by
 intro d hl hb hI;rw[mT];intro N Inb H gs sl T ov br hB ha hm hin ho hN;have:=h ov br (hB.tu.tv'.like hl) hin hI (λb h=>by rw[hl.size];exact aB (hB.rbl b h)) d hl hb hI;rw[mT] at this;exact this N Inb H gs sl T ov br hB ha hm hin ho hN
theorem step_pop {fr c:Frame}{cs:List Frame}{y:World}{ch:List PanicEntry}(hm:fr.mode=.panicking ch) (hd:fr.defers=[]) (hf:FrOk P fr):step P (lone fr (c::cs) y)=.next (lone (c.raise ch) cs y):=by
 have hc:fr.catches P=false:=by
  unfold Frame.catches
  split
  ·rename_i h
   have:=hf.todo (.call _ _ _ _) (by rw[h];exact List.mem_cons_self ..);exact this.elim
  ·rfl
 exact step_lone_go (by simp[stepG,unwind,hm,hd,hc])
theorem pop_all {botR:Frame}{rest:List Frame}{ch:List PanicEntry}{y:World}:∀ (mid:List Frame) (fr:Frame),fr.mode=.panicking ch->fr.defers=[]->(∀ f∈mid,f.defers=[]/\f.mode=.run)->Inv P fr (mid++botR::rest)->Steps P (lone fr (mid++botR::(rest++[aV P])) y) (lone (botR.raise ch) (rest++[aV P]) y)
 | [],fr,hm,hd,_,hI=>.one (step_pop hm hd hI.fr)
 | c :: mid,fr,hm,hd,hb,hI=>by
   have h1:=hb c (List.mem_cons_self ..)
   have hc:c.raise ch={ c with mode:=.panicking ch }:=by
    unfold Frame.raise;rw[h1.2]
   refine .head (step_pop hm hd hI.fr) ?_;have hI':Inv P c (mid++botR::rest):=hI.2;exact pop_all mid (c.raise ch) (by rw[hc]) (by rw[hc];exact h1.1) (λf hf=>hb f (List.mem_cons_of_mem _ hf)) (hI'.on (kP c ch))
theorem kep_rng {F:Fast}{w w':World}(h:Kep F w w') {b m:Nat}{c:Array Value}{t:TypeId}{s:Nat × Nat}(hr:F.rng b=some (0,m)) (ho:w.heap[b]?=some (.cells c t s)) (hm:c.size<=m):w'.heap[b]?=some (.cells c t s):=by
 obtain⟨c',h1,h2⟩:=h.row b c t s ho;rw[h1]
 have : c'=c:=by
  apply Array.ext_getElem?;intro j
  by_cases hj:j<c.size
  ·have:=h.cell ⟨b,j,none⟩ ⟨_,hr,Nat.zero_le _,by simp only;omega⟩
   simpa [World.cell?,h1,ho] using this
  ·rw [Array.getElem?_eq_none (by omega),Array.getElem?_eq_none (by omega)]
 rw[this]
structure Eff (e:Env P) (i:Nat) (H:Nat->Prop) (x x':World):Prop where
 over:x'.cell? ⟨e.g.sb i,2,none⟩=some (.bool true)
 broken:∃ z:Bool,x'.cell? ⟨e.g.rb,i,none⟩=some (.bool z)
 others:∀ j,j≠i->x'.cell? ⟨e.g.rb,j,none⟩=x.cell? ⟨e.g.rb,j,none⟩
 sh:∀ b,H b->x'.heap[b]?=x.heap[b]?
def eJ (e:Env P) (i:Nat) (d:Wd):Fast where
 rng b:=if b=e.g.sb i then some (0,2) else if b=e.g.rb then none else(fast (meW i) d).rng b
 hid:=(fast (meW i) d).hid
theorem TuAt.apart {g:Gs}{ov br:Nat->Bool}{w:World}(h:TuAt g ov br w) {i:Nat}(hi:i<g.n) (hinj:∀ i j,i<g.n->j<g.n->g.ps i=g.ps j->i=j) :
  g.rb≠g.tv/\g.rb≠g.tb/\g.rb≠g.ab/\(∀ j,j<g.n->g.rb≠g.sb j)/\g.sb i≠g.tv/\g.sb i≠g.tb/\g.sb i≠g.ab/\∀ j,j<g.n->j≠i->g.sb j≠g.sb i:=by
 have T:=h.tv';have hb:=T.b 0 (by omega)
 have n1:g.sb i≠g.tb:=λz=>by
  have:=T.s0 i hi;rw[z,T.t0] at this;cases this
 refine⟨λz=>?_,λz=>?_,λz=>?_,λj hj z=>?_,λz=>?_,n1,λz=>?_,λj hj hne z=>?_⟩
 ·rw [z,T.v] at hb;cases hb
 ·rw [z,T.t0] at hb;cases hb
 ·rw [z,T.a 0 (by omega)] at hb;cases hb
 ·rw [z,T.s0 j hj] at hb;cases hb
 ·have h1:=h.s i hi
  rw[z,h.v] at h1
  simp at h1
 ·have h1:=T.s0 i hi
  rw[z,T.a 0 (by omega)] at h1;simp only[Option.some.injEq,Value.pointer.injEq,Addr.mk.injEq] at h1;have h2:=T.s0 0 (by omega);rw[h1.1,T.t0] at h2;cases h2
 ·have h1:=T.s1 j hj
  rw[z,T.s1 i hi] at h1;simp only[Option.some.injEq,Value.chan.injEq] at h1;exact hne (hinj j i hj hi h1.symm)
def Fin (P:Program) (g:Gs) (f:Frame) (m:List Frame):Prop:=
 ∃ n z,(∀ (main:Bool) w,stepG P main (G f m) w=.comm (G f m) #[scase g.bk (.agg #[]) z] true .send w #[])/\QuitsD P n 0 (G (f.finish undef) m)
theorem th_end (hP:Prog P) {fr:Frame}{mid:List Frame}{x:World}{s:e.S}{H₀:Nat->Prop}(hrep:e.Rep s H₀ x)
  (hwalk : ∀ ov br x',Tv e.g ov br x'->i<e.g.n->x'.frozen? ⟨e.g.sb i,2,none⟩=false->(∀ j,x'.frozen? ⟨e.g.rb,j,none⟩=false)->(∀ (b:Nat) (c:Array Value) (t:TypeId) (r:Nat × Nat),x.heap[b]?=some (Obj.cells c t r)->r.2<big->x'.heap[b]?=x.heap[b]?)->¬H₀ (e.g.sb i)->¬H₀ e.g.rb ->
    ∀ τ m,∃ fr2 mid2 x'',Steps P (lone fr (mid++[aV P]) (x'.re τ m)) (lone fr2 (mid2++[aV P]) x'')/\Fin P e.g fr2 mid2/\Eff e i H₀ x' x''):Th e i (.ret s) fr mid x:=by
 intro d hl hb hI;intro N Inb H gs sl T ov br hB ha h0 hin ho hN;have hpos:=e.pos;obtain⟨r1,r2,r3,r4,s1,s2,s3,s4⟩:=hB.tu.apart hin e.inj;obtain⟨cb,hrb,hrbn,hrb'⟩:=hB.tu.b;obtain⟨ca,hab,hab'⟩:=hB.tu.a;have hsb:=hB.tu.s i hin;have hmt:∀ b,d.own b=.tu->meW i (d.own b)=false:=λb h=>by rw[h];rfl
 let x':World:={ x with heap:=(x.heap.setIfInBounds (e.g.sb i) (.cells #[.pointer (some ⟨e.g.tb,0,none⟩),.chan (some (e.g.ps i)),.bool (ov i)] e.g.tS (0,2))).setIfInBounds e.g.rb (.cells cb e.g.tB (0,0)) }
 have xo:∀ b,b≠e.g.sb i->b≠e.g.rb->x'.heap[b]?=x.heap[b]?:=λb h1 h2=>by
  simp only[x'];rw[Array.getElem?_setIfInBounds_ne (λz=>h2 z.symm),Array.getElem?_setIfInBounds_ne (λz=>h1 z.symm)]
 have hsz:x.heap.size=d.w.heap.size:=hl.size
 have xs:x'.heap[e.g.sb i]?=some (.cells #[.pointer (some ⟨e.g.tb,0,none⟩),.chan (some (e.g.ps i)),.bool (ov i)] e.g.tS (0,2)):=by
  simp only[x'];rw[Array.getElem?_setIfInBounds_ne (r4 i hin),Array.getElem?_setIfInBounds_self_of_lt (by rw[hsz];exact aB hsb)]
 have xr:x'.heap[e.g.rb]?=some (.cells cb e.g.tB (0,0)):=by
  simp only[x'];rw[Array.getElem?_setIfInBounds_self_of_lt (by simp;rw[hsz];exact aB hrb)]
 have hl':Like (eJ e i d) x' d.w:=by
  refine⟨by simp[x',hsz],hl.os,hl.output,λb=>?_⟩
  by_cases e1:b=e.g.sb i
  ·subst e1
   have:(eJ e i d).rng (e.g.sb i)=some (0,2):=by simp[eJ]
   rw[this];exact⟨_,_,(0,0),xs,hsb,λj hj=>by omega⟩
  ·by_cases e2:b=e.g.rb
   ·subst e2
    have:(eJ e i d).rng e.g.rb=none:=by simp[eJ,e1]
    rw[this];refine .inl ⟨xr.trans hrb.symm,λh hh=>?_,λ⟨_,o,h1,h2⟩=>?_⟩
    ·rw [xr] at hh;cases hh;trivial
    ·rw [hrb] at h1;cases h1;exact h2
   ·have : (eJ e i d).rng b=(fast (meW i) d).rng b:=by simp[eJ,e1,e2]
    rw[this,xo b e1 e2];exact hl.blk b
 have hrng:∀ b,b≠e.g.sb i->b≠e.g.rb->(eJ e i d).rng b=(fast (meW i) d).rng b:=λb h1 h2=>by simp[eJ,h1,h2]
 have hhas:∀ {b:Nat}{c:Array Value}{t:TypeId}{s':Nat × Nat},b≠e.g.sb i->b≠e.g.rb->meW i (d.own b)=false->d.w.heap[b]?=some (.cells c t s')->∃ m,(eJ e i d).rng b=some (0,m)/\c.size<=m:=by
  intro b c t s' h1 h2 h3 h4;refine⟨_,(hrng b h1 h2).trans (gI h3 h4),?_⟩
  omega
 have hkep:∀ {w':World},Kep (eJ e i d) d.w w'->∀ {b:Nat}{o:Obj},b≠e.g.sb i->b≠e.g.rb->meW i (d.own b)=false->d.w.heap[b]?=some o->w'.heap[b]?=some o:=by
  intro w' hk b o h1 h2 h3 h4
  rcases kZ o with⟨c,t,s',rfl⟩ | hn
  ·obtain ⟨m,h5,h6⟩:=hhas h1 h2 h3 h4
   exact kep_rng hk h5 h4 h6
  ·exact hk.obj b o h4 hn
 have hv:(eJ e i d).has ⟨e.g.tv,0,none⟩:=by
  obtain⟨m,h1,h2⟩:=hhas (λz=>s1 z.symm) (λz=>r1 z.symm) (hmt _ hb.v) hB.tu.v;exact⟨_,h1,Nat.zero_le _,by simp at h2;simp only;omega⟩
 have ht:(eJ e i d).has ⟨e.g.tb,0,none⟩:=by
  obtain⟨m,h1,h2⟩:=hhas (λz=>s2 z.symm) (λz=>r2 z.symm) (hmt _ hb.t) hB.tu.t;exact⟨_,h1,Nat.zero_le _,by simp at h2;simp only;omega⟩
 have hs:∀ j,j<e.g.n->(eJ e i d).has ⟨e.g.sb j,1,none⟩:=λj hj=>by
  by_cases ej:j=i
  ·subst ej;exact⟨(0,2),by simp[eJ],Nat.zero_le _,by simp⟩
  ·obtain ⟨m,h1,h2⟩:=hhas (s4 j hj ej) (λz=>r4 j hj z.symm) (hmt _ (hb.s j hj)) (hB.tu.s j hj)
   exact⟨_,h1,Nat.zero_le _,by simp at h2;simp only;omega⟩
 have hs0:(eJ e i d).has ⟨e.g.sb i,0,none⟩:=⟨(0,2),by simp[eJ],Nat.zero_le _,by simp⟩
 have hfit:Fit (KT e.g) (Still e.g) (eJ e i d):=by
  refine⟨λw n h=>⟨h.v,h.t,h.s⟩,λw w' h k=>⟨?_,?_,λj hj=>?_⟩,λa ha=>?_,λl ⟨a,ha,_⟩=>⟨a,ha⟩⟩
  ·rw [h.cell _ hv];exact k.v
  ·rw [h.cell _ ht];exact k.t
  ·rw [h.cell _ (hs j hj)];exact k.s j hj
  ·obtain ⟨a',ha',h1⟩:=ha
   cases ha'
   rcases h1 with rfl | rfl | ⟨j,hj,rfl⟩
   ·exact hv
   ·exact ht
   ·exact hs j hj
 have hnear:∀ (b:Nat) (c:Array Value) (t:TypeId) (r:Nat × Nat),x.heap[b]?=some (Obj.cells c t r)->r.2<big->x'.heap[b]?=x.heap[b]?/\b≠e.g.sb i/\b≠e.g.rb:=λb c t r h1 h2=>by
  have hm:=(mQ hl h1 h2).1;have n1:b≠e.g.sb i:=λz=>by rw[z,hb.s i hin] at hm;cases hm
  have n2:b≠e.g.rb:=λz=>by rw[z,hb.b] at hm;cases hm
  exact⟨xo b n1 n2,n1,n2⟩
 have hns:∀ b,H₀ b->b≠e.g.sb i/\b≠e.g.rb/\x'.heap[b]?=x.heap[b]?/\meW i (d.own b)=true:=λb hsh=>by
  obtain⟨c,t,r,h1,h2⟩:=e.near s H₀ x b hrep hsh;obtain⟨h3,h4,h5⟩:=hnear b c t r h1 h2;exact⟨h4,h5,h3,(mQ hl h1 h2).1⟩
 have hW:∀ τ m,∃ fr2 mid2 x'',Steps P (lone fr (mid++[aV P]) (x'.re τ m)) (lone fr2 (mid2++[aV P]) x'')/\Fin P e.g fr2 mid2/\Eff e i H₀ x' x'':=
  hwalk ov br x' (hB.tu.tv'.like hl') hin (by simp[World.frozen?,xs]) (λj=>by simp[World.frozen?,xr]) (λb c t r h1 h2=>(hnear b c t r h1 h2).1) (λh=>(hns _ h).1 rfl) (λh=>(hns _ h).2.1 rfl)
 refine hold (GS:=λf m y=>Fin P e.g f m/\Eff e i H₀ x' y) hfit hP (λ_ _ _ τ n h=>⟨h.1,h.2.over,h.2.broken,h.2.others,h.2.sh⟩) (cs:=[]) (N0:=N) (w0:=d.w) ?_ hI hl' (Kep.refl _ _) (n:=0) (p:=λ_ _=>0) (λτ _=>by
  obtain⟨fr2,mid2,x'',⟨N,h1⟩,h2⟩:=hW τ 0;exact⟨N,fr2,mid2,x'',h1,h2⟩) hB.cfg hB.size (by simpa using ha)
 rintro f m y w' gs1 sl1 T1 ⟨⟨n,z,hsend,hleave⟩,heff⟩ hI' hl2 hk hc hsz1 ha1;obtain⟨B,q,C⟩:=hc;have C:=kK (Nat.le_max_left B w'.heap.size) C;have hM:gA Inb (e.b+i) (e.b+i):=.inr rfl;have hne:(e.b+i)≠0:=by omega
 have hKc:∀ (w:World) (i':Nat) (s':Seat) (c cap:Nat) (buf:Array Value) (cl:Bool) (a b:Nat) (tm:Bool),Inb i'=some s'->s'.has c->KT e.g w->KT e.g (w.setChan c cap buf cl a b tm):=by
  intro w i' s' c cap buf cl a b tm hs hc hK
  have hc':iK e.g c:=by
   rcases hB.shp i' s' hs with⟨_,H',rfl⟩ | ⟨j,H',hj,_,rfl⟩
   ·exact .inl (Seat.one_has.1 hc)
   ·exact .inr ⟨j,hj,Seat.one_has.1 hc⟩
  obtain⟨h1,h2,h3⟩:=oQ hB hc';exact jX hK h1 h2 h3 ..
 have h0lt:0<gs1.size:=by
  have:=(Array.getElem?_eq_some_iff.1 ha1).1
  omega
 obtain ⟨NN,m',T',hr,gs',g₂,dd,kk,cap,sl',q',rfl,hsz',hg0,hHome,hchan,R⟩:=give (sl:=sl1) (Inb':=upd Inb (e.b+i) none) (nh:=n) (kk:=0) (z:=.agg #[]) (z':=z) (v:=.agg #[]) (es:=#[]) (a₂:=G f m)
  (fun w d h=>⟨h.v,h.t,h.s⟩) hKc (λz=>hne z.symm) h0lt h0 rfl hM (by simpa using ha1) rfl (λdd=>hsend _ _) (by simp) C (λx hx=>upd_ne _ _ hx) (.inr (upd_same ..)) (λT' hD=>by
    rw[upd_same];exact⟨by omega,by rw[hD];exact hleave⟩)
 refine Ends.run hr ?_;have hbk:iK e.g e.g.bk:=.inl rfl;obtain⟨kb,hkb⟩:=hB.chn _ hbk
 have hcd:∀ c,iK e.g c->c≠e.g.sb i/\c≠e.g.rb:=λc hc=>by
  obtain⟨k',hk'⟩:=hB.chn c hc;refine⟨λz=>?_,λz=>?_⟩
  ·rw [z,hsb] at hk';cases hk'
  ·rw [z,hrb] at hk';cases hk'
 have hkb':w'.heap[e.g.bk]?=some (.chan 0 #[] false kb kb false):=hkep hk (hcd _ hbk).1 (hcd _ hbk).2 (hmt _ (hb.c _ hbk)) hkb;rw[hkb'] at hchan;cases hchan
 let W':World:=(w'.at dd).setChan e.g.bk 0 #[] false (kk+1) (kk+1) false
 have hW':∀ b,e.g.bk≠b->W'.heap[b]?=w'.heap[b]?:=λb hne=>heap_setChan_ne (w'.at dd) 0 #[] false (kk+1) (kk+1) false hne;have hWs:W'.heap.size=w'.heap.size:=size_setChan ..;have hself:∀ b,meW i (d.own b)=true->e.g.bk≠b:=λb hm hz=>by rw[<-hz,hb.c _ hbk] at hm;cases hm
 have hme:∀ b,meW i (d.own b)=true ↔ d.own b=.wk i\/d.own b=.sh:=by
  intro b;cases d.own b <;> simp[meW]
 have hlabf:∀ b,b<d.w.heap.size->meW i (d.own b)=false->lab i H₀ d b=d.own b:=λb h1 h2=>by simp[lab,h1,h2]
 have hlabt:∀ b,(b<d.w.heap.size->meW i (d.own b)=true)->lab i H₀ d b=.wk i\/lab i H₀ d b=.sh:=λb h1=>by
  have:¬(b<d.w.heap.size/\meW i (d.own b)=false):=λ⟨h2,h3⟩=>by rw[h1 h2] at h3;cases h3
  unfold lab;rw[if_neg this]
  split
  ·exact .inr rfl
  ·exact .inl rfl
 have hlabs:∀ b,lab i H₀ d b=.sh ↔ H₀ b:=λb=>by
  constructor
  ·intro h
   unfold lab at h
   split at h
   ·rename_i h1
    rw[h] at h1;cases h1.2
   ·split at h
    ·assumption
    ·cases h
  ·intro h
   have h1:=(hns b h).2.2.2;unfold lab;rw[if_neg (by rw[h1];simp),if_pos h]
 have htu:∀ b,d.own b=.tu->b<d.w.heap.size->lab i H₀ d b=.tu:=λb h1 h2=>by rw[hlabf b h2 (by rw[h1];rfl),h1]
-- the turnstile's memory
 have ky:∀ a,W'.cell? a=y.cell? a\/a.block=e.g.bk:=λa=>by
  by_cases h:e.g.bk=a.block
  ·exact .inr h.symm
  ·refine .inl ?_
   rw[hl2.cell a];exact World.cell?_of_block (hW' a.block h)
 have hnb:∀ (b:Nat) (c:Array Value) (t:TypeId) (r:Nat × Nat),d.w.heap[b]?=some (Obj.cells c t r)->e.g.bk≠b:=λb c t r h z=>by rw[<-z,hkb] at h;cases h
 have hkt:∀ {b:Nat}{c:Array Value}{t:TypeId}{r:Nat × Nat},b≠e.g.sb i->b≠e.g.rb->d.own b=.tu->d.w.heap[b]?=some (.cells c t r)->W'.heap[b]?=some (.cells c t r):=λh1 h2 h3 h4 =>
  (hW' _ (hnb _ _ _ _ h4)).trans (hkep hk h1 h2 (hmt _ h3) h4)
 have htuat:∃ br',TuAt e.g (upd ov i true) br' W':=by
  obtain⟨zb,hzb⟩:=heff.broken;refine⟨upd br i zb,hkt (λz=>s1 z.symm) (λz=>r1 z.symm) hb.v hB.tu.v,hkt (λz=>s2 z.symm) (λz=>r2 z.symm) hb.t hB.tu.t,⟨ca,hkt (λz=>s3 z.symm) (λz=>r3 z.symm) hb.a hab,hab'⟩,λj hj=>?_,?_⟩
  ·by_cases ej:j=i
   ·subst ej
    rw[upd_same];obtain⟨c',h1,h2⟩:=hk.row _ _ _ _ hsb;have h1':W'.heap[e.g.sb j]?=some (.cells c' e.g.tS (0,0)):=(hW' _ (hnb _ _ _ _ hsb)).trans h1;rw[h1']
    have c0:c'[0]?=some (.pointer (some ⟨e.g.tb,0,none⟩)):=by
     have:=hk.cell _ hs0
     simpa [World.cell?,h1,hsb] using this
    have c1:c'[1]?=some (.chan (some (e.g.ps j))):=by
     have:=hk.cell _ (hs j hj)
     simpa [World.cell?,h1,hsb] using this
    have c2:c'[2]?=some (.bool true):=by
     have:=(hl2.cell ⟨e.g.sb j,2,none⟩).symm.trans heff.over
     simpa [World.cell?,h1] using this
    have : c'=#[.pointer (some ⟨e.g.tb,0,none⟩),.chan (some (e.g.ps j)),.bool true]:=by
     apply Array.ext_getElem?;intro k
     match k with
     | 0=>simpa using c0
     | 1=>simpa using c1
     | 2=>simpa using c2
     | k+3=>rw[Array.getElem?_eq_none (by simp at h2;omega),Array.getElem?_eq_none (by simp)]
    rw[this]
   ·rw [upd_ne _ _ ej]
    exact hkt (s4 j hj ej) (λz=>r4 j hj z.symm) (hb.s j hj) (hB.tu.s j hj)
  ·obtain ⟨c',h1,h2⟩:=hk.row _ _ _ _ hrb
   refine⟨c',(hW' _ (hnb _ _ _ _ hrb)).trans h1,h2.trans hrbn,λj hj=>?_⟩
   have h3:c'[j]?=y.cell? ⟨e.g.rb,j,none⟩:=by
    rw[hl2.cell];simp[World.cell?,h1]
   rw[h3]
   by_cases ej:j=i
   ·subst ej;rw[upd_same];exact hzb
   ·rw [upd_ne _ _ ej,heff.others j ej]
    simp[World.cell?,xr,hrb' j hj]
 obtain⟨br',htuat⟩:=htuat
 have hshp:∀ x' s',upd Inb (e.b+i) none x'=some s'->(x'=0/\∃ H,s'=bF e.g H)\/∃ j H,j<e.g.n/\x'=e.b+j/\s'=dX e.g j H:=by
  intro x' s' hx
  by_cases ex:x'=e.b+i
  ·subst ex
   rw[upd_same] at hx;cases hx
  ·rw [upd_ne _ _ ex] at hx
   exact hB.shp x' s' hx
 have hbase:Base e N (upd Inb (e.b+i) none) 0 gs' T' ⟨W',lab i H₀ d⟩ (upd ov i true) br':=by
  refine⟨⟨max B w'.heap.size,q',?_⟩,hsz'.trans hsz1,λx' s' hx=>?_,htuat,?_,λb h=>(hW' b (λz=>by have:=hb.c _ hbk;rw[z,hb.ro b h] at this;cases this)).trans (hkep hk (λz=>by have:=hb.s i hin;rw[<-z,hb.ro b h] at this;cases this) (λz=>by have:=hb.b;rw[<-z,hb.ro b h] at this;cases this) (by rw[hb.ro b h];rfl) (hB.rbl b h)),?_,hshp,⟨hk.io.1.trans hB.io.1,hk.io.2.trans hB.io.2⟩⟩
  ·have hmem:(λg=>gA Inb (e.b+i) g/\(upd Inb (e.b+i) none g≠none\/g=0))=gA (upd Inb (e.b+i) none) 0:=by
    funext g
    apply propext;refine⟨λh=>h.2,λh=>⟨?_,h⟩⟩
    by_cases eg:g=e.b+i
    ·exact .inr eg
    ·rcases h with h | rfl
     ·rw [upd_ne _ _ eg] at h;exact .inl h
     ·exact .inl (by rw[h0];simp)
   rw[<-hmem];exact R
  ·by_cases ex:x'=e.b+i
   ·subst ex;rw[upd_same] at hx;cases hx
   ·rw [upd_ne _ _ ex] at hx;exact hB.lt x' s' hx
  ·exact ⟨λb h=>(hlabf b (aB (hB.rbl b h)) (by rw[hb.ro b h];rfl)).trans (hb.ro b h),htu _ hb.v (aB hB.tu.v),htu _ hb.t (aB hB.tu.t),htu _ hb.a (aB hab),λj hj=>htu _ (hb.s j hj) (aB (hB.tu.s j hj)),htu _ hb.b (aB hrb),λc hc=>by obtain⟨k',hk'⟩:=hB.chn c hc;exact htu _ (hb.c c hc) (aB hk')⟩
  ·intro c hc
   by_cases ec:e.g.bk=c
   ·subst ec
    exact⟨kk+1,heap_setChan _ _ _ _ _ _ _ _ (aB hkb')⟩
   ·obtain ⟨k',hk'⟩:=hB.chn c hc
    exact⟨k',(hW' c ec).trans (hkep hk (hcd c hc).1 (hcd c hc).2 (hmt _ (hb.c c hc)) hk')⟩
 refine hN ⟨W',lab i H₀ d⟩ gs' sl' T' g₂ br' hbase ?_ hHome ?_ ⟨H₀,?_,hlabs⟩
 ·rw [hg0]
  show _=some (Go.Conc.served g₂ (recvd false (.agg #[]) true))
  rw[<-commResult_one]
  rfl
 ·refine ⟨by rw[hWs];exact hk.size,λb hlt h1 h2=>?_,λb hlt h1=>?_,λb hge=>?_,λb hlt h1 h2 h3=>?_⟩
  ·exact hlabf b hlt (by
    cases hm:meW i (d.own b) with
    | false=>rfl
    | true=>exact absurd ((hme b).1 hm) (by simp[h1,h2]))
  ·exact hlabt b λ_=>(hme b).2 h1
  ·exact hlabt b λh=>by omega
  ·have hm:meW i (d.own b)=false:=by
    cases hm:meW i (d.own b) with
    | false=>rfl
    | true=>exact absurd ((hme b).1 hm) (by simp[h1,h2])
   show W'.heap[b]?=d.w.heap[b]?
   rw[hW' b λh=>h3 (by rw[<-h];exact hb.c _ hbk)];obtain⟨o,ho⟩:∃ o,d.w.heap[b]?=some o:=⟨_,Array.getElem?_eq_getElem hlt⟩;rw[ho];exact hkep hk (λz=>h3 (by rw[z];exact hb.s i hin)) (λz=>h3 (by rw[z];exact hb.b)) hm ho
 ·refine e.rep s H₀ x W' hrep (λb hsh=>?_) λb c t r hrb hx=>?_
  rotate_left
  ·obtain ⟨s',h3⟩:=qX hl hx
   have hro:=hb.ro b hrb;refine⟨s',(hW' b (λz=>by have:=hb.c _ hbk;rw[z,hro] at this;cases this)).trans (hkep hk (λz=>?_) (λz=>?_) (by rw[hro];rfl) h3)⟩
   ·rw [z,hb.s i hin] at hro;cases hro
   ·rw [z,hb.b] at hro;cases hro
  obtain⟨h1,h2,h3,h4⟩:=hns b hsh;rw[hW' b (hself b h4)];have h5:y.heap[b]?=x.heap[b]?:=(heff.sh b hsh).trans h3;obtain⟨c,t,r,h6,h7⟩:=e.near s H₀ x b hrep hsh;have hb':=hl2.blk b;have hr0:(eJ e i d).rng b=none:=by rw[hrng b h1 h2];simp[fast,h4]
  rw[hr0] at hb'
  rcases hb' with⟨h8,_,_⟩ | ⟨h8,_⟩
  ·rw [<-h8,h5]
  ·exact absurd h8.1 (by rw[h4];simp)
end
end Go.Turn
namespace Go.Turn
open Go.Conc Go.Tame
section
variable {P:Program}{md:Region.Mode}{ops:Array Oper}{m:Nat}
def rP (md:Region.Mode) (ops:Array Oper) (m:Nat):Nat->Array Bool->Bool
 | 0,_=>false
 | f+1,listed=>!(Region.ready md ops listed).isEmpty && (Region.ready md ops listed).all λi=>if i=m then(Region.ready md ops (listed.setIfInBounds m true)).isEmpty else rP md ops m f (listed.setIfInBounds i true)
theorem go_nil {listed:Array Bool}(h:Region.ready md ops listed=[]):∀ (f t:Nat),Region.linearise.go md ops f t listed []=[]
 | 0,t=>rfl
 | f + 1,t=>by
   simp only[Region.linearise.go]
   change (match (Region.ready md ops listed)[t%(Region.ready md ops listed).length]? with
    | some i=>Region.linearise.go md ops f (t / (Region.ready md ops listed).length) (listed.setIfInBounds i true) [i]
    | none=>[].reverse)=[]
   rw[h];rfl
theorem last_of:∀ (f t:Nat) (listed:Array Bool),rP md ops m f listed=true->∃ l,Region.linearise.go md ops f t listed []=l++[m]/\m ∉ l
 | 0,_,_,h=>by cases h
 | f + 1,t,listed,h=>by
   simp only[rP,Bool.and_eq_true,Bool.not_eq_true',List.isEmpty_eq_false_iff,List.all_eq_true] at h;obtain⟨hne,hall⟩:=h;simp only[Region.linearise.go]
   change ∃ l,(match (Region.ready md ops listed)[t%(Region.ready md ops listed).length]? with
    | some i=>Region.linearise.go md ops f (t / (Region.ready md ops listed).length) (listed.setIfInBounds i true) [i]
    | none=>[].reverse)=l++[m]/\m ∉ l
   have hlt:t%(Region.ready md ops listed).length<(Region.ready md ops listed).length:=Nat.mod_lt _ (List.length_pos_iff.2 hne);rw[List.getElem?_eq_getElem hlt];have hi:=hall _ (List.getElem_mem hlt);generalize (Region.ready md ops listed)[t%(Region.ready md ops listed).length]=i at hi;simp only[];rw[linearise_go_acc]
   by_cases e:i=m
   ·rw [if_pos e] at hi
    subst e;rw[go_nil (by simpa using hi)];exact⟨[],rfl,by simp⟩
   ·rw [if_neg e] at hi
    obtain⟨l,h1,h2⟩:=last_of f _ _ hi;rw[h1];exact⟨i::l,by simp,by simp[h2,Ne.symm e]⟩
def idle (ops:Array Oper) (m:Nat):Array Oper:=ops.modify m λo=>{ o with dst:=none,op:=.move (.const undef),guard:=none }
theorem rR {i:Nat}(h:i≠m):(idle ops m)[i]?=ops[i]?:=by simp[idle,Array.getElem?_modify,Ne.symm h]
theorem idle_after (i:Nat):((idle ops m)[i]?).map (·.after)=(ops[i]?).map (·.after):=by
 by_cases h:m=i
 ·subst h;simp only[idle,Array.getElem?_modify];cases ops[m]? <;> rfl
 ·rw [rR (Ne.symm h)]
theorem idle_ready (listed:Array Bool):Region.ready md (idle ops m) listed=Region.ready md ops listed:=by
 unfold Region.ready;have hs:(idle ops m).size=ops.size:=by simp[idle]
 rw[hs];apply List.filter_congr;intro i _;have:=idle_after (ops:=ops) (m:=m) i;cases h1:(idle ops m)[i]? <;> cases h2:ops[i]? <;> rw[h1,h2] at this <;> simp_all
theorem kW:∀ (f t:Nat) (listed:Array Bool) (acc:List Nat),Region.linearise.go md (idle ops m) f t listed acc=Region.linearise.go md ops f t listed acc
 | 0,_,_,_=>rfl
 | f + 1,t,listed,acc=>by
   simp only[Region.linearise.go]
   change (match (Region.ready md (idle ops m) listed)[t%(Region.ready md (idle ops m) listed).length]? with
    | some i=>Region.linearise.go md (idle ops m) f (t / (Region.ready md (idle ops m) listed).length) (listed.setIfInBounds i true) (i::acc)
    | none=>acc.reverse)=(match (Region.ready md ops listed)[t%(Region.ready md ops listed).length]? with
    | some i=>Region.linearise.go md ops f (t / (Region.ready md ops listed).length) (listed.setIfInBounds i true) (i::acc)
    | none=>acc.reverse)
   rw[idle_ready]
   split
   ·exact kW f _ _ _
   ·rfl
def jL (ops:Array Oper) (m:Nat):Bool:=ops.all λo=>match o.guard with | some (j,_)=>j !=m | none=>true
theorem idle_wanted (hg:jL ops m=true) {i:Nat}{o:Oper}(ho:ops[i]?=some o) (tmps:Array Value):Region.wanted o (yielded (idle ops m) tmps)=Region.wanted o (yielded ops tmps):=by
 unfold Region.wanted;cases h:o.guard with
 | none=>rfl
 | some p =>
   obtain⟨j,z⟩:=p;have hm:o∈ops:=Array.mem_of_getElem? ho;have:=(Array.all_eq_true'.1 hg) o hm;rw[h] at this;simp only[bne_iff_ne,ne_eq] at this;simp only[yielded,rR this]
theorem kV (hg:jL ops m=true) {Z:Exit->Act->World->Prop}:∀ (l:List Nat),m ∉ l->wpOps P (idle ops m) Z l=wpOps P ops Z l
 | [],_=>by funext a w;rfl
 | i::l,h=>by
   simp only[List.mem_cons,not_or] at h
   funext a w
   simp only[wpOps,rR (Ne.symm h.1),kV hg l h.2];cases ho:ops[i]? with
   | none=>rfl
   | some o=>simp only[idle_wanted hg ho]
theorem wp_then {o:Oper}{a:Act}{w:World}{next X:Act->World->Prop}{Z:Exit->Act->World->Prop}:o.wp P a w next (Exit.then X Z)=o.wp P a w next Z:=by
 unfold Oper.wp Oper.upon
 split <;> rfl
theorem dA {Z:Exit->Act->World->Prop}(r:List Nat):∀ (l:List Nat),wpOps P ops Z (l++r)=wpOps P ops (Exit.then (wpOps P ops Z r) Z) l
 | []=>by funext a w;rfl
 | i::l=>by
   funext a w
   simp only[List.cons_append,wpOps,dA r l,wp_then]
   rfl
variable {κ:Type}{L:Lg P κ}{t:κ}{a:Act}{w:World}
theorem Lg.drawn {b:Frame}{k:List Item}{mid:List Frame}{id:Nat}(m:Nat) (hm:P.follows .mixedOrders=true) (hmlt:m<ops.size) (hB:Region.lexB .any (idle ops m)=true) (hlast:rP .any ops m ops.size (Array.replicate ops.size false)=true) (hg:jL ops m=true)
  (h:∀ (y:World) τ n,w=y.re τ n->∀ K:Act->Prop,(∀ a',(L.strict->a'.defers=[])->L.T t (b.at a' (.inRegion ops [m]::k)) mid y->K a')->wpQuiet P (idle ops m) (λw'=>∃ n,w'=y.drewN n) K (idle ops m).toList a) :
  L.T t (b.at a (.code (.region id ops true)::k)) mid w:=by
 refine L.steps λy τ n hy=>?_;have hst:=step_region_draw (P:=P) (b:=b) (a:=a) (k:=k) (cs:=mid++L.tail) (w:=y) (ops:=ops) (id:=id);generalize y.tape y.drawn (.order b.fn id)=tt at hst;rw[show Region.schedule (P.follows .mixedOrders) ops tt=Region.linearise.go .any ops ops.size tt (Array.replicate ops.size false) [] from by simp[Region.schedule,hm,Region.linearise]] at hst;obtain⟨l,hl,hml⟩:=last_of ops.size tt _ hlast;rw[hl] at hst;have hq:=h y τ n hy (λa'=>(L.strict->a'.defers=[])/\L.T t (b.at a' (.inRegion ops [m]::k)) mid y) (λ_ h1 h2=>⟨h1,h2⟩);simp only[Region.lexB,Bool.and_eq_true] at hB;have hs:(idle ops m).size=ops.size:=by simp[idle]
 let Z:Exit->Act->World->Prop:=λe a' w'=>e=.normal/\(∃ n,w'=y.drewN n)/\(L.strict->a'.defers=[])/\L.T t (b.at a' (.inRegion ops [m]::k)) mid y
 have h1:wpOps P (idle ops m) Z (l++[m]) a { y with drawn:=y.drawn+1 }:=by
  rw[<-hl,<-kW (m:=m)];refine wpAny_sound _ _ _ _ _ (wpAny_of_quiet (C:=λw'=>∃ n,w'=y.drewN n) (Q:=λa'=>(L.strict->a'.defers=[])/\L.T t (b.at a' (.inRegion ops [m]::k)) mid y) (λ_ _ hc hk=>⟨rfl,hc,hk⟩) _ _ _ _ ⟨1,rfl⟩ ?_);have:=wpAnyQ_lex (C:=λw'=>∃ n,w'=y.drewN n) (md:=.any) hB.1 (idle ops m).toList 0 (Array.replicate (idle ops m).size false) a (by simp) (by simpa using hB.2) hq;rw[hs] at this
  simpa [hs] using this
 rw[dA,kV hg l hml] at h1
 rcases iT (b:=b) (k:=k) (cs:=mid++L.tail) [m] l a _ h1 with⟨a',w',hz,hs'⟩ | ⟨ch,a',w',hz,_⟩ | ⟨a',w',hz⟩
 ·obtain ⟨o,ho⟩:∃ o,ops[m]?=some o:=⟨_,Array.getElem?_eq_getElem hmlt⟩
  have ho':(idle ops m)[m]?=some { o with dst:=none,op:=.move (.const undef),guard:=none }:=by simp[idle,Array.getElem?_modify,ho]
  simp only[Exit.then,wpOps,ho',Region.wanted,if_true] at hz
  rcases hz with hz | ⟨_,a2,w2,hz⟩
  ·have hr:(execOp a'.eval { o with dst:=none,op:=.move (.const undef),guard:=none }).run P w'=.ok (.value undef) w':=by simp[execOp,go_sem,Act.eval]
   rw[Oper.wp,hr,Oper.upon_value] at hz;obtain⟨_,⟨n',rfl⟩,hd,hT⟩:=hz;refine⟨_,mid,_,.head hst hs',λz=>nd_act λ_=>hd z,?_⟩;exact(L.re_iff (τ:=y.tape) (n:=y.drawn+n')).2 hT
  ·exact nomatch hz.1
 ·exact nomatch hz.1
 ·exact nomatch hz.1
end
end Go.Turn
namespace Go.Turn
open Go.Conc Go.Tame
open Go.ConcN (upd upd_ne upd_same)
inductive Stg (S:Type) where
 | unborn
 | wait (k:S->Tree S S)
 | over
structure Mach (S:Type) where
 s:S
 th:Nat->Stg S
def Stg.isOver {S:Type}:Stg S->Bool
 | .over=>true
 | _=>false
def Mach.put {S:Type}(m:Mach S) (i:Nat):Tree S S->Option (Mach S)
 | .yield s k=>some ⟨s,upd m.th i (.wait k)⟩
 | .ret s=>some ⟨s,upd m.th i .over⟩
 | .cut=>none
section
variable {P:Program}(e:Env P)
def meM:Ow->Bool
 | .mn=>true
 | _=>false
def oU (i:Nat) (Inb:Nat->Option Seat) (d:Wd) (ov:Nat->Bool):Stg e.S->Prop
 | .unborn=>Inb (e.b+i)=none/\ov i=false/\∀ b,b<d.w.heap.size->d.own b≠.wk i
 | .wait k=>ov i=false/\∃ g' d0,Inb (e.b+i)=some (dX e.g i (·=g'))/\Res i d0 d/\Wt e i (λσ=>WTh e i (k σ)) g' d0
 | .over=>Inb (e.b+i)=none/\ov i=true
structure Mst (m:Mach e.S) (Inb:Nat->Option Seat) (d:Wd) (ov:Nat->Bool):Prop where
 real:pE e m.s d
 th:∀ i,i<e.g.n->oU e i Inb d ov (m.th i)
def Mn (N:Nat) (m:Mach e.S) (fr:Frame) (mid:List Frame) (x:World):Prop:=
 ∀ d,Like (fast meM d) x d.w->Lbl e.g e.RB d.own->Inv P fr mid->∀ Inb gs sl T ov br,Base e N Inb 0 gs T d ov br->gs[0]?=some (G fr mid)->Mst e m Inb d ov->Tame.Ends P e.Post (crowd gs d.w sl) T
variable {e}
theorem Mn.re {N:Nat}{m:Mach e.S}{fr:Frame}{mid:List Frame}{x:World}(h:Mn e N m fr mid x) (τ:Nat->Question->Nat) (n:Nat):Mn e N m fr mid (x.re τ n):=
 λd hl=>h d ⟨hl.size,hl.os,hl.output,hl.blk⟩
theorem res_kep {d:Wd}{w':World}(hk:Kep (fast meM d) d.w w') (j:Nat):Res j d ⟨w',ext d.own d.w.heap.size .mn⟩:=by
 refine⟨hk.size,λb hb ho=>⟨by simp[ext,hb],?_⟩,λb _ h=>?_⟩
 ·have hm:meM (d.own b)=false:=by rcases ho with ho | ho <;> rw[ho] <;> rfl
  obtain⟨o,ho'⟩:∃ o,d.w.heap[b]?=some o:=⟨_,Array.getElem?_eq_getElem hb⟩;rw[ho'];exact cX hk hm ho'
 ·by_cases hb:b<d.w.heap.size
  ·exact ⟨hb,by simpa [ext,hb] using h⟩
  ·simp [ext,hb] at h
theorem jT {i:Nat}{Inb Inb':Nat->Option Seat}{d d':Wd}{ov ov':Nat->Bool}{t:Stg e.S}(h:oU e i Inb d ov t) (hr:Res i d d') (hI:Inb' (e.b+i)=Inb (e.b+i)) (ho:ov' i=ov i):oU e i Inb' d' ov' t:=by
 cases t with
 | unborn=>exact⟨hI.trans h.1,ho.trans h.2.1,λb hb hw=>by have:=hr.new b hb hw;exact h.2.2 b this.1 this.2⟩
 | wait k =>
   obtain⟨h1,g',d0,h2,h3,h4⟩:=h;exact⟨ho.trans h1,g',d0,hI.trans h2,h3.trans hr,h4⟩
 | over=>exact⟨hI.trans h.1,ho.trans h.2⟩
theorem mn_close (hP:Prog P) {N:Nat}{m:Mach e.S}{fr:Frame}{mid:List Frame}{x:World}
  (h:∀ τ n,∃ NN fr' mid' x',runN P NN (lone fr (mid++[aV P]) (x.re τ n))=.next (lone fr' (mid'++[aV P]) x')/\Mn e N m fr' mid' x'):Mn e N m fr mid x:=by
 intro d hl hb hI Inb gs sl T ov br hB ha hM;have hfit:=fit_fast (me:=meM) rfl hB.lbl hB.tu;refine hold (GS:=λfr mid x=>Mn e N m fr mid x) hfit hP (λ_ _ _ τ n h=>h.re τ n) (cs:=[]) (N0:=N) (w0:=d.w) ?_ hI hl (Kep.refl _ _) (n:=0) (p:=λ_ _=>0) (λτ _=>h τ 0) hB.cfg hB.size (by simpa using ha);intro fr' mid' x' w' gs' sl' T' hT hI' hl' hk hc hsz ha';have hlb:=lbl_ext hB.lbl hB.tu hB.chn hB.rbl .mn;obtain⟨H₁,hreal⟩:=hM.real;refine hT ⟨w',ext d.own d.w.heap.size .mn⟩ (oB rfl hk hl') hlb hI' Inb gs' sl' T' ov br ⟨hc,hsz,hB.lt,tu_kep rfl hB.lbl hk hB.tu,hlb,λb h=>cX hk (by rw[hB.lbl.ro b h];rfl) (hB.rbl b h),λc hcc=>(hB.chn c hcc).imp λk hk'=>cX hk (by rw[hB.lbl.c c hcc];rfl) hk',hB.shp,⟨hk.io.1.trans hB.io.1,hk.io.2.trans hB.io.2⟩⟩ (by simpa using ha') ⟨⟨H₁,?_,λb=>?_⟩,λi hi=>jT (hM.th i hi) (res_kep hk i) rfl rfl⟩
 ·refine e.rep m.s H₁ d.w w' hreal.1 (λb hb=>?_) λb c t r hrb h1=>⟨r,cX hk (by rw[hB.lbl.ro b hrb];rfl) h1⟩
  obtain⟨c,t,r,h1,_⟩:=e.near m.s H₁ d.w b hreal.1 hb;rw[h1];exact cX hk (by rw[(hreal.2 b).2 hb];rfl) h1
 ·by_cases hb:b<d.w.heap.size
  ·simp only [ext,hb,if_true];exact hreal.2 b
  ·simp only [ext,hb,if_false]
   refine⟨λh=>(by cases h),λh=>?_⟩;obtain⟨c,t,r,h1,_⟩:=e.near m.s H₁ d.w b hreal.1 h;exact absurd (aB h1) hb
theorem mn_tu {N:Nat}{m:Mach e.S}{fr:Frame}{mid:List Frame}{x:World}(h:∀ ov br,Tv e.g ov br x->(∀ i,i<e.g.n->ov i=(m.th i).isOver)->Mn e N m fr mid x):Mn e N m fr mid x:=by
 intro d hl hb hI Inb gs sl T ov br hB ha hM;refine h ov br (hB.tu.tv'.like hl) (λi hi=>?_) d hl hb hI Inb gs sl T ov br hB ha hM;have:=hM.th i hi;cases hs:m.th i <;> rw[hs] at this
 ·exact this.2.1
 ·exact this.1
 ·exact this.2
structure HeldM (x x':World):Prop where
 size:x.heap.size<=x'.heap.size
 block:∀ (b:Nat) (c:Array Value) (t:TypeId) (r:Nat × Nat),x.heap[b]?=some (Obj.cells c t r)->(r.2<big\/r.2%2=1)->x'.heap[b]?=some (Obj.cells c t r)
theorem iW {d:Wd}{x:World}(hl:Like (fast meM d) x d.w) {b:Nat}{c:Array Value}{t:TypeId}{r:Nat × Nat}(hx:x.heap[b]?=some (.cells c t r)):(meM (d.own b)=true/\d.w.heap[b]?=some (.cells c t r))\/(meM (d.own b)=false/\∃ s,d.w.heap[b]?=some (.cells c t s)/\r=(0,2*max (max s.2 c.size) big+if d.own b=.ro then 1 else 0)):=by
 have hb:=hl.blk b;cases hg:(fast meM d).rng b with
 | none =>
   rw[hg] at hb
   rcases hb with⟨h1,_,_⟩ | ⟨_,_,_,_,h1⟩
   ·rw [hx] at h1
    refine .inl ⟨?_,h1.symm⟩;cases hm:meM (d.own b) with
    | true=>rfl
    | false=>rw[gI hm h1.symm] at hg;cases hg
   ·rw [hx] at h1;cases h1
 | some r' =>
   rw[hg] at hb;obtain⟨c',t',s',h1,h2,_⟩:=hb;rw[hx] at h1;cases h1;obtain⟨hm,_⟩:=qN hg;rw[gI hm h2] at hg;cases hg;exact .inr ⟨hm,s',h2,rfl⟩
theorem oG {i:Nat}{d d1 d':Wd}{x:World}(hl:Like (fast meM d) x d.w) (h1:d1.own=d.own) (h1s:d1.w.heap.size=d.w.heap.size) (h1w:∀ b,d.own b≠.tu->d1.w.heap[b]?=d.w.heap[b]?) (hmv:Moved i d1 d'):mG meM d'/\HeldM x (eQ meM d'):=by
 have hmn:∀ b,d'.own b=.mn->d.own b=.mn/\b<d.w.heap.size:=λb hb=>by
  by_cases hlt:b<d1.w.heap.size
  ·refine ⟨?_,by omega⟩
   by_cases hw:d1.own b=.wk i\/d1.own b=.sh
   ·rcases hmv.mine b hlt hw with e | e <;> rw[e] at hb <;> cases hb
   ·rw [<-h1,<-hmv.lab b hlt (λe=>hw (.inl e)) (λe=>hw (.inr e))];exact hb
  ·rcases hmv.new b (by omega) with e | e <;> rw[e] at hb <;> cases hb
 have hkeep:∀ b,b<d.w.heap.size->(d.own b=.mn\/d.own b=.ro)->d'.own b=d.own b/\d'.w.heap[b]?=d.w.heap[b]?:=λb hb ho=>by
  have e1:d1.own b≠.wk i:=by rw[h1];rcases ho with ho | ho <;> rw[ho] <;> simp
  have e2:d1.own b≠.sh:=by rw[h1];rcases ho with ho | ho <;> rw[ho] <;> simp
  have e3:d1.own b≠.tu:=by rw[h1];rcases ho with ho | ho <;> rw[ho] <;> simp
  exact⟨(hmv.lab b (by omega) e1 e2).trans (by rw[h1]),(hmv.same b (by omega) e1 e2 e3).trans (h1w b (by rw[<-h1];exact e3))⟩
 have hmm:∀ o:Ow,meM o=true ↔ o=.mn:=λo=>by cases o <;> simp[meM]
 have hclear:mG meM d':=by
  intro b o hm hobj;obtain⟨h2,h3⟩:=hmn b ((hmm _).1 hm);rw[(hkeep b h3 (.inl h2)).2] at hobj;have hb':=hl.blk b;have hm':meM (d.own b)=true:=by rw[h2];rfl
  have hr:(fast meM d).rng b=none:=by simp[fast,hm']
  rw[hr] at hb'
  rcases hb' with⟨h6,h7,_⟩ | ⟨h6,_⟩
  ·exact h7 o (h6.trans hobj)
  ·exact absurd h6.1 (by rw[hm'];simp)
 have hvl:=dY hclear;refine⟨hclear,?_,λb c t r hx hr=>?_⟩
 ·rw [hl.size,hvl.size,<-h1s];exact hmv.size
 ·rcases iW hl hx with⟨h2,h3⟩ | ⟨h2,s',h3,h4⟩
  ·obtain ⟨k1,k2⟩:=hkeep b (aB h3) (.inl ((hmm _).1 h2))
   have k1:d'.own b=.mn:=k1.trans ((hmm _).1 h2)
   simp[eQ,k2,h3,k1,meM]
  ·have hro:d.own b=.ro:=by
    by_cases h5:d.own b=.ro
    ·exact h5
    ·simp only [h5,if_false] at h4
     rw[h4] at hr;simp only at hr
     omega
   obtain⟨k1,k2⟩:=hkeep b (aB h3) (.inr hro);have k1:d'.own b=.ro:=k1.trans hro
   simp[eQ,k2,h3,k1,meM,h4,hro]
theorem mn_let {N:Nat}{m:Mach e.S}{fr fr2:Frame}{mid mid2:List Frame}{x:World}{i n:Nat}{pass:Bool}{k:e.S->Tree e.S e.S}{z:Value}(hi:i<e.g.n) (hk:m.th i=.wait k) (κ:Tree e.S e.S) (hκ:κ=if pass then k m.s else .ret m.s) (hcut:κ≠.cut)
  (hsend:∀ (main:Bool) w,stepG P main (G fr mid) w=.comm (G fr mid) #[scase (e.g.ps i) (.bool pass) z] true .send w #[])
  (hway:∀ B,e.g.tv<B->e.g.tb<B->(∀ j,j<e.g.n->e.g.sb j<B)->Sits P true (KT e.g) (Still e.g) B (bF e.g (·=G fr2 mid2)) n (G (fr.finish undef) mid))
  (hinv:Inv P fr mid->Inv P (fr2.finish (.agg #[])) mid2)
  (hgo:∀ m',m.put i κ=some m'->∀ x',HeldM x x'->Mn e N m' (fr2.finish (.agg #[])) mid2 x'):Mn e N m fr mid x:=by
 intro d hl hb hI Inb gs sl T ov br hB ha hM;have hpos:=e.pos;have hst:=hM.th i hi;rw[hk] at hst;obtain⟨hov,g',d0,hseat,hres,hwt⟩:=hst;obtain⟨B,q,C⟩:=hB.cfg;have C:=kK (Nat.le_max_left B d.w.heap.size) C;have hbk:iK e.g e.g.bk:=.inl rfl;obtain⟨kc,hkc⟩:=hB.chn _ hbk;have hlt:∀ {b:Nat}{o:Obj},d.w.heap[b]?=some o->b<max B d.w.heap.size:=λh=>Nat.lt_of_lt_of_le (aB h) (Nat.le_max_right _ _);have hM0:gA Inb 0 0:=.inr rfl
 have C2:=C.reseat hM0 (bF e.g (·=G fr2 mid2)) (Seat.one_wf _ _ _ _) (λx' s' c hx hs hc hc'=>by
   rw[Seat.one_has.1 hc'] at hc
   rcases rG hB hs hc with⟨h1,_⟩ | ⟨j,hj,_,h1⟩
   ·exact hx h1
   ·exact e.apart j hj h1.symm) (λc hc=>by rw[Seat.one_has.1 hc];exact⟨0,kc,hkc⟩) (λc hc=>by rw[Seat.one_has.1 hc];exact hlt hkc)
 have hne:(e.b+i)≠0:=by omega
 have hj:upd Inb 0 (some (bF e.g (·=G fr2 mid2))) (e.b+i)=some (dX e.g i (·=g')):=by rw[upd_ne _ _ hne];exact hseat
 have hshp:∀ x' s',upd Inb 0 (some (bF e.g (·=G fr2 mid2))) x'=some s'->(x'=0/\∃ H,s'=bF e.g H)\/∃ j H,j<e.g.n/\x'=e.b+j/\s'=dX e.g j H:=by
  intro x' s' hx
  by_cases ex:x'=0
  ·subst ex
   rw[upd_same] at hx;cases hx;exact .inl ⟨rfl,_,rfl⟩
  ·rw [upd_ne _ _ ex] at hx
   exact hB.shp x' s' hx
 have hKc:∀ (w:World) (i':Nat) (s':Seat) (c cap:Nat) (buf:Array Value) (cl:Bool) (a b:Nat) (tm:Bool),upd Inb 0 (some (bF e.g (·=G fr2 mid2))) i'=some s'->s'.has c->KT e.g w->KT e.g (w.setChan c cap buf cl a b tm):=by
  intro w i' s' c cap buf cl a b tm hs hc hK
  have hc':iK e.g c:=by
   rcases hshp i' s' hs with⟨_,H',rfl⟩ | ⟨j,H',hj,_,rfl⟩
   ·exact .inl (Seat.one_has.1 hc)
   ·exact .inr ⟨j,hj,Seat.one_has.1 hc⟩
  obtain⟨h1,h2,h3⟩:=oQ hB hc';exact jX hK h1 h2 h3 ..
 have hch:iK e.g (e.g.ps i):=.inr ⟨i,hi,rfl⟩
 obtain ⟨NN,m',T',hr,gs',g₂,dd,kk,cap,sl',q',rfl,hsz',hg0,hHome,hchan,R⟩:=give (sl:=sl) (Inb':=upd Inb 0 (some (bF e.g (·=G fr2 mid2)))) (nh:=n) (kk:=0) (z:=.bool false) (z':=z) (v:=.bool pass) (es:=#[]) (a₂:=G fr mid)
  (fun w d h=>⟨h.v,h.t,h.s⟩) hKc hne (by rw[hB.size];exact hB.lt _ _ hseat) hj rfl hM0 ha rfl (λdd=>hsend _ _) (by simp) C2 (λ_ _=>rfl) (.inl rfl) (λT' _=>by
    rw[upd_same];exact hway _ (hlt hB.tu.v) (hlt hB.tu.t) λj hj=>hlt (hB.tu.s j hj))
 refine Ends.run hr ?_;obtain⟨kp,hkp⟩:=hB.chn _ hch;rw[hkp] at hchan;cases hchan;cases hHome
 let W':World:=(d.w.at dd).setChan (e.g.ps i) 0 #[] false (kk+1) (kk+1) false
 have hW:∀ b,e.g.ps i≠b->W'.heap[b]?=d.w.heap[b]?:=λb hne=>heap_setChan_ne (d.w.at dd) 0 #[] false (kk+1) (kk+1) false hne;have hWs:W'.heap.size=d.w.heap.size:=size_setChan ..;have hWt:∀ b,d.own b≠.tu->W'.heap[b]?=d.w.heap[b]?:=λb h=>hW b λz=>h (by rw[<-z];exact hb.c _ hch)
 have hbase:Base e N (upd Inb 0 (some (bF e.g (·=G fr2 mid2)))) (e.b+i) gs' T' ⟨W',d.own⟩ ov br:=by
  refine⟨⟨max B d.w.heap.size,q',?_⟩,hsz'.trans hB.size,λx' s' hx=>?_,?_,hb,λb h=>(hWt b (by rw[hb.ro b h];simp)).trans (hB.rbl b h),?_,hshp,hB.io⟩
  ·have hmem:(λg=>gA Inb 0 g/\(upd Inb 0 (some (bF e.g (·=G fr2 mid2))) g≠none\/g=e.b+i))=gA (upd Inb 0 (some (bF e.g (·=G fr2 mid2)))) (e.b+i):=by
    funext g
    apply propext;refine⟨λh=>h.2,λh=>⟨?_,h⟩⟩
    by_cases eg:g=0
    ·exact .inr eg
    ·rcases h with h | rfl
     ·rw [upd_ne _ _ eg] at h;exact .inl h
     ·exact .inl (by rw[hseat];simp)
   rw[<-hmem];exact R
  ·by_cases ex:x'=0
   ·rw [ex,<-hB.size];exact(Array.getElem?_eq_some_iff.1 ha).1
   ·rw [upd_ne _ _ ex] at hx;exact hB.lt x' s' hx
  ·exact TuAt.setChan (w:=d.w.at dd) ⟨hB.tu.v,hB.tu.t,hB.tu.a,hB.tu.s,hB.tu.b⟩ (λx t s' h=>by rw[show (d.w.at dd).heap[e.g.ps i]?=_ from hkp] at h;cases h) ..
  ·intro c hc
   by_cases ec:e.g.ps i=c
   ·subst ec
    exact⟨kk+1,heap_setChan _ _ _ _ _ _ _ _ (aB hkp)⟩
   ·obtain ⟨k',hk'⟩:=hB.chn c hc
    exact⟨k',(hW c ec).trans hk'⟩
 have hres1:∀ j,Res j d ⟨W',d.own⟩:=λj=>⟨by rw[hWs];exact Nat.le_refl _,λb _ ho=>⟨rfl,hWt b (by rcases ho with ho | ho <;> rw[ho] <;> simp)⟩,λb hb h=>⟨by rw[<-hWs];exact hb,h⟩⟩;obtain⟨H₁,hre1,hre2⟩:=hM.real;have hreal:pE e m.s ⟨W',d.own⟩:=⟨H₁,e.rep m.s H₁ d.w W' hre1 (λb hsh=>hWt b (by rw[(hre2 b).2 hsh];simp)) (λb c t r hrb h=>⟨r,(hWt b (by rw[hb.ro b hrb];simp)).trans h⟩),hre2⟩;have hth:=hwt ⟨W',d.own⟩ m.s (hres.trans (hres1 i)) hb hreal
 have hrec:gs'[e.b+i]?=some (Go.Conc.served g' (recvd false (.bool pass) true)):=by
  rw[hg0,<-commResult_one];rfl
-- the token's return
 have back:∀ (m':Mach e.S) (Inb':Nat->Option Seat) (ov':Nat->Bool) (s':e.S) (t:Stg e.S) d' gs2 sl2 T2 br',m'=⟨s',upd m.th i t⟩->m.put i κ=some m'->(∀ x,x≠e.b+i->Inb' x=upd Inb 0 (some (bF e.g (·=G fr2 mid2))) x)->(∀ j,j≠i->ov' j=ov j)->Base e N Inb' 0 gs2 T2 d' ov' br'->gs2[0]?=some (Go.Conc.served (G fr2 mid2) (recvd false (.agg #[]) true))->Moved i ⟨W',d.own⟩ d'->pE e s' d'->oU e i Inb' d' ov' t->Tame.Ends P e.Post (crowd gs2 d'.w sl2) T2:=by
  rintro m' Inb' ov' s' t d' gs2 sl2 T2 br' rfl hput hI' hov' hb2 hg2 hmv hreal2 hst;obtain⟨hcl,hh⟩:=oG (d1:=⟨W',d.own⟩) hl rfl hWs hWt hmv;refine hgo _ hput _ hh d' (dY hcl) hb2.lbl (hinv hI) Inb' gs2 sl2 T2 ov' br' hb2 hg2 ⟨hreal2,λj hj=>?_⟩
  by_cases ej:j=i
  ·subst ej
   simp only[upd_same];exact hst
  ·simp only [upd_ne _ _ ej]
   refine jT (hM.th j hj) ((hres1 j).trans (hmv.res ej)) ?_ (hov' j ej);rw[hI' _ (by omega),upd_ne _ _ (by omega)]
 have fin:∀ s',κ=.ret s'->WRet e i s' (Go.Conc.served g' (recvd false (.bool pass) true)) ⟨W',d.own⟩->Tame.Ends P e.Post (crowd gs' W' sl') T':=by
  rintro s' rfl hw;refine hw N _ (·=G fr2 mid2) gs' sl' T' ov br hbase hrec (upd_same ..) hi hov ?_;rintro d' gs2 sl2 T2 gg br' hb2 hg2 rfl hmv hreal2;exact back _ _ _ s' .over d' gs2 sl2 T2 br' rfl rfl (λx hx=>upd_ne _ _ hx) (λj hj=>upd_ne _ _ hj) hb2 hg2 hmv hreal2 ⟨upd_same ..,upd_same ..⟩
 cases pass with
 | false =>
   simp only[Bool.false_eq_true,if_false] at hκ;exact fin m.s hκ hth.2
 | true =>
   simp only[if_true] at hκ;have h1:WTh e i (k m.s) (Go.Conc.served g' (recvd false (.bool true) true)) ⟨W',d.own⟩:=hth.1;cases hkk:k m.s with
   | cut=>exact absurd (hκ.trans hkk) hcut
   | ret s'=>rw[hkk] at h1;exact fin s' (hκ.trans hkk) h1
   | yield s' k' =>
     rw[hkk] at h1 hκ;subst hκ;refine h1 N _ (·=G fr2 mid2) gs' sl' T' ov br hbase hrec (upd_same ..) hi hov ?_;rintro g'' d' gs2 sl2 T2 gg br' hb2 hg2 rfl hmv ⟨hreal2,hwt2⟩;exact back _ _ _ s' (.wait k') d' gs2 sl2 T2 br' rfl rfl (λx hx=>upd_ne _ _ hx) (λj hj=>rfl) hb2 hg2 hmv hreal2 ⟨hov,g'',d',upd_same ..,Res.refl _ _,hwt2⟩
end
end Go.Turn
namespace Go.Turn
open Go.Conc Go.Tame
open Go.ConcN (upd upd_ne upd_same)
section
variable {P:Program}{e:Env P}
theorem mn_hire {N:Nat}{m:Mach e.S}{fr fr1 fr2 bf:Frame}{mid mid2:List Frame}{x:World}{i n:Nat}(hi:i<e.g.n) (hk:m.th i=.unborn) (hNi:N=e.b+i) (κ:Tree e.S e.S) (hcut:κ≠.cut)
  (hspawn:∀ (main:Bool) w,stepG P main (G fr mid) w=.spawn (G fr1 mid) (G bf []) w #[])
  (hway:∀ B,e.g.tv<B->e.g.tb<B->(∀ j,j<e.g.n->e.g.sb j<B)->Sits P true (KT e.g) (Still e.g) B (bF e.g (·=G fr2 mid2)) n (G fr1 mid))
  (hinv:Inv P fr mid->Inv P (fr2.finish (.agg #[])) mid2) (hinvb:Inv P bf [])
  (hborn:∀ H x',e.Rep m.s H x'->Th e i κ bf [] x')
  (hgo:∀ m',m.put i κ=some m'->∀ x',HeldM x x'->Mn e (N+1) m' (fr2.finish (.agg #[])) mid2 x'):Mn e N m fr mid x:=by
 intro d hl hb hI Inb gs sl T ov br hB ha hM;have hpos:=e.pos;have hst:=hM.th i hi;rw[hk] at hst;obtain⟨hnone,hov,hfresh⟩:=hst;obtain⟨B,q,C⟩:=hB.cfg;have C:=kK (Nat.le_max_left B d.w.heap.size) C;have hbk:iK e.g e.g.bk:=.inl rfl;obtain⟨kc,hkc⟩:=hB.chn _ hbk;have hlt:∀ {b:Nat}{o:Obj},d.w.heap[b]?=some o->b<max B d.w.heap.size:=λh=>Nat.lt_of_lt_of_le (aB h) (Nat.le_max_right _ _);have hM0:gA Inb 0 0:=.inr rfl
 have C2:=C.reseat hM0 (bF e.g (·=G fr2 mid2)) (Seat.one_wf _ _ _ _) (λx' s' c hx hs hc hc'=>by
   rw[Seat.one_has.1 hc'] at hc
   rcases rG hB hs hc with⟨h1,_⟩ | ⟨j,hj,_,h1⟩
   ·exact hx h1
   ·exact e.apart j hj h1.symm) (λc hc=>by rw[Seat.one_has.1 hc];exact⟨0,kc,hkc⟩) (λc hc=>by rw[Seat.one_has.1 hc];exact hlt hkc)
 have hne:(e.b+i)≠0:=by omega
 have hgs:gs.size=e.b+i:=hB.size.trans hNi
 have hshp:∀ x' s',upd Inb 0 (some (bF e.g (·=G fr2 mid2))) x'=some s'->(x'=0/\∃ H,s'=bF e.g H)\/∃ j H,j<e.g.n/\x'=e.b+j/\s'=dX e.g j H:=by
  intro x' s' hx
  by_cases ex:x'=0
  ·subst ex
   rw[upd_same] at hx;cases hx;exact .inl ⟨rfl,_,rfl⟩
  ·rw [upd_ne _ _ ex] at hx
   exact hB.shp x' s' hx
 obtain ⟨NN,gs',dd,sl',T',q',hr,hsz',hg0,R⟩:=hire_give (sl:=sl) (Inb':=upd Inb 0 (some (bF e.g (·=G fr2 mid2)))) (nh:=n) (es:=#[]) (a':=G fr1 mid) (child:=G bf [])
  (fun w d h=>⟨h.v,h.t,h.s⟩) hM0 ha rfl (λdd=>hspawn _ _) (by simp) C2 (by rw[hgs,upd_ne _ _ hne];exact hnone) (λ_ _=>rfl) (.inl rfl) (λT' _=>by
    rw[upd_same];exact hway _ (hlt hB.tu.v) (hlt hB.tu.t) λj hj=>hlt (hB.tu.s j hj))
 refine Ends.run hr ?_;rw[hgs] at hg0 R hsz'
 let W':World:=d.w.at dd
 have hW:∀ b:Nat,W'.heap[b]?=d.w.heap[b]?:=λb=>rfl
 have hbase:Base e (N+1) (upd Inb 0 (some (bF e.g (·=G fr2 mid2)))) (e.b+i) gs' T' ⟨W',d.own⟩ ov br:=by
  refine⟨⟨max B d.w.heap.size,q',?_⟩,by rw[hsz',hNi],λx' s' hx=>?_,⟨hB.tu.v,hB.tu.t,hB.tu.a,hB.tu.s,hB.tu.b⟩,hb,hB.rbl,hB.chn,hshp,hB.io⟩
  ·have hmem:(λg=>(gA Inb 0 g/\upd Inb 0 (some (bF e.g (·=G fr2 mid2))) g≠none)\/g=e.b+i)=gA (upd Inb 0 (some (bF e.g (·=G fr2 mid2)))) (e.b+i):=by
    funext g
    apply propext;refine⟨λh=>h.imp (·.2) id,λh=>h.imp (λh=>⟨?_,h⟩) id⟩
    by_cases eg:g=0
    ·exact .inr eg
    ·rw [upd_ne _ _ eg] at h;exact .inl h
   rw[<-hmem];exact R
  ·by_cases ex:x'=0
   ·subst ex;omega
   ·rw [upd_ne _ _ ex] at hx;exact Nat.lt_succ_of_lt (hB.lt x' s' hx)
 have hres1:∀ j,Res j d ⟨W',d.own⟩:=λj=>⟨Nat.le_refl _,λb _ ho=>⟨rfl,rfl⟩,λb hb h=>⟨hb,h⟩⟩;obtain⟨H₁,hre1,hre2⟩:=hM.real;have hreal:e.Rep m.s H₁ W'/\∀ b,d.own b=.sh ↔ H₁ b:=⟨e.rep m.s H₁ d.w W' hre1 (λb hsh=>rfl) (λb c t r _ h=>⟨r,h⟩),hre2⟩;have hmw:∀ o:Ow,meW i o=true ↔ o=.wk i\/o=.sh:=λo=>by cases o <;> simp[meW]
 have hclear:mG (meW i) ⟨W',d.own⟩:=by
  intro b o hm hobj
  rcases(hmw _).1 hm with h1 | h1
  ·exact absurd h1 (hfresh b (aB hobj))
  ·obtain ⟨c,t,r,h3,_⟩:=e.near m.s H₁ W' b hreal.1 ((hreal.2 b).1 h1)
   rw[show W'.heap[b]?=_ from h3] at hobj;cases hobj
   trivial
 have hvl:=dY hclear
 have hth:WTh e i κ (G bf []) ⟨W',d.own⟩:=by
  refine hborn H₁ (eQ (meW i) ⟨W',d.own⟩) (e.rep m.s H₁ W' _ hreal.1 (λb hsh=>?_) λb c t r _ hx=>jQ hx) ⟨W',d.own⟩ hvl hb hinvb;have h2:meW i (d.own b)=true:=(hmw _).2 (.inr ((hreal.2 b).2 hsh));simp only[eQ,Array.getElem?_mapIdx,h2,if_true];cases W'.heap[b]? <;> rfl
 rw[mT] at hth
 have back:∀ (m':Mach e.S) (Inb':Nat->Option Seat) (ov':Nat->Bool) (s':e.S) (t:Stg e.S) d' gs2 sl2 T2 br',m'=⟨s',upd m.th i t⟩->m.put i κ=some m'->(∀ x,x≠e.b+i->Inb' x=upd Inb 0 (some (bF e.g (·=G fr2 mid2))) x)->(∀ j,j≠i->ov' j=ov j)->Base e (N+1) Inb' 0 gs2 T2 d' ov' br'->gs2[0]?=some (Go.Conc.served (G fr2 mid2) (recvd false (.agg #[]) true))->Moved i ⟨W',d.own⟩ d'->pE e s' d'->oU e i Inb' d' ov' t->Tame.Ends P e.Post (crowd gs2 d'.w sl2) T2:=by
  rintro m' Inb' ov' s' t d' gs2 sl2 T2 br' rfl hput hI' hov' hb2 hg2 hmv hreal2 hst;obtain⟨hcl,hh⟩:=oG (d1:=⟨W',d.own⟩) hl rfl rfl (λ_ _=>rfl) hmv;refine hgo _ hput _ hh d' (dY hcl) hb2.lbl (hinv hI) Inb' gs2 sl2 T2 ov' br' hb2 hg2 ⟨hreal2,λj hj=>?_⟩
  by_cases ej:j=i
  ·subst ej
   simp only[upd_same];exact hst
  ·simp only [upd_ne _ _ ej]
   refine jT (hM.th j hj) ((hres1 j).trans (hmv.res ej)) ?_ (hov' j ej);rw[hI' _ (by omega),upd_ne _ _ (by omega)]
 refine hth (N+1) _ (·=G fr2 mid2) gs' sl' T' ov br hbase hg0 (upd_same ..) hi hov ?_;cases κ with
 | cut=>exact absurd rfl hcut
 | ret s' =>
   rintro d' gs2 sl2 T2 gg br' hb2 hg2 rfl hmv hreal2;exact back _ _ _ s' .over d' gs2 sl2 T2 br' rfl rfl (λx hx=>upd_ne _ _ hx) (λj hj=>upd_ne _ _ hj) hb2 hg2 hmv hreal2 ⟨upd_same ..,upd_same ..⟩
 | yield s' k' =>
   rintro g'' d' gs2 sl2 T2 gg br' hb2 hg2 rfl hmv ⟨hreal2,hwt2⟩;exact back _ _ _ s' (.wait k') d' gs2 sl2 T2 br' rfl rfl (λx hx=>upd_ne _ _ hx) (λj hj=>rfl) hb2 hg2 hmv hreal2 ⟨hov,g'',d',upd_same ..,Res.refl _ _,hwt2⟩
end
end Go.Turn
namespace Go.Turn
open Go.Conc Go.Tame
open Go.ConcN (upd upd_ne upd_same)
section
variable {P:Program}{Post:Value->World->Prop}
structure Kept0 (W0:World) (d:Wd):Prop where
 lab:∀ b,d.own b=.ro ↔ b<W0.heap.size
 old:∀ b,b<W0.heap.size->d.w.heap[b]?=W0.heap[b]?
theorem Kept0.le {W0:World}{d:Wd}(h:Kept0 W0 d):W0.heap.size<=d.w.heap.size:=by
 rcases Nat.eq_zero_or_pos W0.heap.size with hz | hp
 ·omega
 ·have h1:=h.old (W0.heap.size-1) (by omega)
  rw[Array.getElem?_eq_getElem (show W0.heap.size-1<W0.heap.size by omega)] at h1;have:=aB h1
  omega
theorem Kept0.ext {W0:World}{d:Wd}{w':World}(h:Kept0 W0 d) (hk:Kep (fast meM d) d.w w'):Kept0 W0 ⟨w',ext d.own d.w.heap.size .mn⟩:=by
 have hle:=h.le;refine⟨λb=>?_,λb hb=>?_⟩
 ·show Turn.ext d.own d.w.heap.size .mn b=.ro ↔ _
  unfold Turn.ext
  split
  ·exact h.lab b
  ·constructor
   ·intro z;cases z
   ·intro z;omega
 ·have hr:=(h.lab b).2 hb
  have h1:=h.old b hb;rw[Array.getElem?_eq_getElem hb] at h1 ⊢;exact cX hk (by rw[hr];rfl) h1
def Al (P:Program) (Post:Value->World->Prop) (W0:World) (N:Nat) (fr:Frame) (mid:List Frame) (x:World):Prop:=
 ∀ d,Like (fast meM d) x d.w->Kept0 W0 d->Inv P fr mid->∀ gs sl T q B,Leavers P T gs q->Past (λ_=>False) B T->gs[0]?=some (G fr mid)->gs.size=N->Tame.Ends P Post (crowd gs d.w sl) T
theorem Al.re {W0:World}{N:Nat}{fr:Frame}{mid:List Frame}{x:World}(h:Al P Post W0 N fr mid x) (τ:Nat->Question->Nat) (n:Nat):Al P Post W0 N fr mid (x.re τ n):=
 λd hl=>h d ⟨hl.size,hl.os,hl.output,hl.blk⟩
theorem al_close (hP:Prog P) {W0:World}{N:Nat}{fr:Frame}{mid:List Frame}{x:World}
  (h:∀ τ n,∃ NN fr' mid' x',runN P NN (lone fr (mid++[aV P]) (x.re τ n))=.next (lone fr' (mid'++[aV P]) x')/\Al P Post W0 N fr' mid' x'):Al P Post W0 N fr mid x:=by
 intro d hl hK0 hI gs sl T q B hL hp ha hs;have hfit:Fit (λ_=>True) (λ_=>False) (fast meM d):=⟨λ_ _ _=>trivial,λ_ _ _ _=>trivial,λ_ h=>h.elim,λ_ h=>h.elim⟩;refine hold (GS:=λfr mid x=>Al P Post W0 N fr mid x) (Mem:=λg=>g=0) (Inb:=λ_=>none) (h:=0) hfit hP (λ_ _ _ τ n h=>h.re τ n) (cs:=[]) (N0:=N) (w0:=d.w) ?_ hI hl (Kep.refl _ _) (n:=0) (p:=λ_ _=>0) (λτ _=>h τ 0) ⟨B,q,ring_begin (λ_ h=>h.elim) hL hp trivial⟩ hs (by simpa using ha);intro fr' mid' x' w' gs' sl' T' hT hI' hl' hk hc hsz ha';obtain⟨B',q',C⟩:=hc;obtain⟨h1,h2⟩:=ring_end C rfl (λ_ _=>rfl);exact hT ⟨w',ext d.own d.w.heap.size .mn⟩ (oB rfl hk hl') (hK0.ext hk) hI' gs' sl' T' q' B' h1 h2 (by simpa using ha') hsz
def lgAl (hP:Prog P) (Post:Value->World->Prop) (W0:World) (N:Nat):Lg P Unit where
 T _ fr mid x:=Al P Post W0 N fr mid x
 tail:=[aV P]
 strict:=False
 re τ n h:=h.re τ n
 close h:=al_close hP λτ n=>by
  obtain⟨fr',mid',x',⟨NN,hs⟩,_,hT⟩:=h τ n;exact⟨NN,fr',mid',x',hs,hT⟩
variable {e:Env P}
theorem mn_end {W0:World}{N:Nat}{m:Mach e.S}{fr:Frame}{mid:List Frame}{x:World}(hover:∀ i,i<e.g.n->m.th i=.over)
  (h:∀ d ov br,Like (fast meM d) x d.w->Lbl e.g e.RB d.own->pE e m.s d->TuAt e.g ov br d.w->(∀ b,e.RB b->d.w.heap[b]?=some (e.rv b))->(d.w.os=e.os/\d.w.output=e.out)->∃ own,Like (fast meM ⟨d.w,own⟩) (eQ meM ⟨d.w,own⟩) d.w/\Kept0 W0 ⟨d.w,own⟩/\Al P e.Post W0 N fr mid (eQ meM ⟨d.w,own⟩)):Mn e N m fr mid x:=by
 intro d hl hb hI Inb gs sl T ov br hB ha hM;obtain⟨B,q,C⟩:=hB.cfg
 have hI0:∀ i,i≠0->Inb i=none:=λi hi=>by
  cases hx:Inb i with
  | none=>rfl
  | some s =>
    rcases hB.shp i s hx with⟨h0,_⟩ | ⟨j,H,hj,rfl,_⟩
    ·exact absurd h0 hi
    ·have:=hM.th j hj
     rw[hover j hj] at this;rw[this.1] at hx;cases hx
 obtain⟨h1,h2⟩:=ring_end C (.inr rfl) hI0;obtain⟨own,hl2,hk0,hal⟩:=h d ov br hl hb hM.real hB.tu hB.rbl hB.io;exact hal ⟨d.w,own⟩ hl2 hk0 hI gs sl T q B h1 h2 ha hB.size
structure Begun (e:Env P) (m:Mach e.S) (d:Wd) (own:Nat->Ow):Prop where
 lbl:Lbl e.g e.RB own
 rbl:∀ b,e.RB b->d.w.heap[b]?=some (e.rv b)
 io:d.w.os=e.os/\d.w.output=e.out
 clear:mG meM ⟨d.w,own⟩
 real:pE e m.s ⟨d.w,own⟩
 tu:∃ br,TuAt e.g (λ_=>false) br d.w
 chn:∀ c,iK e.g c->∃ k,d.w.heap[c]?=some (.chan 0 #[] false k k false)
 unborn:∀ i,i<e.g.n->m.th i=.unborn
 nowk:∀ i b,b<d.w.heap.size->own b≠.wk i
theorem mn_begin {W0:World}{N:Nat}{m:Mach e.S}{fr:Frame}{mid:List Frame}{x:World}
  (h:∀ d,Like (fast meM d) x d.w->Kept0 W0 d->∃ own,Begun e m d own/\Mn e N m fr mid (eQ meM ⟨d.w,own⟩)):Al P e.Post W0 N fr mid x:=by
 intro d hl hK0 hI gs sl T q B hL hp ha hs;obtain⟨own,hb,hm⟩:=h d hl hK0;obtain⟨br,htu⟩:=hb.tu;have C:=ring_begin (K:=KT e.g) (Still:=Still e.g) (w:=d.w) (λl ⟨a,h1,_⟩=>by rw[h1];rfl) hL hp htu.k;refine hm ⟨d.w,own⟩ (dY hb.clear) hb.lbl hI (λ_=>none) gs sl T (λ_=>false) br ⟨⟨B,q,?_⟩,hs,λ_ _ h=>(by cases h),htu,hb.lbl,hb.rbl,hb.chn,λ_ _ h=>(by cases h),hb.io⟩ ha ⟨hb.real,λi hi=>?_⟩
 ·have : gA (λ_=>none) 0=λg=>g=0:=by
   funext g
   simp[gA]
  rw[this];exact C
 ·rw [hb.unborn i hi]
  exact⟨rfl,rfl,λb hlt=>hb.nowk i b hlt⟩
end
end Go.Turn
namespace Go.Turn
open Go.Conc Go.Tame
open Go.ConcN (upd upd_ne upd_same)
section
variable {S X:Type}
def Tree.Whole:Tree S X->Prop
 | .ret _=>True
 | .yield _ k=>∀ s,(k s).Whole
 | .cut=>False
theorem Tree.Whole.ne {t:Tree S X}(h:t.Whole):t≠.cut:=λe=>by rw[e] at h;exact h
def Tree.bind {Y:Type}(f:X->Tree S Y):Tree S X->Tree S Y
 | .ret x=>f x
 | .yield s k=>.yield s λs'=>(k s').bind f
 | .cut=>.cut
theorem Tree.Whole.bind {Y:Type}{f:X->Tree S Y}(hf:∀ x,(f x).Whole):∀ {t:Tree S X},t.Whole->(t.bind f).Whole
 | .ret x,_=>hf x
 | .yield _ _,h=>λs=>Tree.Whole.bind hf (h s)
 | .cut,h=>h
def Stg.Good:Stg S->Prop
 | .unborn=>False
 | .wait _=>True
 | .over=>True
def Mach.did (m:Mach S) (i:Nat):Tree S S->Mach S
 | .yield s k=>⟨s,upd m.th i (.wait k)⟩
 | .ret s=>⟨s,upd m.th i .over⟩
 | .cut=>m
theorem Mach.put_did {m:Mach S}{i:Nat}{t:Tree S S}(h:t≠.cut):m.put i t=some (m.did i t):=by
 cases t with
 | cut=>exact absurd rfl h
 | _=>rfl
def Mach.go (m:Mach S) (i:Nat):Mach S:=match m.th i with
 | .wait k=>m.did i (k m.s)
 | _=>m
def Mach.fin (m:Mach S) (i:Nat):Mach S:=match m.th i with
 | .wait _=>⟨m.s,upd m.th i .over⟩
 | _=>m
structure Run (S:Type) where
 m:Mach S
 order:List Int
def Run.may (n most:Nat) (c:Run S) (i:Int):Bool:=decide (0<=i) && decide (i<n) && !(c.m.th i.toNat).isOver && !(c.order.length==most)
def Run.turn (n most:Nat) (c:Run S) (i:Int):Run S:=if c.may n most i then⟨c.m.go i.toNat,c.order++[i]⟩ else c
def Run.turns (n most:Nat) (c:Run S) (l:List Int):Run S:=l.foldl (Run.turn n most) c
def Mach.left (m:Mach S):Nat->Nat
 | 0=>0
 | n+1=>m.left n+if (m.th n).isOver then 0 else 1
def Run.rounds (n most:Nat):Nat->Run S->Run S
 | 0,c=>c
 | f+1,c=>if 0<c.m.left n/\c.order.length<most then Run.rounds n most f (c.turns n most ((List.range n).map (λ(i:Nat)=>(i:Int)))) else c
def Mach.born (birth:Nat->S->Tree S S) (m:Mach S):Nat->Mach S
 | 0=>m
 | n+1=>(m.born birth n).did n (birth n (m.born birth n).s)
def Mach.ended (m:Mach S):Nat->Mach S
 | 0=>m
 | n+1=>(m.ended n).fin n
def bI (birth:Nat->S->Tree S S) (n most:Nat) (sched:List Int) (s:S):Run S:=
 ((⟨Mach.born birth ⟨s,λ_=>.unborn⟩ n,[]⟩:Run S).turns n most sched).rounds n most most
theorem gX {m:Mach S}{i j:Nat}{t:Tree S S}(h:j≠i):(m.did i t).th j=m.th j:=by
 cases t with
 | cut=>rfl
 | _=>exact upd_ne _ _ h
theorem did_good {m:Mach S}{i:Nat}{t:Tree S S}(h:t≠.cut\/(m.th i).Good):((m.did i t).th i).Good:=by
 cases t with
 | cut=>exact h.resolve_left (λh=>h rfl)
 | ret s=>simp[Mach.did,upd_same,Stg.Good]
 | yield s k=>simp only[Mach.did,upd_same,Stg.Good]
theorem go_other {m:Mach S}{i j:Nat}(h:j≠i):(m.go i).th j=m.th j:=by
 unfold Mach.go
 split
 ·exact gX h
 ·rfl
theorem go_good {m:Mach S}{i j:Nat}(h:(m.th j).Good):((m.go i).th j).Good:=by
 by_cases e:j=i
 ·subst e
  unfold Mach.go
  split
  ·exact did_good (.inr h)
  ·exact h
 ·rw [go_other e];exact h
theorem qL {m:Mach S}{i j:Nat}(h:j≠i):(m.fin i).th j=m.th j:=by
 unfold Mach.fin
 split
 ·exact upd_ne _ _ h
 ·rfl
theorem fin_s {m:Mach S}{i:Nat}:(m.fin i).s=m.s:=by unfold Mach.fin;split <;> rfl
theorem fin_over {m:Mach S}{i:Nat}(h:(m.th i).Good):(m.fin i).th i=.over:=by
 unfold Mach.fin
 split
 ·exact upd_same ..
 ·rename_i h1
  cases ht:m.th i with
  | over=>rfl
  | unborn=>rw[ht] at h;exact h.elim
  | wait k=>exact absurd ht (h1 k)
theorem ended_s (m:Mach S):∀ n,(m.ended n).s=m.s
 | 0=>rfl
 | n+1=>fin_s.trans (ended_s m n)
theorem iZ (m:Mach S):∀ n j,n<=j->(m.ended n).th j=m.th j
 | 0,_,_=>rfl
 | n+1,j,h=>(qL (by omega)).trans (iZ m n j (by omega))
theorem oM {m:Mach S}{n:Nat}(hg:∀ i,i<n->(m.th i).Good):∀ k,k<=n->∀ i,i<k->(m.ended k).th i=.over
 | 0,_,_,h=>by omega
 | k + 1,hk,i,h=>by
   by_cases e:i=k
   ·subst e
    exact fin_over (by rw[iZ m i i (Nat.le_refl _)];exact hg i (by omega))
   ·exact (qL e).trans (oM hg k (by omega) i (by omega))
theorem oS (birth:Nat->S->Tree S S) (m:Mach S):∀ n j,n<=j->(m.born birth n).th j=m.th j
 | 0,_,_=>rfl
 | n+1,j,h=>(gX (by omega)).trans (oS birth m n j (by omega))
theorem qQ {birth:Nat->S->Tree S S}(m:Mach S):∀ n,(∀ i,i<n->birth i (m.born birth i).s≠.cut)->∀ i,i<n->((m.born birth n).th i).Good
 | 0,_,_,h=>by omega
 | n + 1,hb,i,h=>by
   by_cases e:i=n
   ·subst e;exact did_good (.inl (hb _ (by omega)))
   ·show (((m.born birth n).did n _).th i).Good
    rw[gX e];exact qQ m n (λi hi=>hb i (by omega)) i (by omega)
theorem oC {m m':Mach S}{i:Nat}(hm:∀ j,j≠i->m'.th j=m.th j):∀ n,n<=i->m'.left n=m.left n
 | 0,_=>rfl
 | n+1,h=>by simp only[Mach.left];rw[hm n (by omega),oC hm n (by omega)]
theorem qE {m m':Mach S}{i:Nat}(hm:∀ j,j≠i->m'.th j=m.th j) (ho:(m.th i).isOver=false):∀ n,i<n->m.left n=m'.left n+if (m'.th i).isOver then 1 else 0
 | 0,h=>by omega
 | n + 1,h=>by
   simp only[Mach.left]
   by_cases e:i=n
   ·subst e
    rw[oC hm i (Nat.le_refl _),ho];cases (m'.th i).isOver <;> simp
   ·rw [hm n (by omega),qE hm ho n (by omega)]
    omega
theorem left_le (m:Mach S):∀ n,m.left n<=n
 | 0=>Nat.le_refl _
 | n+1=>by
   have:=left_le m n;simp only[Mach.left]
   split <;> omega
theorem left_pos {m:Mach S}:∀ n,0<m.left n->∃ i,i<n/\(m.th i).isOver=false
 | 0,h=>by simp[Mach.left] at h
 | n + 1,h=>by
   simp only[Mach.left] at h
   by_cases e:(m.th n).isOver=true
   ·obtain ⟨i,h1,h2⟩:=left_pos (m:=m) n (by simpa [e] using h)
    exact⟨i,by omega,h2⟩
   ·exact ⟨n,by omega,by simpa using e⟩
theorem gJ {n most:Nat}{c:Run S}{i:Int}(h:c.order.length<=most):(c.turn n most i).order.length<=most/\c.order.length<=(c.turn n most i).order.length:=by
 unfold Run.turn
 split
 ·rename_i hm
  simp only[Run.may,Bool.and_eq_true,Bool.not_eq_true',beq_eq_false_iff_ne,ne_eq] at hm;simp only[List.length_append,List.length_cons,List.length_nil]
  omega
 ·exact ⟨h,Nat.le_refl _⟩
theorem eC {n most:Nat}:∀ (l:List Int) {c:Run S},c.order.length<=most->(c.turns n most l).order.length<=most/\c.order.length<=(c.turns n most l).order.length
 | [],c,h=>⟨h,Nat.le_refl _⟩
 | i::l,c,h=>by
   have h1:=gJ (n:=n) (i:=i) h;have h2:=eC (n:=n) l h1.1;exact⟨h2.1,Nat.le_trans h1.2 h2.2⟩
theorem pK {n most:Nat}{c:Run S}{i:Int}(h:∀ j,j<n->(c.m.th j).Good):∀ j,j<n->((c.turn n most i).m.th j).Good:=λj hj=>by
 unfold Run.turn
 split
 ·exact go_good (h j hj)
 ·exact h j hj
theorem mY (n most:Nat) (c:Run S) (l:List Int) (i:Int):c.turns n most (l++[i])=(c.turns n most l).turn n most i:=by simp[Run.turns]
theorem jR {n most:Nat}:∀ (l:List Int) (c:Run S),c.order.length<most->(∃ i:Nat,i<n/\(i:Int)∈l/\(c.m.th i).isOver=false)->c.order.length<(c.turns n most l).order.length
 | [],_,_,⟨i,_,h,_⟩=>by cases h
 | x :: l,c,hc,⟨i,hi,hm,ho⟩=>by
   by_cases hx:c.may n most x=true
   ·have h1:(c.turn n most x).order.length=c.order.length+1:=by simp[Run.turn,hx]
    have h2:=(eC (n:=n) (most:=most) l (c:=c.turn n most x) (by omega)).2
    show _<((c.turn n most x).turns n most l).order.length
    omega
   ·have e:c.turn n most x=c:=by simp[Run.turn,hx]
    show _<((c.turn n most x).turns n most l).order.length
    rw[e]
    rcases List.mem_cons.1 hm with rfl | hm
    ·refine absurd ?_ hx
     simp only[Run.may,Bool.and_eq_true,decide_eq_true_eq,Bool.not_eq_true',beq_eq_false_iff_ne,ne_eq,Int.toNat_natCast,ho,and_true]
     omega
    ·exact jR l c hc ⟨i,hi,hm,ho⟩
theorem dM {n most:Nat}{c:Run S}(h:¬(0<c.m.left n/\c.order.length<most)):∀ f,Run.rounds n most f c=c
 | 0=>rfl
 | f+1=>by simp[Run.rounds,h]
theorem lX {n most:Nat}:∀ (f g:Nat) (c:Run S),most-c.order.length<=f->most-c.order.length<=g->c.order.length<=most->Run.rounds n most f c=Run.rounds n most g c
 | 0,g,c,h1,h2,h3=>by rw[dM (λh=>by omega) g];rfl
 | f+1,0,c,h1,h2,h3=>by rw[dM (λh=>by omega) (f+1)];rfl
 | f + 1,g+1,c,h1,h2,h3=>by
   simp only[Run.rounds]
   by_cases h:0<c.m.left n/\c.order.length<most
   ·rw [if_pos h,if_pos h]
    obtain⟨i,hi,ho⟩:=left_pos n h.1;have hm:=jR (n:=n) (most:=most) ((List.range n).map λ(i:Nat)=>(i:Int)) c h.2 ⟨i,hi,List.mem_map.2 ⟨i,List.mem_range.2 hi,rfl⟩,ho⟩;have hl:=(eC (n:=n) ((List.range n).map λ(i:Nat)=>(i:Int)) h3).1;exact lX f g _ (by omega) (by omega) hl
   ·rw [if_neg h,if_neg h]
end
structure MInv {S:Type}(MI:Mach S->Prop) (n:Nat):Prop where
 step:∀ m i k,MI m->i<n->m.th i=.wait k->k m.s≠.cut/\MI (m.did i (k m.s))
theorem turn_mi {S:Type}{MI:Mach S->Prop}{n most:Nat}(hM:MInv MI n) {c:Run S}(h:MI c.m) (i:Int):MI (c.turn n most i).m:=by
 unfold Run.turn
 split
 ·rename_i hm
  simp only[Run.may,Bool.and_eq_true,decide_eq_true_eq] at hm
  show MI (c.m.go i.toNat)
  unfold Mach.go
  split
  ·rename_i k hk
   exact(hM.step _ _ _ h (by omega) hk).2
  ·exact h
 ·exact h
section
variable {P:Program}{e:Env P}
def lgM (hP:Prog P) (e:Env P):Lg P (Nat × Mach e.S) where
 T t fr mid x:=Mn e t.1 t.2 fr mid x
 tail:=[aV P]
 strict:=False
 re τ n h:=h.re τ n
 close h:=mn_close hP λτ n=>by
  obtain⟨fr',mid',x',⟨NN,hs⟩,_,hT⟩:=h τ n;exact⟨NN,fr',mid',x',hs,hT⟩
def lgA (hP:Prog P) (Post:Value->World->Prop) (W0:World):Lg P Unit where
 T _ fr mid x:=∀ N,Al P Post W0 N fr mid x
 tail:=[aV P]
 strict:=False
 re τ n h:=λN=>(h N).re τ n
 close h:=λN=>al_close hP λτ n=>by
  obtain⟨fr',mid',x',⟨NN,hs⟩,_,hT⟩:=h τ n;exact⟨NN,fr',mid',x',hs,hT N⟩
theorem gM {hP:Prog P}{N:Nat}{m:Mach e.S}{fr:Frame}{mid:List Frame}{x:World}(h:∀ ov br,Tv e.g ov br x->(∀ i,i<e.g.n->ov i=(m.th i).isOver)->(lgM hP e).T (N,m) fr mid x):(lgM hP e).T (N,m) fr mid x:=mn_tu h
theorem HeldM.refl (x:World):HeldM x x:=⟨Nat.le_refl _,λ_ _ _ _ h _=>h⟩
theorem HeldM.trans {a b c:World}(h:HeldM a b) (k:HeldM b c):HeldM a c:=⟨Nat.le_trans h.size k.size,λb c t r h1 h2=>k.block b c t r (h.block b c t r h1 h2) h2⟩
structure HeldX (Z:Nat->Prop) (x x':World):Prop where
 size:x.heap.size<=x'.heap.size
 block:∀ (b:Nat) (c:Array Value) (t:TypeId) (r:Nat × Nat),¬Z b->x.heap[b]?=some (Obj.cells c t r)->(r.2<big\/r.2%2=1)->x'.heap[b]?=some (Obj.cells c t r)
theorem HeldX.refl (Z:Nat->Prop) (x:World):HeldX Z x x:=⟨Nat.le_refl _,λ_ _ _ _ _ h _=>h⟩
theorem HeldX.trans {Z:Nat->Prop}{a b c:World}(h:HeldX Z a b) (k:HeldX Z b c):HeldX Z a c:=⟨Nat.le_trans h.size k.size,λb c t r hz h1 h2=>k.block b c t r hz (h.block b c t r hz h1 h2) h2⟩
theorem HeldM.x {Z:Nat->Prop}{a b:World}(h:HeldM a b):HeldX Z a b:=⟨h.size,λb c t r _ h1 h2=>h.block b c t r h1 h2⟩
theorem HeldX.mono {Z Z':Nat->Prop}{a b:World}(h:HeldX Z a b) (hz:∀ b,Z b->Z' b):HeldX Z' a b:=⟨h.size,λb c t r h0 h1 h2=>h.block b c t r (λz=>h0 (hz b z)) h1 h2⟩
end
section
variable {P:Program}{κ:Type}{L:Lg P κ}{t:κ}{a:Act}{w:World}
theorem Lg.call {b:Frame}{k:List Item}{mid:List Frame}{ops:Array Oper}{i:Nat}{rest:List Nat}{o:Oper}{f:FuncId}{args:Array Value}{R:Value->κ->World->Prop}(ho:ops[i]?=some o) (hw:Region.wanted o (yielded ops a.tmps)=true) (he:∀ y,(execOp a.eval o).run P y=.ok (.enter f args) y)
  (h:Ccalls L f args t w R) (hT:∀ v t' w',R v t' w'->L.T t' ((b.at a (.inRegion ops (i::rest)::k)).finish v) mid w'):L.T t (b.at a (.inRegion ops (i::rest)::k)) mid w:=by
 refine L.steps λy τ n hy=>⟨Frame.enter P f args .normal,b.at a (.inRegion ops (i::rest)::k)::mid,y,.one (eY ho hw (he y)),λ_ hn=>⟨rfl,λg hg=>?_⟩,?_⟩
 ·rcases List.mem_cons.1 hg with rfl | hg
  ·exact ⟨hn.top,rfl⟩
  ·exact hn.below g hg
 ·have:=h (b.at a (.inRegion ops (i::rest)::k)) mid λv t' w' r=>hT v t' w' r
  rw[hy] at this;exact L.re_iff.1 this
def fK (f:Nat->Value) (tmps:List Value):List Nat->List Value
 | []=>tmps
 | s::l=>(fK f tmps l).set s (f s)
def iH (f:Nat->Value) (tmps:Array Value) (ns:List Nat):Array Value:=(fK f tmps.toList ns).toArray
def pC (tmps:List Value):List Nat->List Value
 | []=>tmps
 | s::l=>(pC tmps l).set s undef
def era (tmps:Array Value) (ns:List Nat):List Value:=pC tmps.toList ns
theorem lM (f:Nat->Value) (tmps:List Value):∀ ns,(fK f tmps ns).length=tmps.length
 | []=>rfl
 | s::l=>by simp[fK,lM f tmps l]
theorem oJ (tmps:List Value):∀ ns,(pC tmps ns).length=tmps.length
 | []=>rfl
 | s::l=>by simp[pC,oJ tmps l]
theorem fill_get (f:Nat->Value) (tmps:List Value):∀ (ns:List Nat) (j:Nat),j<tmps.length->(fK f tmps ns)[j]?=if j∈ns then some (f j) else tmps[j]?
 | [],j,_=>by simp[fK]
 | s :: l,j,h=>by
   simp only[fK,List.getElem?_set,lM,fill_get f tmps l j h,List.mem_cons]
   by_cases e:s=j
   ·subst e;simp[h]
   ·have e':j≠s:=λz=>e z.symm
    simp[e,e']
theorem rU (tmps:List Value):∀ (ns:List Nat) (j:Nat),j<tmps.length->(pC tmps ns)[j]?=if j∈ns then some undef else tmps[j]?
 | [],j,_=>by simp[pC]
 | s :: l,j,h=>by
   simp only[pC,List.getElem?_set,oJ,rU tmps l j h,List.mem_cons]
   by_cases e:s=j
   ·subst e;simp[h]
   ·have e':j≠s:=λz=>e z.symm
    simp[e,e']
theorem fill_era {a b:Array Value}{ns:List Nat}(h:era a ns=era b ns):a=iH (λs=>a.getD s undef) b ns:=by
 unfold era at h;have hs:a.toList.length=b.toList.length:=by have:=congrArg List.length h;simpa [oJ] using this
 apply Array.ext';apply List.ext_getElem?;intro j;simp only[iH]
 by_cases hj:j<a.toList.length
 ·rw [fill_get _ _ _ _ (by omega)]
  have:=congrArg (·[j]?) h;simp only[rU a.toList ns j hj,rU b.toList ns j (by omega)] at this
  by_cases hm:j∈ns
  ·have hj':j<a.size:=by simpa using hj
   simp[hm,Array.getD,hj']
  ·simpa [hm] using this
 ·rw [List.getElem?_eq_none (by omega),List.getElem?_eq_none (by rw[lM];omega)]
def Fra (a:Act) (ns:List Nat) (R:(Nat->Value)->World->Prop) (a':Act) (w':World):Prop:=a'.defers=a.defers/\era a'.tmps ns=era a.tmps ns/\R (λs=>a'.tmps.getD s undef) w'
theorem Fra.eq {ns:List Nat}{R:(Nat->Value)->World->Prop}{a a':Act}{w':World}(h:Fra a ns R a' w'):∃ f,a'=⟨iH f a.tmps ns,a.defers⟩/\R f w':=by
 obtain⟨h1,h2,h3⟩:=h;refine⟨_,?_,h3⟩;cases a' with
 | mk tm df =>
   simp only at h1 h2;subst h1;simp only[Act.mk.injEq,and_true];exact fill_era h2
theorem Lg.qU {b:Frame}{k:List Item}{mid:List Frame}{c:Code}(hs:¬L.strict) (ns:List Nat) (R:(Nat->Value)->World->Prop) (h:∀ (y:World) τ n,w=y.re τ n->c.wp P (Exit.then (Fra a ns R) λ_ _ _=>False) a y)
  (hT:∀ f w',R f w'->L.T t (b.at ⟨iH f a.tmps ns,a.defers⟩ k) mid w'):L.T t (b.at a (.code c::k)) mid w:=by
 refine Lg.code λK hK y τ n hy=>?_;refine wp_mono (h y τ n hy) λe a' w' q=>?_;cases e with
 | normal =>
   obtain⟨f,rfl,hR⟩:=Fra.eq q;exact hK _ w' (λz=>absurd z hs) (hT f w' hR)
 | _=>exact q
theorem Lg.reframe {b:Frame}{k:List Item}{mid:List Frame}{tm tm':Array Value}{df:List Deferred}(ns:List Nat) {R:(Nat->Value)->Prop}(h:∀ f,R f->L.T t (b.at ⟨iH f tm ns,df⟩ k) mid w) (he:era tm' ns=era tm ns) (hR:R λs=>tm'.getD s undef):L.T t (b.at ⟨tm',df⟩ k) mid w:=by
 have e:tm'=iH (λs=>tm'.getD s undef) tm ns:=fill_era he;have:=h _ hR;rw[<-e] at this;exact this
theorem Lg.bP {b:Frame}{k:List Item}{mid:List Frame}{tm:Array Value}{df:List Deferred}(FR:(Nat->Value)->Array Value) {R:(Nat->Value)->Prop}(h:∀ f,R f->L.T t (b.at ⟨FR f,df⟩ k) mid w) (he:tm=FR λs=>tm.getD s undef) (hR:R λs=>tm.getD s undef):L.T t (b.at ⟨tm,df⟩ k) mid w:=by
 rw[he];exact h _ hR
theorem Lg.eZ {b:Frame}{k:List Item}{mid:List Frame}{c:Code}(FR:(Nat->Value)->Array Value) (rel:(Nat->Value)->κ->World->Prop) (μ:(Nat->Value)->κ->World->Nat) {df:List Deferred}{f0:Nat->Value}(h0:rel f0 t w)
  (round:∀ f t w,rel f t w->(∀ f' t' w',rel f' t' w'->μ f' t' w'<μ f t w->L.T t' (b.at ⟨FR f',df⟩ (.inLoop c::k)) mid w')->L.T t (b.at ⟨FR f,df⟩ (.code c::.inLoop c::k)) mid w):L.T t (b.at ⟨FR f0,df⟩ (.code (.loop c)::k)) mid w:=by
 refine L.move (λ_ _=>step_loop) id ?_
 have key:∀ n f t w,μ f t w=n->rel f t w->L.T t (b.at ⟨FR f,df⟩ (.code c::.inLoop c::k)) mid w:=by
  intro n
  induction n using Nat.strongRecOn with
  | _ n ih =>
    intro f t w hn hI;exact round f t w hI λf' t' w' h1 h2=>L.move (λ_ _=>step_inLoop) (λh=>h) (ih _ (hn▸h2) _ _ _ rfl h1)
 exact key _ f0 t w rfl h0
def fY:Code->Code
 | .seq x _=>x
 | c=>c
def aF:Code->Code
 | .seq _ y=>y
 | c=>c
end
end Go.Turn
namespace Go.Turn
open Go.Conc Go.Tame
section
variable {P:Program}{κ:Type}{L:Lg P κ}{t:κ}{a:Act}{w:World}
theorem Lg.rest {b fr:Frame}{mid:List Frame}{c:Code}{fn:Func}{R:Value->World->Prop}(hs:¬L.strict) (hk:b.kind=.normal) (hf:P.funcs[b.fn]?=some fn)
  (h:∀ (y:World) τ n,w=y.re τ n->c.wp P (bodyPost P fn λe w'=>∃ v,e=.returned v/\R v w') a y) (hT:∀ v w',R v w'->L.T t (fr.finish v) mid w'):L.T t (b.at a [.code c]) (fr::mid) w:=by
 refine L.steps λy τ n hy=>?_;obtain⟨e,a',y',hq,harr⟩:=h y τ n hy b [] (fr::mid++L.tail);cases e with
 | normal =>
   obtain⟨hd,v,hr,v',hv,hR⟩:=hq;cases hv;exact⟨fr.finish v,mid,y',Steps.trans harr (.head step_end (.one (step_leave_returned (fr:={ b.at a' [] with mode:=.returning }) ⟨rfl,hd,hk,fn,hf,hr⟩))),λz=>absurd z hs,hT v y' hR⟩
 | ret =>
   obtain⟨hd,v,hr,v',hv,hR⟩:=hq;cases hv;obtain⟨todo,hst⟩:=harr;exact⟨fr.finish v,mid,y',Steps.trans hst (.one (step_leave_returned (fr:={ b.at a' todo with mode:=.returning }) ⟨rfl,hd,hk,fn,hf,hr⟩)),λz=>absurd z hs,hT v y' hR⟩
 | panic ch=>obtain⟨_,v,hv,_⟩:=hq;cases hv
 | outgrown=>obtain⟨v,hv,_⟩:=hq;cases hv
 | exit id=>exact hq.elim
 | goto l=>exact hq.elim
end
end Go.Turn
namespace Go.Turn
open Go.Conc Go.Tame
structure PostT (vr:Value) (W:World) (v:Value) (W':World):Prop where
 val:v=vr
 size:W.heap.size<=W'.heap.size
 old:∀ b,b<W.heap.size->W'.heap[b]?=W.heap[b]?
 os:W'.os=W.os
 output:W'.output=W.output
theorem PostT.frame {vr:Value}{W:World}{v:Value}{W':World}(h:PostT vr W v W') (may:MemPlace->Prop):W.keptBut W' may:=by
 refine⟨h.os,h.output,λi hi=>?_⟩;rw[h.old i hi]
 split <;> simp_all
def labR (W:World) (b:Nat):Ow:=if b<W.heap.size then .ro else .mn
def iN (W:World):World:=eQ meM ⟨W,labR W⟩
theorem jW (W:World):Like (fast meM ⟨W,labR W⟩) (iN W) W:=dY λb o hm ho=>by
 have hm:meM (labR W b)=true:=hm;have hlt:=aB (w:=W) ho
 simp[labR,hlt,meM] at hm
theorem seen0_kept (W:World):Kept0 W ⟨W,labR W⟩:=⟨λb=>by
 show labR W b=.ro ↔ _
 unfold labR
 constructor
 ·intro z
  split at z
  ·assumption
  ·cases z
 ·intro z;rw[if_pos z],λ_ _=>rfl⟩
theorem seen0_size (W:World):(iN W).heap.size=W.heap.size:=(jW W).size
theorem seen0_io (W:World):(iN W).os=W.os/\(iN W).output=W.output:=⟨rfl,rfl⟩
theorem seen0_cell (W:World) (a:Addr):(iN W).cell? a=W.cell? a:=(jW W).cell a
section
variable {P:Program}{W:World}{vr:Value}
theorem stepG_done {b:Frame}{a:Act}{w:World}{fn:Func}{todo:List Item}{v:Value}(hn:b.kind=.normal) (hd:a.defers=[]) (hf:P.funcs[b.fn]?=some fn) (hin:P.inits.idxOf? b.fn=none) (hr:(results fn a.tmps).run P w=.ok v w) (he:(results fn a.tmps).events P w #[]=#[]) :
  stepG P true (G { b.at a todo with mode:=.returning } []) w=.ended (.done v) w #[]:=by
 simp[G,stepG,unwind,doReturn,Frame.at,hn,hd,hf,hr,he,seen,GStep.after,hin]
theorem al_done {N:Nat}{b:Frame}{a:Act}{todo:List Item}{x:World}{fn:Func}(hn:b.kind=.normal) (hd:a.defers=[]) (hf:P.funcs[b.fn]?=some fn) (hin:P.inits.idxOf? b.fn=none) (hr:∀ w,(results fn a.tmps).run P w=.ok vr w/\(results fn a.tmps).events P w #[]=#[])
  (hx:x.os=W.os/\x.output=W.output):Al P (PostT vr W) W N { b.at a todo with mode:=.returning } [] x:=by
 intro d hl hK hI gs sl T q B hL hp ha hs;have hpost:∀ e,PostT vr W vr (d.w.at e):=λe=>⟨rfl,hK.le,hK.old,hl.os.symm.trans hx.1,hl.output.symm.trans hx.2⟩;refine beside_ends (Shun:=λ_=>False) (D:=λ_ _ _=>False) (n:=0) (λ_ _ _ h=>h.elim) ha hL hp ?_;rintro w1 ⟨e,rfl⟩;exact⟨rfl,vr,#[],stepG_done hn hd hf hin (hr _).1 (hr _).2,λe he=>by simp at he,hpost e⟩
theorem lgA_rest (hP:Prog P) {b:Frame}{a:Act}{c:Code}{x:World}{fn:Func}(hk:b.kind=.normal) (hf:P.funcs[b.fn]?=some fn) (hin:P.inits.idxOf? b.fn=none)
  (hr:∀ tm w v,(results fn tm).run P w=.ok v w->∀ w',(results fn tm).run P w'=.ok v w'/\(results fn tm).events P w' #[]=#[])
  (h:∀ (y:World) τ n,x=y.re τ n->c.wp P (bodyPost P fn λe w'=>e=.returned vr/\w'.os=W.os/\w'.output=W.output) a y):(lgA hP (PostT vr W) W).T () (b.at a [.code c]) [] x:=by
 have hs:¬(lgA hP (PostT vr W) W).strict:=λh=>h;refine(lgA hP (PostT vr W) W).steps λy τ n hy=>?_;obtain⟨e,a',y',hq,harr⟩:=h y τ n hy b [] [aV P];cases e with
 | normal =>
   obtain⟨hd,v,hv,h1,h2⟩:=hq;cases h1;exact⟨{ b.at a' [] with mode:=.returning },[],y',Steps.trans harr (.one step_end),λz=>absurd z hs,λN=>al_done hk hd hf hin (λw=>hr _ _ _ hv w) h2⟩
 | ret =>
   obtain⟨hd,v,hv,h1,h2⟩:=hq;cases h1;obtain⟨todo,hst⟩:=harr;exact⟨{ b.at a' todo with mode:=.returning },[],y',hst,λz=>absurd z hs,λN=>al_done hk hd hf hin (λw=>hr _ _ _ hv w) h2⟩
 | panic ch=>obtain⟨_,h1,_⟩:=hq;cases h1
 | outgrown=>obtain⟨h1,_⟩:=hq;cases h1
 | exit id=>exact hq.elim
 | goto l=>exact hq.elim
theorem run_good (hP:Prog P) {f:FuncId}{args:Array Value}(h:(lgA hP (PostT vr W) W).T () (Frame.enter P f args .normal) [] (iN W)) :
  ∃ M last o w' t',runNT P (M+1) (solo (G (Frame.enter P f args .normal) []) W) #[]=(.ended o w',t')/\runN P M (solo (G (Frame.enter P f args .normal) []) W)=.next last/\step P last=.ended o w'/\Go.Conc.Good P (PostT vr W) last o w' t':=by
 have hI:Inv P (Frame.enter P f args .normal) []:=⟨oK hP f args .normal (.inl rfl),.inl rfl⟩;have:=h 1 ⟨W,labR W⟩ (jW W) (seen0_kept W) hI #[G (Frame.enter P f args .normal) []] none #[] (λ_=>0) 0 (leavers_one P _) past_nil rfl rfl;rw[solo_eq_crowd];exact this
end
end Go.Turn
namespace Go.Turn
open Go.ConcN (upd upd_ne upd_same)
section
variable {S G:Type}
def oV (birth:Nat->S->Tree S S) (n:Nat) (s0:S):Prop:=
 ∃ MI:Mach S->Prop,MInv MI n/\(∀ j,j<n->birth j (Mach.born birth ⟨s0,λ_=>.unborn⟩ j).s≠.cut)/\MI (Mach.born birth ⟨s0,λ_=>.unborn⟩ n)
structure RGp (S G:Type) where
 gu:G->S->G->S->Prop
 re:G->S->G->S->Prop
 po:G->S->Prop
def Tree.Rg (I:G->S->Prop) (p:RGp S G):Tree S S->G->S->Prop
 | .ret s,g,s0=>∃ g',p.gu g s0 g' s/\I g' s/\p.po g' s
 | .yield s k,g,s0=>∃ g',p.gu g s0 g' s/\I g' s/\∀ g2 s2,p.re g' s g2 s2->I g2 s2->(k s2).Rg I p g2 s2
 | .cut,_,_=>False
structure RGs (I:G->S->Prop) (n:Nat) (p:Nat->RGp S G):Prop where
 refl:∀ i,i<n->∀ g s,(p i).re g s g s
 trans:∀ i,i<n->∀ g s g1 s1 g2 s2,(p i).re g s g1 s1->(p i).re g1 s1 g2 s2->(p i).re g s g2 s2
 sub:∀ i j,i<n->j<n->j≠i->∀ g s g' s',I g s->(p i).gu g s g' s'->I g' s'->(p j).re g s g' s'
 stable:∀ i,i<n->∀ g s g' s',I g s->(p i).po g s->(p i).re g s g' s'->I g' s'->(p i).po g' s'
variable {I:G->S->Prop}{n:Nat}{p:Nat->RGp S G}{birth:Nat->S->Tree S S}
def StgOk (birth:Nat->S->Tree S S) (I:G->S->Prop) (p:Nat->RGp S G) (i:Nat) (g:G) (s:S):Stg S->Prop
 | .unborn=>∀ g2 s2,(p i).re g s g2 s2->I g2 s2->(birth i s2).Rg I (p i) g2 s2
 | .wait k=>∀ g2 s2,(p i).re g s g2 s2->I g2 s2->(k s2).Rg I (p i) g2 s2
 | .over=>(p i).po g s
def RgJ (birth:Nat->S->Tree S S) (I:G->S->Prop) (n:Nat) (p:Nat->RGp S G) (m:Mach S) (g:G):Prop:=I g m.s/\∀ i,i<n->StgOk birth I p i g m.s (m.th i)
theorem StgOk.on (R:RGs I n p) {i:Nat}(hi:i<n) {g g':G}{s s':S}{t:Stg S}(h:StgOk birth I p i g s t) (hI:I g s) (hr:(p i).re g s g' s') (hI':I g' s'):StgOk birth I p i g' s' t:=by
 cases t with
 | unborn=>exact λg2 s2 h2=>h g2 s2 (R.trans i hi _ _ _ _ _ _ hr h2)
 | wait k=>exact λg2 s2 h2=>h g2 s2 (R.trans i hi _ _ _ _ _ _ hr h2)
 | over=>exact R.stable i hi _ _ _ _ hI h hr hI'
theorem RgJ.did (R:RGs I n p) {m:Mach S}{g:G}(h:RgJ birth I n p m g) {i:Nat}(hi:i<n) {t:Tree S S}(ht:t.Rg I (p i) g m.s):t≠.cut/\∃ g',RgJ birth I n p (m.did i t) g'/\(p i).gu g m.s g' (m.did i t).s:=by
 cases t with
 | cut=>exact ht.elim
 | ret s =>
   obtain⟨g',h1,h2,h3⟩:=ht;refine⟨by simp,g',⟨h2,λj hj=>?_⟩,h1⟩
   by_cases e:j=i
   ·subst e
    simp only[Mach.did,upd_same];exact h3
   ·simp only [Mach.did,upd_ne _ _ e]
    exact(h.2 j hj).on R hj h.1 (R.sub i j hi hj e _ _ _ _ h.1 h1 h2) h2
 | yield s k =>
   obtain⟨g',h1,h2,h3⟩:=ht;refine⟨by simp,g',⟨h2,λj hj=>?_⟩,h1⟩
   by_cases e:j=i
   ·subst e
    simp only[Mach.did,upd_same];exact h3
   ·simp only [Mach.did,upd_ne _ _ e]
    exact(h.2 j hj).on R hj h.1 (R.sub i j hi hj e _ _ _ _ h.1 h1 h2) h2
structure Paid (I:G->S->Prop) (n:Nat) (p:Nat->RGp S G) (Φ:G->S->Nat):Prop where
 pay:∀ i,i<n->∀ g s g' s',I g s->(p i).gu g s g' s'->I g' s'->Φ g' s'<Φ g s
def PaidJ (birth:Nat->S->Tree S S) (I:G->S->Prop) (n:Nat) (p:Nat->RGp S G) (Φ:G->S->Nat) (N:Nat) (c:Run S):Prop:=(∀ i,i<n->(c.m.th i).Good)/\∃ g,RgJ birth I n p c.m g/\c.order.length+Φ g c.m.s<=N
theorem PaidJ.turn (R:RGs I n p) {Φ:G->S->Nat}(hP:Paid I n p Φ) {N most:Nat}{c:Run S}(h:PaidJ birth I n p Φ N c) (i:Int):PaidJ birth I n p Φ N (c.turn n most i):=by
 obtain⟨hG,g,hJ,hN⟩:=h;unfold Run.turn
 split
 ·rename_i hm
  simp only[Run.may,Bool.and_eq_true,decide_eq_true_eq] at hm;have hi:i.toNat<n:=by omega
  have hw:=hJ.2 i.toNat hi;have hg:=hG i.toNat hi;have hno:(c.m.th i.toNat).isOver=false:=by have:=hm.1.2;simpa using this
  refine⟨λj hj=>go_good (hG j hj),?_⟩;cases hk:c.m.th i.toNat with
  | over=>rw[hk] at hno;cases hno
  | unborn=>rw[hk] at hg;exact hg.elim
  | wait k =>
    rw[hk] at hw;obtain⟨_,g',h2,h3⟩:=hJ.did R hi (hw g _ (R.refl _ hi _ _) hJ.1);have:=hP.pay _ hi _ _ _ _ hJ.1 h3 h2.1;refine⟨g',?_,?_⟩
    ·show RgJ birth I n p (c.m.go i.toNat) g'
     unfold Mach.go;rw[hk];exact h2
    ·show (c.order++[i]).length+Φ g' (c.m.go i.toNat).s<=N
     unfold Mach.go;rw[hk,List.length_append,List.length_singleton];simp only
     omega
 ·exact ⟨hG,g,hJ,hN⟩
theorem PaidJ.turns (R:RGs I n p) {Φ:G->S->Nat}(hP:Paid I n p Φ) {N most:Nat}:∀ (l:List Int) {c:Run S},PaidJ birth I n p Φ N c->PaidJ birth I n p Φ N (c.turns n most l)
 | [],_,h=>h
 | i::l,_,h=>PaidJ.turns R hP l (h.turn R hP i)
theorem turn_len (most:Nat) (c:Run S) (i:Int):c.order.length<=(c.turn n most i).order.length:=by
 unfold Run.turn
 split
 ·simp
 ·exact Nat.le_refl _
theorem pJ (most:Nat):∀ (l:List Int) (c:Run S),c.order.length<=(c.turns n most l).order.length
 | [],_=>Nat.le_refl _
 | i::l,c=>Nat.le_trans (turn_len most c i) (pJ most l _)
theorem nA {Φ:G->S->Nat}{N most:Nat}(hN:N<most) (i:Nat) (hi:i<n):∀ (l:List Int) (c:Run S),PaidJ birth I n p Φ N c->(c.m.th i).isOver=false->(i:Int)∈l->(∀ j∈l,0<=j)->c.order.length<(c.turns n most l).order.length
 | [],_,_,_,h,_=>by simp at h
 | j :: l,c,hc,ho,hm,hl=>by
   obtain⟨_,g,_,hlen⟩:=hc
   by_cases hj:c.may n most j=true
   ·refine Nat.lt_of_lt_of_le ?_ (pJ most l _)
    unfold Run.turn;rw[if_pos hj]
    simp
   ·have hne:(i:Int)≠j:=by
     rintro rfl;apply hj;simp only[Run.may,Bool.and_eq_true,decide_eq_true_eq,Int.toNat_natCast,ho,Bool.not_false,Bool.not_eq_true',beq_eq_false_iff_ne];refine⟨⟨⟨by omega,by omega⟩,trivial⟩,by omega⟩
    have e:c.turn n most j=c:=by unfold Run.turn;rw[if_neg hj]
    show c.order.length<(Run.turns n most (c.turn n most j) l).order.length
    rw[e];exact nA hN i hi l c ⟨by assumption,g,by assumption,hlen⟩ ho (by simpa [hne] using hm) λx hx=>hl x (by simp[hx])
theorem qF {m:Mach S}:∀ {k:Nat},0<m.left k->∃ i,i<k/\(m.th i).isOver=false
 | 0,h=>by simp[Mach.left] at h
 | k + 1,h=>by
   by_cases e:(m.th k).isOver=true
   ·simp only [Mach.left,e,if_true] at h
    obtain⟨i,h1,h2⟩:=qF (k:=k) (by omega);exact⟨i,by omega,h2⟩
   ·exact ⟨k,by omega,by simpa using e⟩
theorem left_zero {m:Mach S}:∀ {k:Nat},m.left k=0->∀ i,i<k->(m.th i).isOver=true
 | 0,_,i,hi=>by omega
 | k + 1,h,i,hi=>by
   simp only[Mach.left] at h
   by_cases e:i=k
   ·subst e
    cases ho:(m.th i).isOver with
    | true=>rfl
    | false=>rw[ho] at h;simp at h
   ·exact left_zero (k:=k) (by omega) i (by omega)
theorem PaidJ.rounds (R:RGs I n p) {Φ:G->S->Nat}(hP:Paid I n p Φ) {N most:Nat}(hN:N<most):∀ (f:Nat) (c:Run S),PaidJ birth I n p Φ N c->PaidJ birth I n p Φ N (c.rounds n most f)/\((c.rounds n most f).m.left n=0\/c.order.length+f<=(c.rounds n most f).order.length)
 | 0,c,h=>⟨h,.inr (Nat.le_refl _)⟩
 | f + 1,c,h=>by
   unfold Run.rounds;obtain⟨_,g,_,hlen⟩:=id h
   by_cases hl:0<c.m.left n
   ·rw [if_pos ⟨hl,by omega⟩]
    obtain⟨i,hi,ho⟩:=qF hl;have h1:=h.turns R hP (most:=most) ((List.range n).map (λ(i:Nat)=>(i:Int)));have h2:=nA hN i hi ((List.range n).map (λ(i:Nat)=>(i:Int))) c h ho (List.mem_map.2 ⟨i,List.mem_range.2 hi,rfl⟩) (λj hj=>by simp at hj;obtain⟨a,_,rfl⟩:=hj;omega);obtain⟨h3,h4⟩:=PaidJ.rounds R hP hN f _ h1;exact⟨h3,h4.imp id λh=>by omega⟩
   ·rw [if_neg λz=>hl z.1]
    exact⟨h,.inl (by omega)⟩
def Tree.Le:Tree S S->Nat->Prop
 | .ret _,_=>True
 | .yield _ _,0=>False
 | .yield _ k,n+1=>∀ s,(k s).Le n
 | .cut,_=>True
theorem Tree.Le.mono:∀ {t:Tree S S}{a b:Nat},t.Le a->a<=b->t.Le b
 | .ret _,_,_,_,_=>trivial
 | .cut,_,_,_,_=>trivial
 | .yield _ _,0,_,h,_=>h.elim
 | .yield _ k,a+1,0,_,hb=>by omega
 | .yield _ k,a+1,b+1,h,hb=>λs=>(h s).mono (by omega)
end
end Go.Turn
namespace Go.Turn
open Go.Conc Go.Tame
section
variable {P:Program}{κ:Type}(L:Lg P κ) {t:κ}{b:Frame}{a:Act}{k:List Item}{mid:List Frame}{w:World}
theorem Lg.aW {x y:Code}(h:L.T t (b.at a (.code x::.code y::k)) mid w):L.T t (b.at a (.code (.seq x y)::k)) mid w:=Lg.move _ (λ_ _=>step_seq) (λh=>h) h
theorem Lg.aO (h:L.T t (b.at a k) mid w):L.T t (b.at a (.code .skip::k)) mid w:=Lg.move _ (λ_ _=>step_skip) (λh=>h) h
theorem Lg.aL {id:Nat}{c:Code}(h:L.T t (b.at a (.code c::.inBlock id::k)) mid w):L.T t (b.at a (.code (.block id c)::k)) mid w:=Lg.move _ (λ_ _=>step_block) (λh=>h) h
theorem Lg.aG {id:Nat}(h:L.T t (b.at a k) mid w):L.T t (b.at a (.inBlock id::k)) mid w:=Lg.move _ (λ_ _=>step_inBlock) (λh=>h) h
theorem Lg.mv_cond {c:Operand}{x y:Code}(v:Bool) (hv:a.eval c=.bool v) (h:L.T t (b.at a (.code (if v then x else y)::k)) mid w):L.T t (b.at a (.code (.cond c x y)::k)) mid w:=Lg.move _ (λ_ _=>step_cond hv) (λh=>h) h
theorem Lg.aI {c:Operand}{x y:Code}(hv:a.eval c=.bool true) (h:L.T t (b.at a (.code x::k)) mid w):L.T t (b.at a (.code (.cond c x y)::k)) mid w:=L.mv_cond true hv h
theorem Lg.aJ {c:Operand}{x y:Code}(hv:a.eval c=.bool false) (h:L.T t (b.at a (.code y::k)) mid w):L.T t (b.at a (.code (.cond c x y)::k)) mid w:=L.mv_cond false hv h
theorem Lg.aP {id:Nat}{k':List Item}(hk:exitTo id k=some k') (h:L.T t (b.at a k') mid w):L.T t (b.at a (.code (.exit id)::k)) mid w:=Lg.move _ (λ_ _=>step_exit hk) (λh=>h) h
theorem Lg.aN {ops:Array Oper}(h:L.T t (b.at a k) mid w):L.T t (b.at a (.inRegion ops []::k)) mid w:=Lg.move _ (λ_ _=>step_region_end) (λh=>h) h
theorem Lg.bJ {id:Nat}{ops:Array Oper}(h:L.T t (b.at a (.inRegion ops (List.range ops.size)::k)) mid w):L.T t (b.at a (.code (.region id ops false)::k)) mid w:=Lg.move _ (λ_ _=>step_region) (λh=>h) h
theorem Lg.bO (h:L.T t { b.at a (.code .ret::k) with mode:=.returning } mid w):L.T t (b.at a (.code .ret::k)) mid w:=Lg.move _ (λ_ _=>step_ret) (λh=>h) h
theorem Lg.aM {id:Nat}{ops:Array Oper}{d:Bool}(h:∀ K:Act->World->Prop,(∀ a' w',(L.strict->a'.defers=[])->L.T t (b.at a' k) mid w'->K a' w')->∀ (y:World) τ n,w=y.re τ n->(Code.region id ops d).wp P (Exit.then K λ_ _ _=>False) a y):L.T t (b.at a (.code (.region id ops d)::k)) mid w:=Lg.code h
end
end Go.Turn
namespace Go.Turn
open Go.Conc Go.Tame
section
variable {P:Program}{κ:Type}{L:Lg P κ}{md:Region.Mode}{ops:Array Oper}{S:World->Prop}{Q:κ->Act->World->Prop}
def LOp (L:Lg P κ) (ops:Array Oper) (i:Nat) (K:κ->Act->World->Prop) (t:κ) (a:Act) (w:World):Prop:=
 (∀ y τ n,w=y.re τ n->wpOp P ops (λ_ _ _=>False) i (λa' w'=>K t a' w') a y) \/
 ∃ o f args,ops[i]?=some o/\Region.wanted o (yielded ops a.tmps)=true/\(∀ y,(execOp a.eval o).run P y=.ok (.enter f args) y)/\Ccalls L f args t w λv t' w'=>K t' (a.put o.dst v) w'
theorem LOp.mono {i:Nat}{K K':κ->Act->World->Prop}{t:κ}{a:Act}{w:World}(h:LOp L ops i K t a w) (hk:∀ t a w,K t a w->K' t a w):LOp L ops i K' t a w:=by
 rcases h with h | ⟨o,f,args,h1,h2,h3,h4⟩
 ·exact .inl λy τ n hy=>wpOp_mono (λa' w' h'=>hk _ _ _ h') (h y τ n hy)
 ·exact .inr ⟨o,f,args,h1,h2,h3,h4.mono λv t' w'=>hk _ _ _⟩
theorem LOp.re {i:Nat}{K:κ->Act->World->Prop}{t:κ}{a:Act}{w:World}{τ:Nat->Question->Nat}{n:Nat}(h:LOp L ops i K t a (w.re τ n)):LOp L ops i K t a w:=by
 rcases h with h | ⟨o,f,args,h1,h2,h3,h4⟩
 ·exact .inl λy τ' n' hy=>h y τ n (by rw[hy];rfl)
 ·exact .inr ⟨o,f,args,h1,h2,h3,ccalls_re.1 h4⟩
def AnyT (L:Lg P κ) (md:Region.Mode) (ops:Array Oper) (S:World->Prop) (Q:κ->Act->World->Prop):Nat->Array Bool->κ->Act->World->Prop
 | 0,listed,t,a,w=>Region.ready md ops listed=[]/\Q t a w
 | f+1,listed,t,a,w=>(Region.ready md ops listed=[]->Q t a w)/\∀ i∈Region.ready md ops listed,LOp L ops i (λt' a' w'=>S w'/\AnyT L md ops S Q f (listed.setIfInBounds i true) t' a' w') t a w
theorem AnyT.re (hQ:∀ t a y τ n,Q t a (World.re y τ n)->Q t a y) {t:κ}{a:Act}{w:World}{τ:Nat->Question->Nat}{n:Nat}:∀ {f:Nat}{listed:Array Bool},AnyT L md ops S Q f listed t a (w.re τ n)->AnyT L md ops S Q f listed t a w
 | 0,_,h=>⟨h.1,hQ _ _ _ _ _ h.2⟩
 | f+1,_,h=>⟨λz=>hQ _ _ _ _ _ (h.1 z),λi hi=>(h.2 i hi).re⟩
theorem lop_put {j:Nat}{oi oj:Oper}{v:Value}(hj:ops[j]?=some oj) (hap:oi.apart ops oj=true)
  (hsi:∀ cs b,oi.op≠.select cs b) (hsj:∀ cs b,oj.op≠.select cs b) {K:κ->Act->World->Prop}{t:κ}{a:Act}{w:World}
  (hy:YieldsIf P ops S oi v a) (h:LOp L ops j K t (a.put oi.dst v) w):LOp L ops j (λt' a' w'=>YieldsIf P ops S oi v a'/\K t' (a'.put oi.dst v) w') t a w:=by
 rcases h with h | ⟨o,f,args,h1,h2,h3,h4⟩
 ·exact .inl λy τ n hy'=>wpOp_putIf hj hap hsi hsj (λ_ _ _ h=>h.elim) hy (h y τ n hy')
 ·rw [hj] at h1
  cases h1;obtain⟨p1,p2,p3⟩:=Oper.apart_spec hap;rw[wanted_put oj a oi.dst v p1] at h2;refine .inr ⟨oj,f,args,hj,h2,λy=>by rw[<-execOp_put oj hsj a oi.dst v p1];exact h3 y,h4.mono λu t' w' hk=>⟨?_,?_⟩⟩
  ·exact hy.of_same (execOp_put oi hsi a oj.dst u p3) (wanted_put oi a oj.dst u p3)
  ·rw [<-Act.put_comm a v u p2];exact hk
theorem any_first {i:Nat}{oi:Oper}{v:Value}(hi:ops[i]?=some oi) (hsel:∀ (j:Nat) (o:Oper) cs b,ops[j]?=some o->o.op≠.select cs b) (hre:∀ y τ n,S (World.re y τ n)->S y) (hQ:∀ t a y τ n,Q t a (World.re y τ n)->Q t a y) :
  ∀ (fuel:Nat) (listed:Array Bool) (t:κ) (a:Act) (w:World),
    (∀ j oj,ops[j]?=some oj->j≠i->listed.getD j true=false->(∀ e∈oj.after,Region.binds md e=true->e.on≠i)->oi.apart ops oj=true) ->
    i∈Region.ready md ops listed->YieldsIf P ops S oi v a->S w ->
    AnyT L md ops S Q fuel (listed.setIfInBounds i true) t (a.put oi.dst v) w->AnyT L md ops S Q (fuel+1) listed t a w:=by
 intro fuel
 have here:∀ (f:Nat) (listed:Array Bool) (t:κ) (a:Act) (w:World),YieldsIf P ops S oi v a->S w->AnyT L md ops S Q f (listed.setIfInBounds i true) t (a.put oi.dst v) w->LOp L ops i (λt' a' w'=>S w'/\AnyT L md ops S Q f (listed.setIfInBounds i true) t' a' w') t a w:=λf listed t a w hy hS H=>.inl λy τ n hw=>by
  subst hw;exact hy.wpOp hi (hre _ _ _ hS) ⟨hre _ _ _ hS,H.re hQ⟩
 induction fuel with
 | zero =>
   intro listed t a w _ hr hy hS H;refine⟨λh=>(by rw[h] at hr;cases hr),λj hj=>?_⟩
   by_cases hji:j=i
   ·subst hji;exact here _ _ _ _ _ hy hS H
   ·have:=ready_mono hj hji
    rw[H.1] at this;cases this
 | succ fuel ih =>
   intro listed t a w hfree hr hy hS H;refine⟨λh=>(by rw[h] at hr;cases hr),λj hj=>?_⟩
   by_cases hji:j=i
   ·subst hji;exact here _ _ _ _ _ hy hS H
   ·have h1:=H.2 j (ready_mono hj hji)
    obtain⟨hjun,oj,hoj,hall⟩:=mem_ready.1 hj
    have hnot:∀ e∈oj.after,Region.binds md e=true->e.on≠i:=λe he hb heq=>by
     have h1:=hall e he hb;have h0:=(mem_ready.1 hr).1;rw[heq] at h1
     rcases Nat.lt_or_ge i listed.size with h' | h'
     ·simp [h'] at h0 h1;rw[h0] at h1;cases h1
     ·simp [Array.getElem?_eq_none h'] at h1
    have h2:=lop_put hoj (hfree j oj hoj hji hjun hnot) (λcs b=>hsel i oi cs b hi) (λcs b=>hsel j oj cs b hoj) hy h1
    have hfree':∀ k ok,ops[k]?=some ok->k≠i->(listed.setIfInBounds j true).getD k true=false ->
      (∀ e∈ok.after,Region.binds md e=true->e.on≠i)->oi.apart ops ok=true:=λk ok hk hki hun hno=>by
     refine hfree k ok hk hki ?_ hno
     by_cases hjk:j=k
     ·subst hjk;exact hjun
     ·rw [getD_set_ne true hjk] at hun;exact hun
    refine h2.mono λt' a' w' h3=>⟨h3.2.1,ih (listed.setIfInBounds j true) t' a' w' hfree' (ready_mono hr (Ne.symm hji)) h3.1 h3.2.1 ?_⟩;rw[Array.setIfInBounds_comm _ _ hji];exact h3.2.2
theorem AnyT.take {i:Nat}{oi:Oper}{v:Value}{fuel:Nat}{listed:Array Bool}{t:κ}{a:Act}{w:World}(hi:ops[i]?=some oi) (hre:∀ y τ n,S (World.re y τ n)->S y) (hQ:∀ t a y τ n,Q t a (World.re y τ n)->Q t a y)
  (hs:Region.noSelect ops=true) (hf:Region.free md ops listed i=true) (hr:(Region.ready md ops listed).contains i=true) (hy:YieldsIf P ops S oi v a) (hS:S w)
  (h:AnyT L md ops S Q fuel (listed.setIfInBounds i true) t (a.put oi.dst v) w):AnyT L md ops S Q (fuel+1) listed t a w:=
 any_first hi (Region.noSelect_spec hs) hre hQ fuel listed t a w (Region.free_spec hi hf) (by simpa using hr) hy hS h
theorem AnyT.all {rs:List Nat}{fuel:Nat}{listed:Array Bool}{t:κ}{a:Act}{w:World}(hr:Region.ready md ops listed=rs) (hne:rs≠[])
  (h:∀ i∈rs,LOp L ops i (λt' a' w'=>S w'/\AnyT L md ops S Q fuel (listed.setIfInBounds i true) t' a' w') t a w):AnyT L md ops S Q (fuel+1) listed t a w:=
 ⟨λh0=>absurd (hr▸h0) hne,hr▸h⟩
theorem AnyT.one {i:Nat}{fuel:Nat}{listed:Array Bool}{t:κ}{a:Act}{w:World}(hr:Region.ready md ops listed=[i])
  (h:LOp L ops i (λt' a' w'=>S w'/\AnyT L md ops S Q fuel (listed.setIfInBounds i true) t' a' w') t a w):AnyT L md ops S Q (fuel+1) listed t a w:=
 AnyT.all hr (by simp) λj hj=>by simp only[List.mem_singleton] at hj;subst hj;exact h
theorem AnyT.done {listed:Array Bool}{t:κ}{a:Act}{w:World}(hr:Region.ready md ops listed=[]) (h:Q t a w):∀ fuel,AnyT L md ops S Q fuel listed t a w
 | 0=>⟨hr,h⟩
 | _+1=>⟨λ_=>h,by rw[hr];simp⟩
theorem LOp.go (hns:¬L.strict) {b:Frame}{k:List Item}{mid:List Frame}{i:Nat}{rest:List Nat}{K:κ->Act->World->Prop}{t:κ}{a:Act}{w:World}(h:LOp L ops i K t a w)
  (hK:∀ t' a' w',K t' a' w'->L.T t' (b.at a' (.inRegion ops rest::k)) mid w'):L.T t (b.at a (.inRegion ops (i::rest)::k)) mid w:=by
 rcases h with h | ⟨o,f,args,h1,h2,h3,h4⟩
 ·refine L.steps λy τ n hy=>?_
  have hw:=h y τ n hy;unfold wpOp at hw;cases ho:ops[i]? with
  | none =>
    rw[ho] at hw;exact⟨_,mid,y,.one (step_op_skip (rest:=rest) (by simp[ho])),λz=>absurd z hns,by simpa [ho,Act.put] using hK t a y hw⟩
  | some o =>
    rw[ho] at hw
    by_cases hwt:Region.wanted o (yielded ops a.tmps)=true
    ·simp only [hwt,if_true] at hw
     rcases hw with hw | ⟨_,hq⟩
     ·rcases rM (b:=b) (k:=k) (rest:=rest) (cs:=mid++L.tail) ho hwt hw with⟨a',w',hc,hs⟩ | ⟨ch,w',hq,_⟩ | ⟨a',w',hq⟩
      ·exact ⟨_,mid,w',hs,λz=>absurd z hns,hK _ _ _ hc⟩
      ·exact hq.elim
      ·exact hq.elim
     ·obtain ⟨a',w',hq⟩:=hq
      exact hq.elim
    ·simp only [hwt,Bool.false_eq_true,if_false] at hw
     exact⟨_,mid,y,.one (step_op_skip (rest:=rest) (by simp[ho];simpa using hwt)),λz=>absurd z hns,by simpa [ho] using hK t _ y hw⟩
 ·refine L.steps λy τ n hy=>⟨Frame.enter P f args .normal,b.at a (.inRegion ops (i::rest)::k)::mid,y,.one (eY h1 h2 (h3 y)),λz=>absurd z hns,?_⟩
  have:=h4 (b.at a (.inRegion ops (i::rest)::k)) mid λv t' w' r=>by rw[eU h1];exact hK _ _ _ r
  rw[hy] at this;exact L.re_iff.1 this
theorem qS (hns:¬L.strict) {b:Frame}{k:List Item}{mid:List Frame}:∀ (f tt:Nat) (listed:Array Bool) (t:κ) (a:Act) (w:World),AnyT L md ops S (λt a w=>L.T t (b.at a k) mid w) f listed t a w ->
  L.T t (b.at a (.inRegion ops (Region.linearise.go md ops f tt listed [])::k)) mid w
 | 0,tt,listed,t,a,w,h=>L.move (λ_ _=>step_region_end) (λh=>h) h.2
 | f + 1,tt,listed,t,a,w,h=>by
   simp only[Region.linearise.go]
   change L.T t (b.at a (.inRegion ops (match (Region.ready md ops listed)[tt%(Region.ready md ops listed).length]? with
    | some i=>Region.linearise.go md ops f (tt / (Region.ready md ops listed).length) (listed.setIfInBounds i true) [i]
    | none=>[].reverse)::k)) mid w
   cases hi:(Region.ready md ops listed)[tt%(Region.ready md ops listed).length]? with
   | none =>
     have hnil:Region.ready md ops listed=[]:=by
      cases hr:Region.ready md ops listed with
      | nil=>rfl
      | cons x xs =>
        rw[hr] at hi;have hlt:tt%(x::xs).length<(x::xs).length:=Nat.mod_lt _ (by simp)
        simp at hi
        simp at hlt
        omega
     exact L.move (λ_ _=>step_region_end) (λh=>h) (h.1 hnil)
   | some i =>
     simp only[];rw[linearise_go_acc,List.reverse_singleton,List.singleton_append];exact(h.2 i (List.mem_of_getElem? hi)).go hns λt' a' w' h'=>qS hns f _ _ _ _ _ h'.2
theorem Lg.any (hns:¬L.strict) (S:World->Prop) {b:Frame}{k:List Item}{mid:List Frame}{id:Nat}{t:κ}{a:Act}{w:World}(hm:P.follows .mixedOrders=true)
  (h:AnyT L .any ops S (λt a w=>L.T t (b.at a k) mid w) ops.size (Array.replicate ops.size false) t a w):L.T t (b.at a (.code (.region id ops true)::k)) mid w:=by
 refine L.steps λy τ n hy=>?_;subst hy;have hst:=step_region_draw (P:=P) (b:=b) (a:=a) (k:=k) (cs:=mid++L.tail) (w:=y) (ops:=ops) (id:=id);rw[show ∀ tt,Region.schedule (P.follows .mixedOrders) ops tt=Region.linearise.go .any ops ops.size tt (Array.replicate ops.size false) [] from λtt=>by simp[Region.schedule,hm,Region.linearise]] at hst;refine⟨_,mid,_,.one hst,λz=>absurd z hns,?_⟩;have:=qS hns ops.size (y.tape y.drawn (.order b.fn id)) _ t a _ h;exact(L.re_iff (τ:=y.tape) (n:=y.drawn+1)).2 (L.re_iff.1 this)
end
end Go.Turn
