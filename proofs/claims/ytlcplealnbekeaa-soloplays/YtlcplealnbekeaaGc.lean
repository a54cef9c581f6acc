/- DERIVED. What a program's functions without a body do is tame: atomic loads and stores, the runtime's errors. -/
import Derived.Test.YtlcplealnbekeaaGb
import Derived.Control
import Derived.Conc.Listed
import Derived.Conc.Own
import Derived.Conc.Own4
import Derived.Lone
import Derived.DyingOn
import Derived.Conc.CrowdComm
import Derived.Conc.Token
import Derived.Conc.TokenWalk
import Derived.KernelRfl
set_option linter.unusedVariables false
namespace Go.Tame
variable {P:Program}
theorem T.makeChan (t:TypeId) (k:IntKind):T P (Instr.makeChan t (.int k 0)):=by
 have h:∀ n:Int,n=0->T P (do Pure.pure (Value.chan (some (<-Go.newObj (.chan n.toNat #[] false 0 0 false))))):=λn hn=>by
  subst hn;exact T.bind (T.newObj ⟨rfl,rfl,rfl,rfl⟩) λ_=>T.pure _
 have key:∀ n:Int,n=0->T P (Go.underlying t >>= λd=>(match d with
   | TypeDesc.chan _ elem=>do
     if n<0\/n > IntKind.i64.max\/((<-Go.typeInfo elem).bytes:Int)*n > 2 ^ 48-112 then
      Go.runtimePanic (RuntimeError.plain "makechan: size out of range")
     Pure.pure (Value.chan (some (<-Go.newObj (Obj.chan n.toNat #[] false 0 0 false))))
   | _=>Go.stuck "MakeChan: channel type expected" : Sem Value)):=by
  intro n hn;refine T.bind (T.underlying _) λd=>?_
  split
  ·refine T.bind (T.typeInfo _) λi=>?_
   refine T.ite (λ_=>?_) (λ_=>?_)
   ·exact T.bind (T.runtimePanic _) λ_=>h n hn
   ·exact h n hn
  ·exact T.stuck _
 exact key 0 rfl
theorem T.resolve (ρ:Operand->Value) (c:Call) (t:TypeId):T P (Go.resolve ρ c t):=by
 unfold Go.resolve Deferred.ofValue;dsimp only
 split
 ·exact T.pure _
 ·exact T.pure _
 ·split
  ·exact T.pure _
  ·exact T.pure _
  ·exact T.stuck _
def Ext (P:Program):Prop:=∀ (f:Nat) (fn:Func),P.funcs[f]?=some fn->fn.body=none->(fn.name == "runtime.NumGoroutine")=false/\∀ args,(∀ e,Extern.findNext fn=some e->T P (e args))/\(∀ e,Extern.find fn=some e->T P (e args))
theorem T.callFunc (hE:Ext P) (f:FuncId) (args:Array Value):T P (Go.callFunc f args):=by
 unfold Go.callFunc;refine R.program ?_
 show T P (match P.funcs[f]? with | none=>_ | some fn=>_)
 split
 ·exact T.stuck _
 ·rename_i fn hfn
  by_cases hb:fn.body=none
  ·obtain ⟨hn,he⟩:=hE f fn hfn hb
   rw[hn];simp only[Bool.false_eq_true,if_false,hb,Option.isNone_none,if_true];refine T.bind (T.markExtern _) λ_=>?_;cases h1:Extern.findNext fn with
   | some e=>exact(he args).1 e h1
   | none =>
     show T P (match Extern.find fn with | some e=>_ | none=>_)
     split
     ·rename_i e h2
      exact T.bind ((he args).2 e h2) λ_=>T.pure _
     ·split
      ·exact T.pure _
      ·exact T.unsupported _
  ·have hb':fn.body.isNone=false:=by cases h:fn.body <;> simp_all
   rw[hb']
   split
   ·exact T.pure _
   ·exact T.pure _
theorem Lv.bind {α β:Type}{A:β->Prop}(m:Sem α) {f:α->Sem β}(hf:∀ a,Lv P A (f a)):Lv P A (m >>= f):=by
 change Lv P A (m.bind f)
 induction m with
 | pure a=>exact hf a
 | load _ _ _ ih=>exact .load ih
 | store _ _ _ _ ih=>exact .store ih
 | new _ _ ih=>exact .new ih
 | shape _ _ ih=>exact .shape ih
 | freeze _ _ _ ih=>exact .freeze ih
 | frozen _ _ ih=>exact .frozen ih
 | getObj _ _ ih=>exact .getObj λo _=>ih o
 | setObj _ _ _ ih=>exact .setObj ih
 | choose _ _ ih=>exact .choose ih
 | sys _ _ ih=>exact .sys ih
 | program _ ih=>exact .program (ih P)
 | mark _ _ ih=>exact .mark ih
 | halt _=>exact .halt
def Res:Next->Prop
 | .value _ | .skip | .enter _ _=>True
 | .spawn d=>(match d.target with | .nil=>False | _=>True)
 | .comm _ b _=>b=true
 | .defer d=>(match d.target with | .fn _ _ | .nil=>True | _=>False)
 | _=>False
def qW (d:Deferred):Prop:=match d.target with | .fn _ _ | .nil=>True | _=>False
def oW (P:Program):Prop:=∀ (f:Nat) (fn:Func),P.funcs[f]?=some fn->fn.body=none->∀ args e,Extern.findNext fn=some e->Lv P Res (e args)
theorem Lv.value {A:Next->Prop}(hA:∀ v,A (.value v)) (m:Sem Value):Lv P A (m >>= λv=>Pure.pure (Next.value v)):=Lv.bind m λv=>.pure (hA v)
theorem Lv.callFunc (hE:oW P) (f:FuncId) (args:Array Value) (hn:∀ fn,P.funcs[f]?=some fn->(fn.name == "runtime.NumGoroutine")=true->fn.body.isNone=false->False) (hn':∀ fn,P.funcs[f]?=some fn->fn.body=none->(fn.name == "runtime.NumGoroutine")=false):Lv P Res (Go.callFunc f args):=by
 unfold Go.callFunc;refine Lv.program ?_
 show Lv P Res (match P.funcs[f]? with | none=>_ | some fn=>_)
 split
 ·exact .halt
 ·rename_i fn hfn
  split
  ·rename_i h
   cases hb:fn.body with
   | none=>rw[hn' fn hfn hb] at h;cases h
   | some c=>exact(hn fn hfn h (by rw[hb];rfl)).elim
  ·split
   ·rename_i hb
    have hb':fn.body=none:=by cases h:fn.body <;> simp_all
    refine Lv.bind _ λ_=>?_;cases h1:Extern.findNext fn with
    | some e=>exact hE f fn hfn hb' args e h1
    | none =>
      show Lv P Res (match Extern.find fn with | some e=>_ | none=>_)
      split
      ·exact Lv.bind _ λ_=>.pure trivial
      ·split
       ·exact .pure trivial
       ·exact .halt
   ·exact .pure trivial
def mF (P:Program):Prop:=∀ (f:Nat) (fn:Func),P.funcs[f]?=some fn->(fn.name == "runtime.NumGoroutine")=false
theorem Lv.callFunc' (hE:oW P) (hN:mF P) (f:FuncId) (args:Array Value):Lv P Res (Go.callFunc f args):=
 Lv.callFunc hE f args (λfn h1 h2 _=>by rw[hN f fn h1] at h2;cases h2) (λfn h1 _=>hN f fn h1)
theorem T.callMethod (hE:Ext P) (v:Value) (s:String) (args:Array Value):T P (Go.callMethod v s args):=by
 unfold Go.callMethod
 split
 ·refine T.bind T.program λp=>T.bind (T.method _ _ _ _) λx=>?_
  exact T.callFunc hE _ _
 ·exact T.runtimePanic _
 ·exact T.stuck _
theorem Lv.callMethod (hE:oW P) (hN:mF P) (v:Value) (s:String) (args:Array Value):Lv P Res (Go.callMethod v s args):=by
 unfold Go.callMethod
 split
 ·exact Lv.bind _ λp=>Lv.bind _ λx=>Lv.callFunc' hE hN _ _
 ·exact Lv.bind _ λp=>by dsimp only;exact .halt
 ·exact .halt
theorem T.yield (l:Nat) (args:Array Value):T P (Instr.yield l args):=by
 unfold Instr.yield Instr.getLoop;simp only[bind_assoc];refine T.getObjBind (λo=>?_) (λo ho=>R.cut (h:=.stuck _) trivial);refine T.bind ?_ λr=>?_
 ·split
  ·exact T.pure _
  ·exact T.stuck _
 ·refine T.ite (λ_=>T.bind (T.stuck _) λ_=>T.pure _) (λ_=>T.pure _)
theorem Lv.yield {A:Next->Prop}(l:Nat) (args:Array Value):Lv P A (Instr.yield l args):=by
 unfold Instr.yield Instr.getLoop;simp only[bind_assoc];refine Lv.getObj λo ho=>?_;cases o <;> first | exact Lv.halt | exact False.elim ho
theorem T.invoke (hE:Ext P) (t:Target) (args:Array Value) (ht:qW ⟨t,args⟩):T P (Go.invoke t args):=by
 unfold Go.invoke
 split
 ·exact T.runtimePanic _
 ·exact False.elim ht
 ·exact T.callFunc hE _ _
 ·split
  ·exact T.callMethod hE _ _ _
  ·exact T.stuck _
 ·split
  ·refine T.bind (T.underlying _) λd=>?_
   exact T.callMethod hE _ _ _
  ·exact T.stuck _
 ·split
  ·exact T.bind (T.receiverVia _ _ _ _) λ_=>T.callFunc hE _ _
  ·exact T.stuck _
 ·exact T.yield _ _
 ·exact T.stuck _
 ·exact False.elim ht
theorem Lv.invoke (hE:oW P) (hN:mF P) (t:Target) (args:Array Value) (ht:qW ⟨t,args⟩):Lv P Res (Go.invoke t args):=by
 unfold Go.invoke
 split
 ·exact Lv.bind _ λp=>by dsimp only;exact .halt
 ·exact False.elim ht
 ·exact Lv.callFunc' hE hN _ _
 ·split
  ·exact Lv.callMethod hE hN _ _ _
  ·exact .halt
 ·split
  ·exact Lv.bind _ λ_=>Lv.callMethod hE hN _ _ _
  ·exact .halt
 ·split
  ·exact Lv.bind _ λ_=>Lv.callFunc' hE hN _ _
  ·exact .halt
 ·exact Lv.yield _ _
 ·exact .halt
 ·exact False.elim ht
def gK (P:Program):Op->Bool
 | .move _ | .assign _ | .pick .. | .alloc _ | .box .. | .build .. | .buildSlice .. | .load .. | .store .. | .nilCheck _ | .binOp .. | .unOp .. | .makeInterface .. | .makeFunc .. | .makeSlice .. | .slice .. | .fieldAddr .. | .field .. | .indexAddr .. | .index .. | .typeAssert .. | .extract .. | .panic _ | .send .. | .recv ..=>true
 | .convert s d _=>match P.underlying s,P.underlying d with
   | some (.int _),some (.int _)=>true
   | some (.pointer _),some .unsafePointer=>true
   | some .unsafePointer,some (.pointer _)=>true
   | _,_=>false
 | .makeChan _ x=>match x with
   | .const (.int _ n)=>n==0
   | _=>false
 | .call c=>match c.callee with
   | .builtin b=>match b with
     | .append | .cap | .clear | .copy | .len | .max | .min | .panic | .recover=>true
     | _=>false
   | _=>true
 | .defer c=>match c.callee with
   | .builtin _=>false
   | _=>true
 | .go c=>match c.callee with
   | .value (.func _)=>true
   | _=>false
 | _=>false
theorem T.value {m:Sem Value}(h:T P m):T P (m >>= λv=>Pure.pure (Next.value v)):=T.bind h λ_=>T.pure _
theorem T.resolved (hE:Ext P) (ρ:Operand->Value) (c:Call) (t:TypeId) (hb:∀ b,c.callee≠.builtin b):T P (Go.resolve ρ c t >>= λd=>Go.invoke d.target d.args):=by
 unfold Go.resolve Deferred.ofValue;dsimp only
 split
 ·rename_i b h;exact absurd h (hb b)
 ·exact T.invoke hE (.fn (.method _) #[]) _ trivial
 ·split
  ·exact T.invoke hE (.fn _ _) _ trivial
  ·exact T.invoke hE .nil (c.args.map ρ) trivial
  ·exact R.cut (h:=.stuck _) trivial
theorem Lv.resolved (hE:oW P) (hN:mF P) (ρ:Operand->Value) (c:Call) (t:TypeId) (hb:∀ b,c.callee≠.builtin b):Lv P Res (Go.resolve ρ c t >>= λd=>Go.invoke d.target d.args):=by
 unfold Go.resolve Deferred.ofValue;dsimp only
 split
 ·rename_i b h;exact absurd h (hb b)
 ·exact Lv.invoke hE hN (.fn (.method _) #[]) _ trivial
 ·split
  ·exact Lv.invoke hE hN (.fn _ _) _ trivial
  ·exact Lv.invoke hE hN .nil (c.args.map ρ) trivial
  ·exact Lv.halt
theorem Lv.deferred (ρ:Operand->Value) (c:Call) (t:TypeId) (hb:∀ b,c.callee≠.builtin b):Lv P Res (Go.resolve ρ c t >>= λd=>Pure.pure (Next.defer d)):=by
 unfold Go.resolve Deferred.ofValue;dsimp only
 split
 ·rename_i b h;exact absurd h (hb b)
 ·exact .pure trivial
 ·split
  ·exact .pure trivial
  ·exact .pure trivial
  ·exact Lv.halt
theorem T.cellsIn (r:Nat):T P (Go.cellsIn r):=by
 unfold Go.cellsIn;refine T.bind (T.shape _) λs=>?_
 split
 ·exact T.pure _
 ·refine T.getObjBind (λo=>?_) (λo ho=>?_)
  ·cases o <;> exact T.pure _
  ·cases o <;> first | exact R.pure _ | exact False.elim ho
theorem T.seenAt (a:Addr):T P (Conv.seenAt a):=by
 unfold Conv.seenAt;refine T.bind (T.viewAt _) λv=>?_
 split
 ·rename_i seen u
  have no:∀ {α:Type}(x:Sem α),T P ((Go.unsupported (.unsafePointer "a place inside memory seen as another type, where no seen variable begins"):Sem α)):=λ_=>T.unsupported _
  repeat' (first
   | assumption
   | exact T.unsupported _
   | (with_reducible first | exact T.pure _ | exact T.stuck _ | exact T.program | exact T.shape _)
   | (with_reducible refine T.bind ?_ λ_=>?_)
   | (with_reducible refine T.ite (λ_=>?_) (λ_=>?_))
   | intro _
   | split
   | dsimp only)
 ·exact T.pure _
theorem T.variablesAt (a:Addr) (u:TypeId) (n:Nat):T P (Go.variablesAt a u n):=by
 unfold Go.variablesAt
 repeat' (first
  | assumption
  | (with_reducible first | exact T.pure _ | exact T.program | exact T.shape _)
  | (with_reducible refine T.bind ?_ λ_=>?_)
  | intro _
  | split
  | dsimp only)
theorem T.clear (ts:Array TypeId) (t:TypeId) (vs:Array Value):T P (Builtin.clear_ ts t vs):=by
 unfold Builtin.clear_
 split
 ·refine T.bind (T.underlying _) λd=>?_
  split
  ·exact T.bind (T.pure _) λ_=>T.pure _
  ·exact T.bind (T.pure _) λ_=>T.pure _
  ·exact T.bind (T.pure _) λ_=>T.pure _
  ·refine R.getObj (λo ho=>?_) (λo ho=>R.cut (h:=.stuck _) trivial)
   cases o <;> first | exact False.elim ho | exact R.cut (h:=.stuck _) trivial
  ·exact T.bind (T.zeroValue _) λ_=>T.bind (T.storeCells _ _ _) λ_=>T.pure _
  ·exact T.bind (T.stuck _) λ_=>T.pure _
 ·exact T.stuck _
theorem T.unsafePointer (s d:TypeId) (v:Value) (h:(∃ t,P.underlying s=some (.pointer t)/\P.underlying d=some .unsafePointer)\/∃ t,P.underlying s=some .unsafePointer/\P.underlying d=some (.pointer t)):T P (Conv.unsafePointer s d v):=by
 unfold Conv.unsafePointer;refine T.bind (T.underlying _) λx=>T.bind (T.underlying _) λy=>?_
 split
 ·exact T.pure _
 ·refine T.bind (T.seenAt _) λs=>T.bind (T.cellsIn _) λc=>?_
  repeat' (first
   | assumption
   | (with_reducible first | exact T.pure _ | exact T.sizeOf _)
   | exact T.newObj trivial
   | (with_reducible refine T.bind ?_ λ_=>?_)
   | (with_reducible refine T.ite (λ_=>?_) (λ_=>?_))
   | intro _
   | split
   | dsimp only)
 ·exact T.pure _
 ·refine T.bind (T.seenAt _) λs=>?_
  repeat' (first
   | assumption
   | exact T.unsupported _
   | (with_reducible first | exact T.pure _ | exact T.sizeOf _ | exact T.program | exact T.shape _ | exact T.variablesAt _ _ _)
   | exact T.newObj trivial
   | (with_reducible refine T.bind ?_ λ_=>?_)
   | (with_reducible refine T.ite (λ_=>?_) (λ_=>?_))
   | intro _
   | split
   | dsimp only)
 ·exact T.pure _
 ·exact T.pure _
 ·exact T.asNumber _ _
 ·exact T.unsupported _
 ·exact T.unsupported _
 ·exact T.unsupported _
 ·exact T.stuck _
theorem T.convert (s d:TypeId) (v:Value) (h:gK P (.convert s d (.const v))=true):T P (Go.convert s d v):=by
 have und:∀ {t:TypeId}{x:TypeDesc},P.underlying t=some x->∀ (f:TypeDesc->Sem Value),T P (f x)->T P (Go.underlying t >>= f):=λ{t x} h1 f hf=>by
  unfold Go.underlying;refine R.program ?_
  show T P ((match P.underlying t with | some d=>(Pure.pure d:Sem TypeDesc) | none=>Go.stuck "no such type") >>= f)
  rw[h1];exact hf
 simp only[gK] at h
 split at h
 case h_4=>cases h
 case h_2 => 
  rename_i t1 h1 h2;unfold Go.convert;refine und h1 _ (und h2 _ ?_);exact T.unsafePointer s d v (.inl ⟨t1,h1,h2⟩)
 case h_3 =>
  rename_i t1 h1 h2;unfold Go.convert;refine und h1 _ (und h2 _ ?_);exact T.unsafePointer s d v (.inr ⟨t1,h1,h2⟩)
 rename_i k1 k2 h1 h2
 have e1:∀ (f:TypeDesc->Sem Value),T P (f (.int k1))->T P (Go.underlying s >>= f):=λf hf=>by
  unfold Go.underlying;refine R.program ?_
  show T P ((match P.underlying s with | some d=>(Pure.pure d:Sem TypeDesc) | none=>Go.stuck "no such type") >>= f)
  rw[h1];exact hf
 have e2:∀ (f:TypeDesc->Sem Value),T P (f (.int k2))->T P (Go.underlying d >>= f):=λf hf=>by
  unfold Go.underlying;refine R.program ?_
  show T P ((match P.underlying d with | some d=>(Pure.pure d:Sem TypeDesc) | none=>Go.stuck "no such type") >>= f)
  rw[h2];exact hf
 unfold Go.convert;refine e1 _ (e2 _ ?_);cases v <;> first | exact T.intToInt _ _ | exact T.floatToInt _ _ _ | exact T.unsupported _ | skip
 rename_i a;cases a <;> exact T.unsupported _
theorem T.nilCheck (v:Value):T P (match v with
  | .pointer none | .nilIface | .nilFunc=>Go.runtimePanic .nilDeref
  | .func (.method name) first captured =>
    match (first[0]?:Option Value) with
    | some .nilIface=>Go.runtimePanic .nilDeref
    | some (.iface t w)=>do
      if (<-Go.nilAhead ((<-Go.program).types.size+Made.depth) t w name) !=some false then
       Go.unsupported (.noEntry "op/nilCheck.the method's receiver behind this interface value is a nil pointer, or cannot be seen to be none, and the arguments act or may panic (ledger 612)")
      Pure.pure (.value (.func (.method name) first captured))
    | _=>Pure.pure (.value (.func (.method name) first captured))
  | x=>Pure.pure (.value x):Sem Next):=by
 split
 ·exact T.runtimePanic _
 ·exact T.runtimePanic _
 ·exact T.runtimePanic _
 ·split
  ·exact T.runtimePanic _
  ·refine T.bind T.program λp=>T.bind (T.nilAhead _ _ _ _) λr=>T.ite (λ_=>T.bind (T.unsupported _) λ_=>T.pure _) (λ_=>T.pure _)
  ·exact T.pure _
 ·exact T.pure _
theorem Lv.nilCheck (v:Value):Lv P Res (match v with
  | .pointer none | .nilIface | .nilFunc=>Go.runtimePanic .nilDeref
  | .func (.method name) first captured =>
    match (first[0]?:Option Value) with
    | some .nilIface=>Go.runtimePanic .nilDeref
    | some (.iface t w)=>do
      if (<-Go.nilAhead ((<-Go.program).types.size+Made.depth) t w name) !=some false then
       Go.unsupported (.noEntry "op/nilCheck.the method's receiver behind this interface value is a nil pointer, or cannot be seen to be none, and the arguments act or may panic (ledger 612)")
      Pure.pure (.value (.func (.method name) first captured))
    | _=>Pure.pure (.value (.func (.method name) first captured))
  | x=>Pure.pure (.value x):Sem Next):=by
 split
 ·exact Lv.bind _ λp=>Lv.halt
 ·exact Lv.bind _ λp=>Lv.halt
 ·exact Lv.bind _ λp=>Lv.halt
 ·split
  ·exact Lv.bind _ λp=>Lv.halt
  ·refine Lv.bind _ λp=>Lv.bind _ λr=>?_
   split
   ·exact Lv.halt
   ·exact .pure trivial
  ·exact .pure trivial
 ·exact .pure trivial
theorem T.exec (hE:Ext P) (ρ:Operand->Value) (hρ:∀ v,ρ (.const v)=v) (o:Oper) (h:gK P o.op=true):T P (execOp ρ o):=by
 obtain⟨dst,op,ty,pos,aft,gd⟩:=o;cases op
 case move | assign=>exact T.pure _
 case pick=>exact T.bind (T.asBool _) λb=>T.pure _
 case alloc=>exact T.value (T.alloc _ _ _)
 case box=>exact T.value (T.box _ _)
 case build=>exact T.value (T.build _ _)
 case buildSlice=>exact T.value (T.buildSlice _ _ _)
 case load=>exact T.value (T.loadAt _ _)
 case store=>exact T.bind (T.storeAt _ _ _) λ_=>T.pure _
 case nilCheck=>exact T.nilCheck _
 case binOp=>exact T.value (T.bind (T.eqGuard _ _ _ _ _ _) λ_=>T.binOp _ _ _ _)
 case unOp=>exact T.value (T.unary _ _)
 case convert s d x=>exact T.value (T.convert _ _ _ h)
 case makeInterface=>exact T.value (T.makeInterface _ _)
 case makeFunc=>exact T.value (T.makeFunc _ _ _)
 case makeChan t x =>
  cases x <;> try (cases h;done)
  rename_i v;cases v <;> try (cases h;done)
  rename_i k n;have hn:n=0:=by simpa [gK] using h
  subst hn;have:=T.makeChan (P:=P) t k;rw[<-hρ (.int k 0)] at this;exact T.value this
 case makeSlice=>exact T.value (T.makeSlice _ _ _)
 case slice=>exact T.value (T.sliceAt _ _ _ _ _)
 case fieldAddr=>exact T.value (T.fieldAt _ _ _)
 case field=>exact T.value (T.field _ _ _)
 case indexAddr=>exact T.value (T.indexAt _ _ _)
 case index=>exact T.value (T.index _ _ _)
 case typeAssert=>exact T.value (T.typeAssert _ _ _ _)
 case extract=>exact T.value (T.extract _ _)
 case go=>exact T.bind (T.resolve _ _ _) λ_=>T.pure _
 case panic=>exact T.value (T.panic _)
 case send=>exact T.pure _
 case recv =>
  refine T.bind (T.underlying _) λd=>?_
  split
  ·exact T.bind (T.zeroValue _) λ_=>T.pure _
  ·exact T.stuck _
 case defer c=>exact T.bind (T.resolve _ _ _) λ_=>T.pure _
 case call c =>
  by_cases hb:∃ b,c.callee=.builtin b
  ·obtain ⟨b,hb⟩:=hb
   simp only[gK,hb] at h
   show T P (Go.resolve ρ c ty >>= λd=>Go.invoke d.target d.args)
   unfold Go.resolve;dsimp only;rw[hb];cases b <;> first |(exact absurd h Bool.false_ne_true) | skip
   ·exact T.value (T.append _ _ _)
   ·exact T.value (T.cap _ _ _)
   ·exact T.value (T.clear _ _ _)
   ·exact T.value (T.copy _ _ _)
   ·exact T.value (T.len _ _ _)
   ·exact T.value (T.max _ _ _)
   ·exact T.value (T.min _ _ _)
   ·exact T.value (T.panic _)
   ·exact T.pure _
  ·exact T.resolved hE _ _ _ λb e=>hb ⟨b,e⟩
 all_goals cases h
def isRec:Op->Bool
 | .call c=>match c.callee with
   | .builtin .recover=>true
   | _=>false
 | _=>false
theorem exec_rec (ρ:Operand->Value) (o:Oper) (h:isRec o.op=true):execOp ρ o=.pure .recover:=by
 obtain⟨dst,op,ty,pos,aft,gd⟩:=o;cases op
 case call c =>
  obtain⟨callee,args,ats⟩:=c;cases callee
  case builtin b=>cases b <;> first | rfl | cases h
  all_goals cases h
 all_goals cases h
theorem Lv.exec (hE:oW P) (hN:mF P) (ρ:Operand->Value) (hf:∀ f,ρ (.func f)=.func (.func f) #[] #[]) (o:Oper) (h:gK P o.op=true) (hr:isRec o.op=false):Lv P Res (execOp ρ o):=by
 obtain⟨dst,op,ty,pos,aft,gd⟩:=o;cases op
 case move | assign=>exact .pure trivial
 case pick=>exact Lv.bind _ λb=>.pure trivial
 case store=>exact Lv.bind _ λ_=>.pure trivial
 case nilCheck=>exact Lv.nilCheck _
 case go c =>
  obtain⟨callee,args,ats⟩:=c;cases callee <;> try (cases h;done)
  rename_i f;cases f <;> try (cases h;done)
  rename_i f
  show Lv P Res (Deferred.ofValue (ρ (.func f)) _ >>= λd=>Pure.pure (Next.spawn d))
  rw[hf];exact .pure trivial
 case send=>exact .pure rfl
 case recv =>
  refine Lv.bind _ λd=>?_
  split
  ·exact Lv.bind _ λ_=>.pure rfl
  ·exact .halt
 case defer c =>
  exact Lv.deferred _ _ _ λb e=>by simp only[gK,e] at h;cases h
 case call c =>
  by_cases hb:∃ b,c.callee=.builtin b
  ·obtain ⟨b,hb⟩:=hb
   simp only[gK,hb] at h
   show Lv P Res (Go.resolve ρ c ty >>= λd=>Go.invoke d.target d.args)
   unfold Go.resolve;dsimp only;rw[hb];cases b <;> first |(exact absurd h Bool.false_ne_true) | skip
   all_goals first | exact Lv.value (λ_=>trivial) _ |(simp[isRec,hb] at hr)
  ·exact Lv.resolved hE hN _ _ _ λb e=>hb ⟨b,e⟩
 all_goals first | exact Lv.value (λ_=>trivial) _ | cases h
end Go.Tame
namespace Go.Tame
open Go.Conc (G)
section
variable (P:Program)
def opOk (r:Bool) (o:Op):Bool:=gK P o && (r || !isRec o)
def dD (r:Bool):Code->Bool
 | .region _ ops _=>ops.all λo=>opOk P r o.op
 | .seq a b | .cond _ a b=>dD r a && dD r b
 | .block _ c | .loop c | .scope c=>dD r c
 | .rangeFunc ..=>false
 | _=>true
def gC (r:Bool):Item->Prop
 | .code c | .inLoop c | .inScope c=>dD P r c=true
 | .inBlock _=>True
 | .inRegion ops _=>(ops.all λo=>opOk P r o.op)=true
 | _=>False
def cZ (r:Bool) (l:List Item):Prop:=∀ i∈l,gC P r i
structure Prog:Prop where
 code:∀ (f:Nat) (fn:Func) (c:Code),P.funcs[f]?=some fn->fn.body=some c->dD P true c=true
 ext:Ext P
 lv:oW P
 num:mF P
 ahead:P.follows .staticDataAhead=true
structure FrOk (f:Frame):Prop where
 kind:f.kind=.normal\/f.kind=.deferred
 round:f.roundOf=none
 todo:cZ P true f.todo
 defers:∀ d∈f.defers,qW d
def BaseOk (f:Frame):Prop:=f.kind=.normal\/cZ P false f.todo
def Inv:Frame->List Frame->Prop
 | f,[]=>FrOk P f/\BaseOk P f
 | f,c::cs=>FrOk P f/\Inv c cs
def aV:Frame:={ fn:=P.funcs.size,tmps:=#[],todo:=[.code (.refuse "")],defers:=[{ target:=.nil,args:=#[] }],mode:=.run,kind:=.normal }
def Doom (S:GStep):Prop:=
 (∃ o w,S.bare=.ended o w)\/(∃ g cases shape x,S.bare=.comm g cases true shape x/\g.status=.running/\g.dying=none/\Seen x)\/(∃ g c x,S.bare=.spawn g c x)\/∃ f x,S.bare=.go (G f []) x/\(f=aV P\/∃ ch,f={ aV P with mode:=.panicking ch })
def Out (F:Fast) (w:World) (τ:Nat->Question->Nat) (n:Nat) (S:GStep) (A:Bool->List Frame->GStep):Prop:=
 Doom P S\/∃ fr1 mid1 x1 w1 es,S.bare=.go (G fr1 (mid1++[aV P])) x1/\Inv P fr1 mid1/\(∀ m cs,A m cs=.go (G fr1 (mid1++cs)) w1 es)/\Like F x1 w1/\x1.tape=τ/\x1.drawn=n/\Kep F w w1/\∀ e∈es,EvOk F w1.heap.size e
structure On (f f':Frame):Prop where
 kind:f'.kind=f.kind
 round:f'.roundOf=f.roundOf
 todo:∀ r,cZ P r f.todo->cZ P r f'.todo
 defers:∀ d∈f'.defers,d∈f.defers\/qW d
end
section
variable {P:Program}{F:Fast}{x w:World}
theorem FrOk.on {f f':Frame}(h:FrOk P f) (o:On P f f'):FrOk P f':=
 ⟨by rw[o.kind];exact h.kind,o.round.trans h.round,o.todo _ h.todo,λd hd=>(o.defers d hd).elim (h.defers d) id⟩
theorem BaseOk.on {f f':Frame}(h:BaseOk P f) (o:On P f f'):BaseOk P f':=h.imp (λe=>o.kind.trans e) (λe=>o.todo _ e)
theorem Inv.on {f f':Frame}{mid:List Frame}(h:Inv P f mid) (o:On P f f'):Inv P f' mid:=by
 cases mid with
 | nil=>exact⟨h.1.on o,h.2.on o⟩
 | cons c cs=>exact⟨h.1.on o,h.2⟩
theorem Inv.fr {f:Frame}{mid:List Frame}(h:Inv P f mid):FrOk P f:=by
 cases mid <;> exact h.1
theorem Inv.push {f f':Frame}{mid:List Frame}(h:Inv P f mid) (h':FrOk P f'):Inv P f' (f::mid):=⟨h',h⟩
theorem On.refl (f:Frame):On P f f:=⟨rfl,rfl,λ_ h=>h,λ_ h=>.inl h⟩
theorem On.trans {a b c:Frame}(h:On P a b) (k:On P b c):On P a c:=
 ⟨k.kind.trans h.kind,k.round.trans h.round,λr z=>k.todo r (h.todo r z),λd hd=>(k.defers d hd).elim (h.defers d) .inr⟩
theorem oK (hP:Prog P) (f:FuncId) (args:Array Value) (k:CallKind) (hk:k=.normal\/k=.deferred):FrOk P (Frame.enter P f args k):=by
 refine⟨hk,rfl,λi hi=>?_,λd hd=>by simp[Frame.enter] at hd⟩;simp only[Frame.enter,List.mem_singleton] at hi;subst hi
 show dD P true _=true
 cases h1:P.funcs[f]? with
 | none=>rfl
 | some fn =>
   cases h2:fn.body with
   | none=>simp[h2];rfl
   | some c=>simp[h2];exact hP.code f fn c h1 h2
theorem on_todo {f:Frame}{l:List Item}(h:∀ r,cZ P r f.todo->cZ P r l):On P f { f with todo:=l }:=⟨rfl,rfl,h,λ_ h=>.inl h⟩
theorem mN (f:Frame) (m:FrameMode):On P f { f with mode:=m }:=⟨rfl,rfl,λ_ h=>h,λ_ h=>.inl h⟩
theorem kP (f:Frame) (vs:List PanicEntry):On P f (f.raise vs):=by
 unfold Frame.raise
 split <;> exact mN _ _
theorem dZ {f:Frame}(v:Value) (hf:cZ P true f.todo):On P f (f.finish v):=by
 unfold Frame.finish
 split
 ·rename_i ops i rest k h
  exact ⟨rfl,rfl,λr z=>by
   rw[h] at z;intro j hj
   rcases List.mem_cons.1 hj with rfl | hj
   ·exact z (.inRegion ops (i::rest)) (List.mem_cons_self ..)
   ·exact z j (List.mem_cons_of_mem _ hj),λ_ h=>.inl h⟩
 ·rename_i h;rw[h] at hf;exact False.elim (hf _ (List.mem_cons_self ..))
 ·rename_i h;rw[h] at hf;exact False.elim (hf _ (List.mem_cons_self ..))
 ·rename_i h;rw[h] at hf;exact False.elim (hf _ (List.mem_cons_self ..))
 ·rename_i h;rw[h] at hf;exact False.elim (hf _ (List.mem_cons_self ..))
 ·exact On.refl _
theorem rT {r:Bool}{id:Nat}:∀ {l k:List Item},exitTo id l=some k->cZ P r l->cZ P r k
 | [],_,h,_=>by cases h
 | i :: l,k,h,z=>by
   have z':cZ P r l:=λj hj=>z j (List.mem_cons_of_mem _ hj);cases i
   case inBlock b =>
    simp only[exitTo] at h
    split at h
    ·cases h;exact z'
    ·exact rT h z'
   all_goals exact rT (l:=l) h z'
theorem oE {r:Bool}{n:Nat}:∀ {c d:Code},findLabel c n=some d->dD P r c=true->dD P r d=true
 | .seq a b,d,h,z=>by
   simp only[dD,Bool.and_eq_true] at z;simp only[findLabel] at h
   split at h
   ·rename_i rest hr
    cases h;simp only[dD,Bool.and_eq_true];exact⟨oE hr z.1,z.2⟩
   ·exact oE h z.2
 | .label m,d,h,z=>by
   simp only[findLabel] at h
   split at h
   ·cases h;rfl
   ·cases h
 | .skip,d,h,z | .region ..,d,h,z | .cond ..,d,h,z | .block ..,d,h,z | .loop ..,d,h,z | .rangeFunc ..,d,h,z | .exit ..,d,h,z | .scope ..,d,h,z | .goto ..,d,h,z | .ret,d,h,z | .refuse ..,d,h,z=>by simp[findLabel] at h
theorem rS {r:Bool}{n:Nat}:∀ {l k:List Item},gotoIn n l=some k->cZ P r l->cZ P r k
 | [],_,h,_=>by cases h
 | i :: l,k,h,z=>by
   have z':cZ P r l:=λj hj=>z j (List.mem_cons_of_mem _ hj);cases i
   case inScope b =>
    simp only[gotoIn] at h
    split at h
    ·rename_i rest hr
     cases h;have hb:dD P r b=true:=z (.inScope b) (List.mem_cons_self ..);intro j hj
     rcases List.mem_cons.1 hj with rfl | hj
     ·exact oE hr hb
     rcases List.mem_cons.1 hj with rfl | hj
     ·exact hb
     ·exact z' j hj
    ·exact rS h z'
   all_goals exact rS (l:=l) h z'
theorem fT {τ:Nat->Question->Nat}{d:Nat}{S:GStep}{A:Bool->List Frame->GStep}{fr1:Frame}{mid1:List Frame}(hl:Like F x w) (hI:Inv P fr1 mid1)
  (hS:S.bare=.go (G fr1 (mid1++[aV P])) (x.re τ d)) (hA:∀ m cs,A m cs=.go (G fr1 (mid1++cs)) w):Out P F w τ d S A:=
 .inr ⟨fr1,mid1,_,w,#[],hS,hI,hA,hl.re τ d,rfl,rfl,Kep.refl F w,λe he=>by simp at he⟩
theorem fP {n:Nat}{fn:FuncId}{es:Array Event}(h:∀ e∈es,EvOk F n e):∀ e∈seen P fn es,EvOk F n e:=λe he=>h e (Go.Conc.mem_seen he)
theorem pY {r:Bool}{o:Op}(h:opOk P r o=true):gK P o=true:=by
 simp only[opOk,Bool.and_eq_true] at h;exact h.1
theorem readies_nil {r:Bool}{c:Code}(h:dD P r c=true):readies c=[]:=by
 induction c with
 | region id ops d =>
   simp only[dD,Array.all_eq_true'] at h;simp only[readies,List.filterMap_eq_nil_iff];intro o ho;have:=pY (h o (by simpa using ho));cases hop:o.op <;> first | rfl |(rw[hop] at this;cases this)
 | seq a b iha ihb | cond _ a b iha ihb=>simp only[dD,Bool.and_eq_true] at h;simp[readies,iha h.1,ihb h.2]
 | block _ _ ih | loop _ ih | scope _ ih=>exact ih h
 | rangeFunc=>cases h
 | _=>rfl
theorem no_step (hP:Prog P) (g:Nat):P.stepOf g=none:=by
 unfold Program.stepOf;rw[Array.findIdx?_eq_none_iff];intro fn hfn;obtain⟨i,hi⟩:=Array.mem_iff_getElem?.1 hfn;cases hb:fn.body with
 | none=>rfl
 | some c=>simp[readies_nil (hP.code i fn c hi hb)]
theorem early_ends (hP:Prog P) (fr:Frame) (cs:List Frame) (dy:Option Dying) (g:Nat) (w:World):∃ o,early P fr cs dy g w=.ended o w:=by
 unfold early;simp only[hP.ahead,Bool.not_true,Bool.false_eq_true,if_false,no_step hP g];exact⟨_,rfl⟩
theorem sim_apply (hP:Prog P) {fr:Frame}{mid:List Frame}(hI:Inv P fr mid) (s:Sem Next) (hT:T P s) (hs:Lv P Res s) (hl:Like F x w) :
  ∃ L:List (Question->Nat),∀ τ d,Reads τ d L->Out P F w τ (d+L.length) (stepG.apply P true fr (mid++[aV P]) none s (x.re τ d)) (λ_ cs=>stepG.apply P true fr (mid++cs) none s w):=by
 obtain⟨L,hL⟩:=R.sim hT x w #[] hl;refine⟨L,λτ d hR=>?_⟩;obtain⟨hb,hv⟩:=hL τ d hR;have hk:(fr.kind==CallKind.early)=false:=by rcases hI.fr.kind with h | h <;> rw[h] <;> rfl
 cases hr:s.run P (x.re τ d) with
 | ok a x' =>
   rw[hr] at hb hv;have hres:=hv Res hs a x' rfl;obtain⟨w',new,h1,h2,h3,h4,h5,h6⟩:=hb;have h1':s.runT P w #[]=(.ok a w',new):=by simpa using h1
   cases a with
   | value v =>
     refine .inr ⟨fr.finish v,mid,x',w',seen P fr.fn new,?_,hI.on (dZ v hI.fr.todo),λ_ cs=>?_,h2,h3,h4,h5,fP h6⟩
     ·simp [stepG.apply,hr,G]
     ·simp only [stepG.apply,h1',if_true,hk]
      simp[GStep.after,G]
   | skip =>
     refine .inr ⟨fr.finish undef,mid,x',w',seen P fr.fn new,?_,hI.on (dZ undef hI.fr.todo),λ_ cs=>?_,h2,h3,h4,h5,fP h6⟩
     ·simp [stepG.apply,hr,G]
     ·simp only [stepG.apply,h1',if_true,hk]
      simp[GStep.after,G]
   | enter f args =>
     refine .inr ⟨Frame.enter P f args .normal,fr::mid,x',w',seen P fr.fn new,?_,hI.push (oK hP f args .normal (.inl rfl)),λ_ cs=>?_,h2,h3,h4,h5,fP h6⟩
     ·cases ht:fr.todo with
      | nil=>simp[stepG.apply,hr,G,ht]
      | cons i k =>
        have:=hI.fr.todo i (by rw[ht];exact List.mem_cons_self ..);cases i <;> first | exact False.elim this | simp[stepG.apply,hr,G,ht]
     ·cases ht:fr.todo with
      | nil =>
        simp only[stepG.apply,h1',if_true,hk,ht]
        simp[GStep.after,G]
      | cons i k =>
        have:=hI.fr.todo i (by rw[ht];exact List.mem_cons_self ..);cases i <;> first | exact False.elim this |(simp only[stepG.apply,h1',if_true,hk,ht];simp[GStep.after,G])
   | defer dd =>
     refine .inr ⟨{ fr with defers:=dd::fr.defers }.finish undef,mid,x',w',seen P fr.fn new,?_,?_,λ_ cs=>?_,h2,h3,h4,h5,fP h6⟩
     ·simp [stepG.apply,hr,G]
     ·have o1:On P fr { fr with defers:=dd::fr.defers }:=⟨rfl,rfl,λ_ h=>h,λd hd=>by
       rcases List.mem_cons.1 hd with rfl | hd
       ·exact .inr hres
       ·exact .inl hd⟩
      exact hI.on (o1.trans (dZ undef hI.fr.todo))
     ·simp only [stepG.apply,h1',if_true,hk]
      simp[GStep.after,G]
   | spawn dd =>
     left;right;right;left
     obtain⟨t,as⟩:=dd;cases t <;> first | exact False.elim hres | simp[stepG.apply,hr]
   | comm cases b shape =>
     cases (show b=true from hres);exact .inl (.inr (.inl ⟨_,cases,shape,x',by simp[stepG.apply,hr];rfl,rfl,rfl,h2.seen'⟩))
   | _=>exact False.elim hres
 | halt h x' =>
   rw[hr] at hb
   rcases hb with hc | ⟨⟨v,rfl⟩,w',new,h1,h2,h3,h4,h5,h6⟩
   ·left; left
    cases h with
    | unsupported u =>
      by_cases hu:∃ g,u=.initOrder g
      ·obtain ⟨g,rfl⟩:=hu
       obtain⟨o,ho⟩:=early_ends hP fr (mid++[aV P]) none g x';refine⟨o,x',?_⟩
       simp[stepG.apply,hr,ho]
      ·refine ⟨.unsupported u (fr.pos P),x',?_⟩
       cases u <;> first | exact absurd ⟨_,rfl⟩ hu | simp[stepG.apply,hr]
    | stuck t=>exact⟨.stuck t (fr.pos P),x',by simp[stepG.apply,hr]⟩
    | _=>exact False.elim hc
   ·have h1':s.runT P w #[]=(.halt (.panic v) w',new):=by simpa using h1
    refine .inr ⟨fr.raise [{ v,recovered:=false }],mid,x',w',seen P fr.fn new,?_,hI.on (kP _ _),λ_ cs=>?_,h2,h3,h4,h5,fP h6⟩
    ·simp [stepG.apply,hr,G]
    ·simp only [stepG.apply,h1',if_true,hk]
     simp[GStep.after,G]
theorem Inv.tail {f c:Frame}{rest:List Frame}(h:Inv P f (c::rest)):Inv P c rest:=h.2
theorem sim_recover {fr:Frame}{mid:List Frame}(hI:Inv P fr mid) (hb:mid=[]->fr.kind=.normal) (hl:Like F x w) :
  ∃ L:List (Question->Nat),∀ τ d,Reads τ d L->Out P F w τ (d+L.length) (stepG.apply P true fr (mid++[aV P]) none (.pure .recover) (x.re τ d)) (λ_ cs=>stepG.apply P true fr (mid++cs) none (.pure .recover) w):=by
 refine⟨[],λτ d _=>?_⟩;have hr:=hI.fr.round;have he:(fr.kind==CallKind.early)=false:=by rcases hI.fr.kind with h | h <;> rw[h] <;> rfl
 have no:(∀ cs,tryRecover fr (mid++cs)=none)->Out P F w τ (d+([]:List (Question->Nat)).length) (stepG.apply P true fr (mid++[aV P]) none (.pure .recover) (x.re τ d)) (λ_ cs=>stepG.apply P true fr (mid++cs) none (.pure .recover) w):=by
  intro h;refine fT (fr1:=fr.finish .nilIface) (mid1:=mid) hl (hI.on (dZ _ hI.fr.todo)) ?_ λ_ cs=>?_
  ·simp [stepG.apply,Sem.run,hr,h,G]
  ·simp [stepG.apply,Sem.runT,hr,h,G,he,GStep.after,Go.Conc.seen_none]
 cases mid with
 | nil =>
   refine no λcs=>?_;have:=hb rfl;unfold tryRecover;rw[this]
 | cons c rest =>
   rcases hI.fr.kind with hk | hk
   ·refine no λcs=>?_
    unfold tryRecover;rw[hk]
   ·by_cases hm:∃ v older,c.mode=.panicking ({ v,recovered:=false,goexit:=false }::older)
    ·obtain ⟨v,older,hm⟩:=hm
     have ht:∀ cs,tryRecover fr (c::(rest++cs))=some (v,{ c with mode:=.panicking ({ v,recovered:=true }::older) }::(rest++cs)):=by
      intro cs;unfold tryRecover;rw[hk]
      simp[hm]
     have o1:On P c { c with mode:=.panicking ({ v,recovered:=true }::older) }:=mN _ _;refine fT (fr1:=fr.finish v) (mid1:={ c with mode:=.panicking ({ v,recovered:=true }::older) }::rest) hl ?_ ?_ λ_ cs=>?_
     ·exact Inv.push (hI.tail.on o1) (hI.fr.on (dZ _ hI.fr.todo))
     ·simp [stepG.apply,Sem.run,hr,ht,G]
     ·simp [stepG.apply,Sem.runT,hr,ht,G,he,GStep.after,Go.Conc.seen_none]
    ·refine no λcs=>?_
     unfold tryRecover;rw[hk];simp only[List.cons_append]
     split
     ·rename_i v older h;exact absurd ⟨v,older,h⟩ hm
     ·rfl
theorem stepG_run {main:Bool}{fr:Frame}{cs:List Frame}(hm:fr.mode=.run) (w:World):stepG P main (G fr cs) w=stepG.exec P main true fr cs none w:=by
 simp[stepG,G,hm]
theorem stepG_unw {main:Bool}{fr:Frame}{cs:List Frame}(hm:fr.mode≠.run) (w:World):stepG P main (G fr cs) w=unwind P main fr cs none w:=by
 cases h:fr.mode <;> first | exact absurd h hm | simp[stepG,G,h]
theorem sim_exec (hP:Prog P) {fr:Frame}{mid:List Frame}(hI:Inv P fr mid) (hl:Like F x w) :
  ∃ L:List (Question->Nat),∀ τ d,Reads τ d L->Out P F w τ (d+L.length) (stepG.exec P true true fr (mid++[aV P]) none (x.re τ d)) (λmain cs=>stepG.exec P main true fr (mid++cs) none w):=by
 have hr:=hI.fr.round;have hto:=hI.fr.todo
-- a move of control
 have move:∀ (l:List Item),(∀ r,cZ P r fr.todo->cZ P r l) ->
   (∀ (m:Bool) (cs:List Frame) (w:World),stepG.exec P m true fr cs none w=.go (G { fr with todo:=l } cs) w) ->
   ∃ L:List (Question->Nat),∀ τ d,Reads τ d L->Out P F w τ (d+L.length) (stepG.exec P true true fr (mid++[aV P]) none (x.re τ d)) (λmain cs=>stepG.exec P main true fr (mid++cs) none w):=by
  intro l h1 h2;refine⟨[],λτ d _=>fT (fr1:={ fr with todo:=l }) (mid1:=mid) hl (hI.on (on_todo h1)) ?_ λ_ cs=>h2 _ _ _⟩;rw[h2];rfl
 have leave:(∀ (m:Bool) (cs:List Frame) (w:World),stepG.exec P m true fr cs none w=.go (G { fr with mode:=.returning } cs) w) ->
   ∃ L:List (Question->Nat),∀ τ d,Reads τ d L->Out P F w τ (d+L.length) (stepG.exec P true true fr (mid++[aV P]) none (x.re τ d)) (λmain cs=>stepG.exec P main true fr (mid++cs) none w):=by
  intro h2;refine⟨[],λτ d _=>fT (fr1:={ fr with mode:=.returning }) (mid1:=mid) hl (hI.on (mN _ _)) ?_ λ_ cs=>h2 _ _ _⟩;rw[h2];rfl
 have lost:(∃ o,∀ (cs:List Frame) (w:World),stepG.exec P true true fr cs none w=.ended o w) ->
   ∃ L:List (Question->Nat),∀ τ d,Reads τ d L->Out P F w τ (d+L.length) (stepG.exec P true true fr (mid++[aV P]) none (x.re τ d)) (λmain cs=>stepG.exec P main true fr (mid++cs) none w):=by
  rintro⟨o,h⟩;exact⟨[],λτ d _=>.inl (.inl ⟨o,_,by rw[h];rfl⟩)⟩
 have tl:∀ {i:Item}{k:List Item},fr.todo=i::k->∀ r,cZ P r fr.todo->gC P r i/\cZ P r k:=by
  intro i k ht r z;rw[ht] at z;exact⟨z _ (List.mem_cons_self ..),λj hj=>z j (List.mem_cons_of_mem _ hj)⟩
 have two:∀ {r:Bool}{i:Item}{k:List Item},gC P r i->cZ P r k->cZ P r (i::k):=by
  intro r i k h1 h2 j hj
  rcases List.mem_cons.1 hj with rfl | hj
  ·exact h1
  ·exact h2 j hj
 cases ht:fr.todo with
 | nil=>exact leave λm cs w=>by simp[stepG.exec,ht,hr,G]
 | cons i k =>
   cases i with
   | code c =>
     cases c with
     | skip=>exact move k (λr z=>(tl ht r z).2) λm cs w=>by simp[stepG.exec,ht,G]
     | label l=>exact move k (λr z=>(tl ht r z).2) λm cs w=>by simp[stepG.exec,ht,G]
     | ret=>exact leave λm cs w=>by simp[stepG.exec,ht,hr,G]
     | seq a b=>exact move (.code a::.code b::k) (λr z=>by
        obtain⟨h1,h2⟩:=tl ht r z;simp only[gC,dD,Bool.and_eq_true] at h1;exact two h1.1 (two h1.2 h2)) λm cs w=>by simp[stepG.exec,ht,G]
     | cond c a b =>
       cases hc:fr.eval c
       case bool t =>
        exact move (.code (if t then a else b)::k) (λr z=>by
         obtain⟨h1,h2⟩:=tl ht r z;simp only[gC,dD,Bool.and_eq_true] at h1;refine two ?_ h2;cases t
         ·exact h1.2
         ·exact h1.1) λm cs w=>by simp[stepG.exec,ht,G,hc]
       all_goals exact lost ⟨_,λcs w=>by simp only[stepG.exec,ht,hc];rfl⟩
     | block id b=>exact move (.code b::.inBlock id::k) (λr z=>by
        obtain⟨h1,h2⟩:=tl ht r z;exact two h1 (two trivial h2)) λm cs w=>by simp[stepG.exec,ht,G]
     | loop b=>exact move (.code b::.inLoop b::k) (λr z=>by
        obtain⟨h1,h2⟩:=tl ht r z;exact two h1 (two h1 h2)) λm cs w=>by simp[stepG.exec,ht,G]
     | scope b=>exact move (.code b::.inScope b::k) (λr z=>by
        obtain⟨h1,h2⟩:=tl ht r z;exact two h1 (two h1 h2)) λm cs w=>by simp[stepG.exec,ht,G]
     | exit id =>
       cases he:exitTo id k with
       | some k'=>exact move k' (λr z=>rT he (tl ht r z).2) λm cs w=>by simp[stepG.exec,ht,G,he]
       | none=>exact lost ⟨_,λcs w=>by simp[stepG.exec,ht,he,hr];rfl⟩
     | goto l =>
       cases he:gotoIn l k with
       | some k'=>exact move k' (λr z=>rS he (tl ht r z).2) λm cs w=>by simp[stepG.exec,ht,G,he]
       | none=>exact lost ⟨_,λcs w=>by simp[stepG.exec,ht,he,hr];rfl⟩
     | rangeFunc f ps a b=>exact absurd (tl ht true hto).1 (by simp[gC,dD])
     | refuse why=>exact lost ⟨_,λcs w=>by simp[stepG.exec,ht];rfl⟩
     | region id ops draw =>
       have sub:∀ (l:List Nat) (r:Bool),cZ P r fr.todo->cZ P r (.inRegion ops l::k):=λl r z=>two (tl ht r z).1 (tl ht r z).2;cases draw with
       | false=>exact move (.inRegion ops (List.range ops.size)::k) (sub _) λm cs w=>by simp[stepG.exec,ht,G]
       | true =>
         refine⟨[w.tape w.drawn],λτ d hT=>?_⟩;have e1:(x.re τ d).tape (x.re τ d).drawn (.order fr.fn id)=w.tape w.drawn (.order fr.fn id):=congrFun hT.head _;have o1:On P fr { fr with todo:=.inRegion ops (Region.schedule (P.follows .mixedOrders) ops (w.tape w.drawn (.order fr.fn id)))::k }:=on_todo (sub _);refine .inr ⟨_,mid,x.re τ (d+1),{ w with drawn:=w.drawn+1 },#[],?_,hI.on o1,λ_ cs=>?_,⟨hl.size,hl.os,hl.output,hl.blk⟩,rfl,rfl,⟨rfl,Nat.le_refl _,λ_ _=>rfl,λ_ _ h _=>h,λ_ c _ _ h=>⟨c,h,rfl⟩,⟨rfl,rfl⟩⟩,λe he=>by simp at he⟩
         ·simp only [stepG.exec,ht,Go.choose,Sem.run,Question.forced,Question.cut,e1,Bool.not_true,Bool.false_eq_true,if_false]
          rfl
         ·simp only [stepG.exec,ht,Go.choose,Sem.run,Question.forced,Question.cut,Bool.not_true,Bool.false_eq_true,if_false]
          rfl
   | inBlock id=>exact move k (λr z=>(tl ht r z).2) λm cs w=>by simp[stepG.exec,ht,G]
   | inLoop b=>exact move (.code b::.inLoop b::k) (λr z=>by
       obtain⟨h1,h2⟩:=tl ht r z;exact two h1 (two h1 h2)) λm cs w=>by simp[stepG.exec,ht,G]
   | inScope b=>exact move k (λr z=>(tl ht r z).2) λm cs w=>by simp[stepG.exec,ht,G]
   | inRegion ops todo =>
     cases todo with
     | nil=>exact move k (λr z=>(tl ht r z).2) λm cs w=>by simp[stepG.exec,ht,G]
     | cons i rest =>
       by_cases hw:((ops[i]?).map (Region.wanted · (yielded ops fr.tmps))).getD false=true
       ·cases ho:ops[i]? with
        | none=>rw[ho] at hw;cases hw
        | some o =>
          have hmem:o∈ops:=Array.mem_of_getElem? ho;have hop:fr.oper?=some o:=by simp[Frame.oper?,ht,ho]
          have okr:∀ r,cZ P r fr.todo->opOk P r o.op=true:=λr z=>by
           have:=(tl ht r z).1;simp only[gC,Array.all_eq_true'] at this;exact this o hmem
          have e1:∀ (m:Bool) (cs:List Frame) (w:World),stepG.exec P m true fr cs none w=stepG.apply P true fr cs none (execOp fr.eval o) w:=by
           intro m cs w;have hw':=hw;rw[ho] at hw';simp only[stepG.exec,ht,ho,hw',if_true,stepG.oper,hop,hr]
          have hto':=pY (okr true hto);simp only[e1];cases hrec:isRec o.op with
          | true =>
            rw[exec_rec _ _ hrec]
            have hb:mid=[]->fr.kind=.normal:=by
             rintro rfl
             rcases hI.2 with h | h
             ·exact h
             ·have:=okr false h
              simp[opOk,hrec] at this
            obtain⟨L,hL⟩:=sim_recover hI hb hl;exact⟨L,λτ d hT=>hL τ d hT⟩
          | false =>
            obtain⟨L,hL⟩:=sim_apply hP hI (execOp fr.eval o) (T.exec hP.ext fr.eval (λ_=>rfl) o hto') (Lv.exec hP.lv hP.num fr.eval (λ_=>rfl) o hto' hrec) hl;exact⟨L,λτ d hT=>hL τ d hT⟩
       ·have e1:∀ (m:Bool) (cs:List Frame) (w:World),stepG.exec P m true fr cs none w=.go (G (fr.finish undef) cs) w:=by
         intro m cs w;simp only[stepG.exec,ht];rw[if_neg hw]
         rfl
        refine⟨[],λτ d _=>fT (fr1:=fr.finish undef) (mid1:=mid) hl (hI.on (dZ _ hto)) ?_ λ_ cs=>e1 _ _ _⟩;rw[e1];rfl
   | _=>exact False.elim (tl ht true hto).1
theorem T.results (fn:Func) (tmps:Array Value):T P (Go.results fn tmps):=by
 unfold Go.results;refine T.bind (T.mapA (λr=>?_) _) λ_=>T.pure _
 split
 ·exact T.pure _
 ·exact T.bind (T.asAddr _) λ_=>T.loadVar _ _
theorem on_defers {f:Frame}{d:Deferred}{ds:List Deferred}(h:f.defers=d::ds):On P f { f with defers:=ds }:=
 ⟨rfl,rfl,λ_ h=>h,λx hx=>.inl (by rw[h];exact List.mem_cons_of_mem _ hx)⟩
structure Dgo (P:Program) (fr:Frame) (dd:Deferred):Prop where
 enter:∀ (cs:List Frame) (w w1:World) (new:Array Event) f args,(invoke dd.target dd.args).runT P w #[]=(.ok (.enter f args) w1,new)->callDeferred P fr cs none dd w=.go (G (Frame.enter P f args .deferred) (fr::cs)) w1 (seen P fr.fn new)
 other:∀ (cs:List Frame) (w w1:World) (new:Array Event) a,Res a->(∀ f args,a≠.enter f args)->(invoke dd.target dd.args).runT P w #[]=(.ok a w1,new)->callDeferred P fr cs none dd w=.go (G fr cs) w1 (seen P fr.fn new)
 panic:∀ (cs:List Frame) (w w1:World) (new:Array Event) v,(invoke dd.target dd.args).runT P w #[]=(.halt (.panic v) w1,new)->callDeferred P fr cs none dd w=.go (G (fr.raise [{ v,recovered:=false }]) cs) w1 (seen P fr.fn new)
 cut:∀ (cs:List Frame) (w w1:World) (new:Array Event) h,Cut h->(invoke dd.target dd.args).runT P w #[]=(.halt h w1,new)->∃ o es,callDeferred P fr cs none dd w=.ended o w1 es
theorem dgo (fr:Frame) {dd:Deferred}(hd:qW dd):(∃ o,∀ (cs:List Frame) (w:World),callDeferred P fr cs none dd w=.ended o w)\/Dgo P fr dd:=by
 have key:(∀ (cs:List Frame) (w:World) r es,(invoke dd.target dd.args).runT P w #[]=(r,es)->(∃ o,∀ (cs:List Frame) (w:World),callDeferred P fr cs none dd w=.ended o w)\/True):=λ_ _ _ _ _=>.inr trivial;obtain⟨t,as⟩:=dd
 by_cases hn:(∃ ch,fr.mode=.panicking ch)/\t=.nil
 ·obtain ⟨⟨ch,h1⟩,rfl⟩:=hn
  exact .inl ⟨_,λcs w=>by simp[callDeferred,h1];rfl⟩
 ·right
  have hc:t=.nil->∀ ch,fr.mode≠.panicking ch:=λh1 ch h2=>hn ⟨⟨ch,h2⟩,h1⟩;cases t with
  | nil =>
    have hc:=hc rfl;cases hm:fr.mode with
    | panicking ch=>exact absurd hm (hc ch)
    | _ =>
      refine⟨λcs w w1 new f args h=>?_,λcs w w1 new a hr hne h=>?_,λcs w w1 new v h=>?_,λcs w w1 new h' hcut h=>?_⟩
      ·simp only [Sem.runT_eq,Prod.mk.injEq] at h
       simp[callDeferred,hm,h.1,h.2,GStep.after,G]
      ·simp only [Sem.runT_eq,Prod.mk.injEq] at h
       cases a <;> first | exact False.elim hr | exact absurd rfl (hne _ _) | simp[callDeferred,hm,h.1,h.2,GStep.after,G]
      ·simp only [Sem.runT_eq,Prod.mk.injEq] at h
       simp[callDeferred,hm,h.1,h.2,GStep.after,G]
      ·simp only [Sem.runT_eq,Prod.mk.injEq] at h
       cases h' <;> first | exact False.elim hcut | simp[callDeferred,hm,h.1,h.2,GStep.after]
  | fn g c =>
    refine⟨λcs w w1 new f args h=>?_,λcs w w1 new a hr hne h=>?_,λcs w w1 new v h=>?_,λcs w w1 new h' hcut h=>?_⟩
    ·simp only [Sem.runT_eq,Prod.mk.injEq] at h
     simp[callDeferred,h.1,h.2,GStep.after,G]
    ·simp only [Sem.runT_eq,Prod.mk.injEq] at h
     cases a <;> first | exact False.elim hr | exact absurd rfl (hne _ _) | simp[callDeferred,h.1,h.2,GStep.after,G]
    ·simp only [Sem.runT_eq,Prod.mk.injEq] at h
     simp[callDeferred,h.1,h.2,GStep.after,G]
    ·simp only [Sem.runT_eq,Prod.mk.injEq] at h
     cases h' <;> first | exact False.elim hcut | simp[callDeferred,h.1,h.2,GStep.after]
  | _=>exact False.elim hd
theorem rE (hP:Prog P) {fr:Frame}{mid:List Frame}(hI:Inv P fr mid) {dd:Deferred}(hd:qW dd) (hl:Like F x w) :
  ∃ L:List (Question->Nat),∀ τ d,Reads τ d L->Out P F w τ (d+L.length) (callDeferred P fr (mid++[aV P]) none dd (x.re τ d)) (λ_ cs=>callDeferred P fr (mid++cs) none dd w):=by
 rcases dgo (P:=P) fr hd with⟨o,ho⟩ | D
 ·exact ⟨[],λτ d _=>.inl (.inl ⟨o,x.re τ d,by rw[ho];rfl⟩)⟩
 obtain⟨L,hL⟩:=R.sim (T.invoke hP.ext dd.target dd.args hd) x w #[] hl;refine⟨L,λτ d hR=>?_⟩;obtain⟨hb,hv⟩:=hL τ d hR;have lo:∀ r,(invoke dd.target dd.args).run P (x.re τ d)=r->(invoke dd.target dd.args).runT P (x.re τ d) #[]=(r,(invoke dd.target dd.args).events P (x.re τ d) #[]):=λr h=>by rw[Sem.runT_eq,h]
 cases hr:(invoke dd.target dd.args).run P (x.re τ d) with
 | ok a x' =>
   rw[hr] at hb hv;have hres:=hv Res (Lv.invoke hP.lv hP.num dd.target dd.args hd) a x' rfl;obtain⟨w',new,h1,h2,h3,h4,h5,h6⟩:=hb;have h1':(invoke dd.target dd.args).runT P w #[]=(.ok a w',new):=by simpa using h1
   by_cases he:∃ f args,a=.enter f args
   ·obtain ⟨f,args,rfl⟩:=he
    exact .inr ⟨Frame.enter P f args .deferred,fr::mid,x',w',seen P fr.fn new,by rw[D.enter _ _ _ _ f args (lo _ hr)];rfl,hI.push (oK hP f args .deferred (.inr rfl)),λ_ cs=>D.enter _ _ _ _ f args h1',h2,h3,h4,h5,fP h6⟩
   ·have he':∀ f args,a≠.enter f args:=λf args e=>he ⟨f,args,e⟩
    exact .inr ⟨fr,mid,x',w',seen P fr.fn new,by rw[D.other _ _ _ _ a hres he' (lo _ hr)];rfl,hI,λ_ cs=>D.other _ _ _ _ a hres he' h1',h2,h3,h4,h5,fP h6⟩
 | halt h x' =>
   rw[hr] at hb
   rcases hb with hc | ⟨⟨v,rfl⟩,w',new,h1,h2,h3,h4,h5,h6⟩
   ·obtain ⟨o,es,he⟩:=D.cut (mid++[aV P]) _ _ _ h hc (lo _ hr)
    exact .inl (.inl ⟨o,x',by rw[he];rfl⟩)
   ·have h1':(invoke dd.target dd.args).runT P w #[]=(.halt (.panic v) w',new):=by simpa using h1
    exact .inr ⟨fr.raise [{ v,recovered:=false }],mid,x',w',seen P fr.fn new,by rw[D.panic _ _ _ _ v (lo _ hr)];rfl,hI.on (kP _ _),λ_ cs=>D.panic _ _ _ _ v h1',h2,h3,h4,h5,fP h6⟩
theorem nI {fr:Frame}{mid:List Frame}(hI:Inv P fr mid) (v:Value) {x1 w1:World}{es:Array Event}{τ:Nat->Question->Nat}{n:Nat}(h2:Like F x1 w1) (h3:x1.tape=τ) (h4:x1.drawn=n) (h5:Kep F w w1) (h6:∀ e∈es,EvOk F w1.heap.size e) (es':Array Event) :
  Out P F w τ n (GStep.after es' (doReturn P true fr (mid++[aV P]) none v x1)) (λmain cs=>GStep.after es (doReturn P main fr (mid++cs) none v w1)):=by
 cases mid with
 | nil =>
   left;right;right;right
   refine⟨aV P,x1,?_,.inl rfl⟩;rw[GStep.bare_after]
   rcases hI.fr.kind with h | h <;> simp[doReturn,h,aV,Frame.finish,G]
 | cons c rest =>
   have ok:∀ m,On P c { c with mode:=m }:=λm=>mN c m
   rcases hI.fr.kind with h | h
   ·refine .inr ⟨c.finish v,rest,x1,w1,es,?_,hI.tail.on (dZ v hI.tail.fr.todo),λ_ cs=>?_,h2,h3,h4,h5,h6⟩
    ·rw [GStep.bare_after];simp[doReturn,h,G]
    ·simp [doReturn,h,G,GStep.after]
   ·have key:∃ m,∀ (b:Bool) (cs:List Frame) (w:World),doReturn P b fr (c::cs) none v w=.go (G { c with mode:=m } cs) w:=by
     by_cases hm:∃ v s g older,c.mode=.panicking ({ v:=v,recovered:=true,goexit:=g }::older)/\s=true
     ·obtain ⟨v',s,g,older,hm,_⟩:=hm
      refine⟨match older.dropWhile (!·.goexit) with | []=>.returning | rest=>.panicking rest,λb cs w=>?_⟩;simp only[doReturn,h,hm,G]
      split <;> simp_all
     ·refine ⟨c.mode,λb cs w=>?_⟩
      simp only[doReturn,h,G]
      split
      ·rename_i v' g older hm'
       exact absurd ⟨_,true,_,_,hm',rfl⟩ hm
      ·rfl
    obtain⟨m,hm⟩:=key;refine .inr ⟨{ c with mode:=m },rest,x1,w1,es,?_,hI.tail.on (ok m),λ_ cs=>?_,h2,h3,h4,h5,h6⟩
    ·rw [GStep.bare_after,List.cons_append,hm];rfl
    ·simp only [List.cons_append,hm];simp[GStep.after]
theorem no_catch {fr:Frame}(h:FrOk P fr):fr.catches P=false:=by
 unfold Frame.catches;cases ht:fr.todo with
 | nil=>cases P.funcs[fr.fn]? <;> rfl
 | cons i k =>
   have:=h.todo i (by rw[ht];exact List.mem_cons_self ..);cases i <;> first | exact False.elim this |(cases P.funcs[fr.fn]? <;> rfl)
theorem sim_unwind (hP:Prog P) {fr:Frame}{mid:List Frame}(hI:Inv P fr mid) (hm:fr.mode≠.run) (hl:Like F x w) :
  ∃ L:List (Question->Nat),∀ τ d,Reads τ d L->Out P F w τ (d+L.length) (unwind P true fr (mid++[aV P]) none (x.re τ d)) (λmain cs=>unwind P main fr (mid++cs) none w):=by
 cases hd:fr.defers with
 | cons dd ds =>
   have hok:=hI.fr.defers dd (by rw[hd];exact List.mem_cons_self ..)
   have e1:∀ (m:Bool) (cs:List Frame) (w:World),unwind P m fr cs none w=callDeferred P { fr with defers:=ds } cs none dd w:=by
    intro m cs w;obtain⟨t,as⟩:=dd;unfold unwind;rw[hd];cases t <;> first | rfl | exact False.elim hok
   simp only[e1];obtain⟨L,hL⟩:=rE hP (hI.on (on_defers hd)) hok hl;exact⟨L,λτ d hT=>hL τ d hT⟩
 | nil =>
   cases hmo:fr.mode with
   | run=>exact absurd hmo hm
   | panicking chain =>
     have hc:=no_catch hI.fr;refine⟨[],λτ d _=>?_⟩;cases mid with
     | nil =>
       left;right;right;right
       refine⟨{ aV P with mode:=.panicking chain },x.re τ d,?_,.inr ⟨chain,rfl⟩⟩
       simp[unwind,hd,hmo,hc,aV,Frame.raise,G]
     | cons c rest =>
       refine fT (fr1:=c.raise chain) (mid1:=rest) hl (hI.tail.on (kP _ _)) ?_ λ_ cs=>?_
       ·simp [unwind,hd,hmo,hc,G]
       ·simp [unwind,hd,hmo,hc,G]
   | returning =>
     cases hf:P.funcs[fr.fn]? with
     | none =>
       refine⟨[],λτ d _=>?_⟩;have:=nI hI (fr.tmps.getD 0 undef) (F:=F) (w:=w) (es:=#[]) (hl.re τ d) rfl rfl (Kep.refl F w) (λe he=>by simp at he) #[];have ea:∀ s:GStep,GStep.after #[] s=s:=λs=>by cases s <;> simp[GStep.after]
       simp only[ea] at this
       have e1:∀ (m:Bool) (cs:List Frame) (w:World),unwind P m fr cs none w=doReturn P m fr cs none (fr.tmps.getD 0 undef) w:=by
        intro m cs w;simp only[unwind,hd,hmo,hf]
       simp only[e1];exact this
     | some fn =>
       obtain⟨L,hL⟩:=R.sim (T.results fn fr.tmps) x w #[] hl;refine⟨L,λτ d hR=>?_⟩;obtain⟨hb,_⟩:=hL τ d hR;cases hr:(results fn fr.tmps).run P (x.re τ d) with
       | ok v x' =>
         rw[hr] at hb;obtain⟨w',new,h1,h2,h3,h4,h5,h6⟩:=hb;have h1':(results fn fr.tmps).runT P w #[]=(.ok v w',new):=by simpa using h1
         have:=nI hI v (es:=seen P fr.fn new) h2 h3 h4 h5 (fP h6) (seen P fr.fn ((results fn fr.tmps).events P (x.re τ d) #[]));simp only[unwind,hd,hmo,hf,Sem.runT_eq,hr] at this ⊢;simp only[Sem.runT_eq,Prod.mk.injEq] at h1';simp only[h1'.1,h1'.2];exact this
       | halt h x' =>
         left;left
         simp only[unwind,hd,hmo,hf,Sem.runT_eq,hr,GStep.bare_after];cases h <;> exact⟨_,_,rfl⟩
theorem sim_step (hP:Prog P) {fr:Frame}{mid:List Frame}(hI:Inv P fr mid) (hl:Like F x w) :
  ∃ L:List (Question->Nat),∀ τ d,Reads τ d L->Out P F w τ (d+L.length) (stepG P true (G fr (mid++[aV P])) (x.re τ d)) (λmain cs=>stepG P main (G fr (mid++cs)) w):=by
 by_cases hm:fr.mode=.run
 ·simp only [stepG_run hm]
  exact sim_exec hP hI hl
 ·simp only [stepG_unw hm]
  exact sim_unwind hP hI hm hl
end
end Go.Tame
namespace Go.Tame
open Go.Conc (G crowd)
section
variable {P:Program}
theorem lone_crowd (fr:Frame) (cs:List Frame) (x:World):lone fr cs x=crowd #[G fr cs] x none:=rfl
theorem stepT_lone (fr:Frame) (cs:List Frame) (x:World):stepT P (lone fr cs x)=runT P (crowd #[G fr cs] x none) 0:=by
 rw[stepT,move_lone,lone_crowd]
theorem jS (fr:Frame) (cs:List Frame) (x:World):step P (lone fr cs x)=(runT P (crowd #[G fr cs] x none) 0).1:=by
 rw[<-stepT_lone];rfl
def Sought (P:Program) (m:Machine):Prop:=∃ fr mid x,m=lone fr (mid++[aV P]) x
theorem gG {m:Machine}{o:Outcome}{w:World}(h:step P m=.ended o w) (n:Nat) (m':Machine):runN P (n+1) m≠.next m':=by
 simp[runN,h]
theorem rK (x:World) (f:Frame) (hf:f=aV P\/∃ ch,f={ aV P with mode:=.panicking ch }):∃ o,step P (lone f [] x)=.ended o x:=by
 rcases hf with rfl | ⟨ch,rfl⟩
 ·exact ⟨_,step_lone_ended (by simp[stepG,stepG.exec,aV];rfl)⟩
 ·exact ⟨_,step_lone_ended (by simp[stepG,unwind,aV,callDeferred];rfl)⟩
theorem asleep {g:Goroutine}(hg:g.status=.blocked) (w:World):∃ o w',step P (crowd #[g] w none)=.ended o w':=by
 obtain⟨fr,cs,st,dy,off⟩:=g;simp only at hg;subst hg;obtain⟨o',w',he,_⟩:=endWith_ended w 2 (bytes "fatal error: all goroutines are asleep - deadlock!\n") (.fatal "all goroutines are asleep - deadlock!");refine⟨o',w',?_⟩
 simp[step,stepT,move,ask,askOn,crowd,runnable_eq,due,ahead,Goroutine.canRun,List.range_succ,pure]
 rw[he]
theorem doom_no {fr:Frame}{cs:List Frame}{x:World}(hS:Doom P (stepG P true (G fr cs) x)) (n:Nat) (m:Machine) (hr:runN P (n+1) (lone fr cs x)=.next m):¬Sought P m:=by
 rintro⟨fr',mid,x',rfl⟩;generalize hs:stepG P true (G fr cs) x=S at hS;have hs':stepG P (0==0) (G fr cs) x=S:=hs;have h0:(#[G fr cs]:Array Goroutine)[0]?=some (G fr cs):=rfl
 rcases hS with⟨o,w,hb⟩ | ⟨g,cases,shape,y,hb,hg,hgd,hseen⟩ | ⟨g,c,y,hb⟩ | ⟨f,y,hb,hf⟩
 ·have : step P (lone fr cs x)=.ended o w:=step_lone_ended (by rw[show stepG P true { frame:=fr,callers:=cs,status:=.running,dying:=none } x=S from hs];exact hb)
  exact gG this n _ hr
 ·cases S <;> simp only[GStep.bare,reduceCtorEq,GStep.comm.injEq] at hb
  rename_i g1 cases1 b1 shape1 y1 es;obtain⟨rfl,rfl,rfl,rfl,rfl,_⟩:=hb;have hrun:=Go.Conc.runT_crowd_comm (P:=P) (sl:=none) h0 hs'
  by_cases hill:∃ cc∈cases1,Go.Conc.illMade y1 cc=true
  ·obtain ⟨cc,hcc,hi⟩:=hill
   have hany:(cases1.any (Go.Conc.illMade y1))=true:=Array.any_eq_true'.2 ⟨cc,hcc,hi⟩
   have hst:∃ o,step P (lone fr cs x)=.ended o y1:=by
    rw[jS,hrun];unfold communicate;refine⟨.stuck "a communication at a channel whose block is no channel's" (g1.frame.pos P),?_⟩;simp only;rw[if_pos (by exact hany)]
   obtain⟨o,ho⟩:=hst;exact gG ho n _ hr
  ·have hw:∀ cc∈cases1,Go.Conc.NoWays y1 ((#[G fr cs]:Array Goroutine).setIfInBounds 0 Go.Conc.ph) cc:=by
    intro cc hcc
    have h1:Go.Conc.illMade y1 cc=false:=by
     cases h:Go.Conc.illMade y1 cc with
     | false=>rfl
     | true=>exact absurd ⟨cc,hcc,h⟩ hill
    refine⟨h1,?_⟩
    have hp:∀ r b,partners ((#[G fr cs]:Array Goroutine).setIfInBounds 0 Go.Conc.ph) r b=[]:=by
     intro r b
     rfl
    unfold ways;unfold Go.Conc.illMade at h1;obtain⟨ch,sd,z⟩:=cc;cases ch <;> try rfl
    rename_i r;cases r with
    | none=>rfl
    | some r =>
      simp only at h1 ⊢;cases ho:y1.heap[r]? with
      | none=>rfl
      | some o =>
        have hv:=hseen r o ho;cases o <;> try rfl
        rename_i cap buf closed sent rcvd tm;obtain⟨rfl,rfl,rfl,rfl⟩:=hv;cases sd <;> simp only[hp] <;> simp
   have hst:step P (lone fr cs x)=.next (crowd #[Go.Conc.parked g1 cases1 shape1] y1 none):=by
    rw[jS,Go.Conc.crowd_waits (sl:=none) h0 hs' hw]
    rfl
   obtain⟨o,w',ho⟩:=asleep (P:=P) (g:=Go.Conc.parked g1 cases1 shape1) rfl y1;simp only[runN,hst] at hr;cases n with
   | zero =>
     simp only[runN,Stepped.next.injEq] at hr;have:=congrArg (λm:Machine=>(m.gs[0]?).map (·.status)) hr
     simp[lone,crowd,Go.Conc.parked] at this
   | succ n=>exact gG ho n _ hr
 ·cases S <;> simp only[GStep.bare,reduceCtorEq,GStep.spawn.injEq] at hb
  rename_i g1 c1 y1 es;obtain⟨rfl,rfl,rfl,_⟩:=hb
  have hst:step P (lone fr cs x)=.next (crowd ((#[G fr cs].setIfInBounds 0 g1).push c1) y1 none):=by
   rw[jS,Go.Conc.runT_crowd_spawn (sl:=none) h0 hs']
  simp only[runN,hst] at hr;have hsz:=runNT_size P n _ _ #[] (runNT P n (crowd ((#[G fr cs].setIfInBounds 0 g1).push c1) y1 none) #[]).2 (by rw[<-hr,<-runNT_fst P n _ #[]])
  simp[crowd,lone] at hsz
 ·have h1:step P (lone fr cs x)=.next (lone f [] y):=step_lone_go (by rw[show stepG P true { frame:=fr,callers:=cs,status:=.running,dying:=none } x=S from hs];exact hb)
  obtain⟨o,ho⟩:=rK (P:=P) y f hf;simp only[runN,h1] at hr;cases n with
  | zero =>
    simp only[runN,Stepped.next.injEq] at hr;have:=congrArg (λm:Machine=>(m.gs[0]?).map (·.callers)) hr
    simp[lone] at this
  | succ n=>exact gG ho n _ hr
end
end Go.Tame
namespace Go.Tame
open Go.Conc (G crowd)
section
variable {P:Program}{F:Fast}
theorem Like.unique {x y w:World}(h:Like F x w) (k:Like F y w):y=x.re y.tape y.drawn:=by
 have hh:y.heap=x.heap:=by
  apply Array.ext_getElem?;intro b;have h1:=h.blk b;have h2:=k.blk b;cases e:F.rng b with
  | none =>
    rw[e] at h1 h2
    rcases h1 with⟨h1,_,hq⟩ | ⟨hq,_,_,_,h1⟩ <;> rcases h2 with⟨h2,_,hq'⟩ | ⟨hq',_,_,_,h2⟩
    ·rw [h1,h2]
    ·exact absurd hq' hq
    ·exact absurd hq hq'
    ·rw [h1,h2]
  | some r =>
    rw[e] at h1 h2;obtain⟨c,t,s,h1,h3,_⟩:=h1;obtain⟨c',t',s',h2,h4,_⟩:=h2;rw[h3] at h4;cases h4;rw[h1,h2]
 obtain⟨yh,yt,yd,yo,yp⟩:=y;obtain⟨xh,xt,xd,xo,xp⟩:=x;have h3:=h.os.trans k.os.symm;have h4:=h.output.trans k.output.symm;simp only at hh h3 h4;subst hh;subst h3;subst h4
 rfl
abbrev St:=Frame->List Frame->World->Prop
def Will (P:Program) (GS:St) (n:Nat) (p:Nat->Question->Nat) (fr:Frame) (mid:List Frame) (x:World):Prop:=
 ∀ τ:Nat->Question->Nat,(∀ i,i<n->τ i=p i)->∃ N fr' mid' x',runN P N (lone fr (mid++[aV P]) (x.re τ n))=.next (lone fr' (mid'++[aV P]) x')/\GS fr' mid' x'
theorem lone_inj {fr fr':Frame}{cs cs':List Frame}{x x':World}(h:lone fr cs x=lone fr' cs' x'):fr=fr'/\cs=cs'/\x=x':=by
 simp only[lone,Machine.mk.injEq] at h;obtain⟨h1,h2,_⟩:=h;have h2:=congrArg (λa:Array Goroutine=>a[0]?) h2
 simp at h2
 exact⟨h2.1,h2.2,h1⟩
theorem will_next {GS:St}(hG:∀ fr mid x τ d,GS fr mid x->GS fr mid (x.re τ d)) (hP:Prog P) {n:Nat}{p:Nat->Question->Nat}{fr:Frame}{mid:List Frame}{x w:World}(hI:Inv P fr mid) (hl:Like F x w) (hW:Will P GS n p fr mid x) (hn:¬GS fr mid x) :
  ∃ n' p' fr1 mid1 x1 w1 es,(∀ (main:Bool) cs,stepG P main (G fr (mid++cs)) w=.go (G fr1 (mid1++cs)) w1 es)/\Inv P fr1 mid1/\Like F x1 w1/\Kep F w w1/\(∀ e∈es,EvOk F w1.heap.size e)/\Will P GS n' p' fr1 mid1 x1/\n<=n'/\(∀ i,i<n->p' i=p i) /\
    ∀ τ:Nat->Question->Nat,(∀ i,i<n'->τ i=p' i)->step P (lone fr (mid++[aV P]) (x.re τ n))=.next (lone fr1 (mid1++[aV P]) (x1.re τ n')):=by
 obtain⟨L,hL⟩:=sim_step hP hI hl
-- a tape that begins as p does,then with L,then as t
 let tp:(Nat->Question->Nat)->Nat->Question->Nat:=λt i=>if i<n then p i else if h:i-n<L.length then L[i-n] else t i
 have hReads:∀ τ:Nat->Question->Nat,(∀ i,i<n+L.length->τ i=tp p i)->Reads τ n L:=by
  intro τ hτ j hj;rw[hτ (n+j) (by omega)];simp only[tp];rw[if_neg (by omega)];have e:n+j-n=j:=by omega
  simp only[e];rw[dif_pos hj]
 have hpre:∀ τ:Nat->Question->Nat,(∀ i,i<n+L.length->τ i=tp p i)->∀ i,i<n->τ i=p i:=by
  intro τ hτ i hi;rw[hτ i (by omega)];simp only[tp];rw[if_pos hi]
-- one step on such a tape
 have one:∀ τ:Nat->Question->Nat,(∀ i,i<n+L.length->τ i=tp p i)->∃ fr1 mid1 x1 w1 es,step P (lone fr (mid++[aV P]) (x.re τ n))=.next (lone fr1 (mid1++[aV P]) x1)/\Inv P fr1 mid1/\(∀ (main:Bool) cs,stepG P main (G fr (mid++cs)) w=.go (G fr1 (mid1++cs)) w1 es)/\Like F x1 w1/\x1.tape=τ/\x1.drawn=n+L.length/\Kep F w w1/\(∀ e∈es,EvOk F w1.heap.size e)/\∃ N fr' mid' x',runN P N (lone fr1 (mid1++[aV P]) x1)=.next (lone fr' (mid'++[aV P]) x')/\GS fr' mid' x':=by
  intro τ hτ;obtain⟨N,fr',mid',x',hr,hg⟩:=hW τ (hpre τ hτ);cases N with
  | zero =>
    simp only[runN,Stepped.next.injEq] at hr;obtain⟨rfl,h2,rfl⟩:=lone_inj hr;have:mid=mid':=List.append_cancel_right h2;subst this;have:=hG _ _ _ x.tape x.drawn hg;exact absurd this hn
  | succ N =>
    rcases hL τ n (hReads τ hτ) with hd | ⟨fr1,mid1,x1,w1,es,h1,h2,h3,h4,h5,h6,h7,h8⟩
    ·exact absurd ⟨fr',mid',x',rfl⟩ (doom_no hd N _ hr)
    ·have hs:step P (lone fr (mid++[aV P]) (x.re τ n))=.next (lone fr1 (mid1++[aV P]) x1):=step_lone_go h1
     exact⟨fr1,mid1,x1,w1,es,hs,h2,h3,h4,h5,h6,h7,h8,N,fr',mid',x',by simpa only [runN,hs] using hr,hg⟩
 obtain⟨fr1,mid1,x1,w1,es,hs,h2,h3,h4,h5,h6,h7,h8,_⟩:=one (tp p) (λ_ _=>rfl)
 have same:∀ τ:Nat->Question->Nat,(∀ i,i<n+L.length->τ i=tp p i)->step P (lone fr (mid++[aV P]) (x.re τ n))=.next (lone fr1 (mid1++[aV P]) (x1.re τ (n+L.length)))/\∃ N fr' mid' x',runN P N (lone fr1 (mid1++[aV P]) (x1.re τ (n+L.length)))=.next (lone fr' (mid'++[aV P]) x')/\GS fr' mid' x':=by
  intro τ hτ;obtain⟨fr2,mid2,x2,w2,es2,k1,_,k3,k4,k5,k6,_,_,N,fr',mid',x',hr,hg⟩:=one τ hτ;have e1:=(k3 true []).symm.trans (h3 true []);simp only[List.append_nil,GStep.go.injEq,Go.Conc.G,Goroutine.mk.injEq] at e1;obtain⟨⟨rfl,rfl,_⟩,rfl,rfl⟩:=e1;have:=h4.unique k4;rw[k5,k6] at this;exact⟨by rw[<-this];exact k1,N,fr',mid',x',by rw[<-this];exact hr,hg⟩
 exact⟨n+L.length,tp p,fr1,mid1,x1,w1,es,h3,h2,h4,h7,h8,λτ hτ=>(same τ hτ).2,Nat.le_add_right _ _,λi hi=>by simp only[tp];rw[if_pos hi],λτ hτ=>(same τ hτ).1⟩
end
end Go.Tame
namespace Go.Tame
open Go.Conc
section
variable {P:Program}{K:World->Prop}{Still:Loc->Prop}{B:Nat}{Mem:Nat->Prop}{Inb:Nat->Option Seat}{h:Nat}{T:Trace}{gs:Array Goroutine}{w:World}{q:Nat->Nat}
theorem qJ {main:Bool}{R:World->World->Prop}{D D':World->World->Array Event->Prop}{S S':Goroutine->World->Prop}(hD:∀ a b c,D a b c->D' a b c) (hS:∀ g w,S g w->S' g w):∀ (n:Nat) (g:Goroutine) (w:World),Goes P main R D S n g w->Goes P main R D' S' n g w
 | 0,_,_,h=>λw₁ hw=>hS _ _ (h w₁ hw)
 | n + 1,g,w,h=>by
   rcases h with h | ⟨hs,h⟩
   ·exact .inl λw₁ hw=>hS _ _ (h w₁ hw)
   ·refine .inr ⟨hs,λw₁ hw=>?_⟩
    have:=h w₁ hw
    revert this
    cases stepG P main g w₁ <;> simp only[GStep.goes,imp_self]
    exact λ⟨d,x⟩=>⟨hD _ _ _ d,qJ hD hS n _ _ x⟩
theorem evC_up {B':Nat}(hB:B<=B') {e:Event}(h:EvC Still B e):EvC Still B' e:=by
 obtain⟨a,h1,h2,h3⟩:=h;exact⟨a,h1,h2,Nat.lt_of_lt_of_le h3 hB⟩
theorem atIn_up {B':Nat}(hB:B<=B') {main:Bool}{s:Seat}{g g₂:Goroutine}(h:AtIn P main K Still B s g g₂):AtIn P main K Still B' s g g₂:=by
 obtain⟨h1,h2,h3,h4,h5,es,h6,h7⟩:=h;exact⟨h1,h2,h3,h4,h5,es,λe he=>evC_up hB (h6 e he),h7⟩
theorem sits_up {B':Nat}(hB:B<=B') {main:Bool}{s:Seat}{n:Nat}{g:Goroutine}(h:Sits P main K Still B s n g):Sits P main K Still B' s n g:=by
 rcases h with⟨k,w,h1,h2⟩ | ⟨h1,g₀,g₂,h2,h3⟩
 ·exact .inl ⟨k,w,h1,qJ (λ_ _ _ h=>⟨h.1,λe he=>evC_up hB (h.2 e he)⟩) (λ_ _ ⟨g₂,h⟩=>⟨g₂,atIn_up hB h⟩) _ _ _ h2⟩
 ·exact .inr ⟨h1,g₀,g₂,h2,atIn_up hB h3⟩
theorem idle_up {B':Nat}(hB:B<=B') {i n:Nat}{g:Goroutine}{o:Option Seat}(h:Idle P K Still B T i n g o):Idle P K Still B' T i n g o:=by
 cases o with
 | none=>exact h
 | some s=>exact sits_up hB h
theorem kK {B':Nat}(hB:B<=B') (C:Ring P K Still B Mem Inb h T gs w q):Ring P K Still B' Mem Inb h T gs w q:=
 C.mono hB λi g hi hg=>idle_up hB (C.idle i g hi hg)
end
def Ends (P:Program) (Post:Value->World->Prop) (m:Machine) (t:Trace):Prop:=
 ∃ N last o w' t',runNT P (N+1) m t=(.ended o w',t')/\runN P N m=.next last/\step P last=.ended o w'/\Good P Post last o w' t'
theorem Ends.run {P:Program}{Post:Value->World->Prop}{m m':Machine}{t t':Trace}{n:Nat}(hr:runNT P n m t=(.next m',t')) (h:Ends P Post m' t'):Ends P Post m t:=by
 obtain⟨N,last,o,w',u,h1,h2,h3,h4⟩:=h;refine⟨n+N,last,o,w',u,?_,?_,h3,h4⟩
 ·rw [Nat.add_assoc,Go.runNT_add,hr];exact h1
 ·have e:runN P n m=.next m':=by rw[<-runNT_fst P n m t,hr]
  rw[runN_add,e];exact h2
def Cfg (P:Program) (K:World->Prop) (Still:Loc->Prop) (Mem:Nat->Prop) (Inb:Nat->Option Seat) (h:Nat) (T:Trace) (gs:Array Goroutine) (w:World):Prop:=
 ∃ B q,Ring P K Still B Mem Inb h T gs w q
section
variable {P:Program}{K:World->Prop}{Still:Loc->Prop}{Mem:Nat->Prop}{Inb:Nat->Option Seat}{h:Nat}{F:Fast}{Post:Value->World->Prop}{GS:St}
structure Fit (K:World->Prop) (Still:Loc->Prop) (F:Fast):Prop where
 kat:∀ w d,K w->K (w.at d)
 keeps:∀ w w',Kep F w w'->K w->K w'
 still:∀ a,Still (.cell a)->F.has a
 cells:∀ l,Still l->∃ a,l=.cell a
theorem evHd_of (hF:Fit K Still F) {B:Nat}{e:Event}(h:EvOk F B e):EvHd Still B e:=by
 obtain⟨loc,wr,sy⟩:=e
 rcases h with⟨a,h1,h2,h3⟩ | ⟨r,h1,h2,h3⟩ | h1 | ⟨f,h1⟩ | h1
 all_goals simp only at h1;subst h1
 ·refine ⟨λx hx hS=>?_,by simp,by simp,h2⟩
  simp only[MemAct.ofEvent,MemAct.touch?,Option.some.injEq] at hx;subst hx;simp only at h3 ⊢;cases wr with
  | false=>rfl
  | true=>exact absurd (hF.still a hS) (h3 rfl)
 ·simp only at h3
  subst h3;refine⟨λx hx hS=>?_,by simp,by simp,h2⟩;simp only[MemAct.ofEvent,MemAct.touch?,Option.some.injEq] at hx;subst hx
  rfl
 ·refine ⟨λx hx hS=>?_,by simp,by simp,trivial⟩
  simp[MemAct.ofEvent,MemAct.touch?] at hx
 ·refine ⟨λx hx hS=>?_,by simp,by simp,trivial⟩
  simp[MemAct.ofEvent,MemAct.touch?] at hx
 ·refine ⟨λx hx hS=>?_,by simp,by simp,trivial⟩
  simp only[MemAct.ofEvent,MemAct.touch?,Option.some.injEq] at hx;subst hx;obtain⟨a,ha⟩:=hF.cells _ hS;cases ha
theorem hold_one (hF:Fit K Still F) (hP:Prog P) (hG:∀ fr mid x τ d,GS fr mid x->GS fr mid (x.re τ d)) {n:Nat}{p:Nat->Question->Nat}{fr:Frame}{mid cs:List Frame}{x w:World}{gs:Array Goroutine}{sl:Option (Nat × Nat)}{T:Trace}
  (hI:Inv P fr mid) (hl:Like F x w) (hW:Will P GS n p fr mid x) (hn:¬GS fr mid x) (hC:Cfg P K Still Mem Inb h T gs w) (ha:gs[h]?=some (G fr (mid++cs))) :
  ∃ N n' p' fr1 mid1 x1 w1 gs1 sl1 T1,runNT P N (crowd gs w sl) T=(.next (crowd gs1 w1 sl1),T1)/\gs1.size=gs.size/\gs1[h]?=some (G fr1 (mid1++cs))/\Cfg P K Still Mem Inb h T1 gs1 w1/\Inv P fr1 mid1/\Like F x1 w1/\Will P GS n' p' fr1 mid1 x1/\n<=n'/\(∀ i,i<n->p' i=p i) /\
    (∀ τ:Nat->Question->Nat,(∀ i,i<n'->τ i=p' i)->step P (lone fr (mid++[aV P]) (x.re τ n))=.next (lone fr1 (mid1++[aV P]) (x1.re τ n')))/\Kep F w w1:=by
 obtain⟨B,q,C⟩:=hC;obtain⟨N,gs',d,d',sl',sl'',T',q',hr,hst,hsz,ha',C'⟩:=picked (sl:=sl) hF.kat ha rfl C;have hl':Like F x (w.at d'):=⟨hl.size,hl.os,hl.output,hl.blk⟩;obtain⟨n',p',fr1,mid1,x1,w1,es,h1,h2,h3,h4,h5,h6,h7,h8,h9⟩:=will_next hG hP hI hl' hW hn;have Cu:=kK (Nat.le_max_left B w1.heap.size) C';have hev:∀ e∈es,EvHd Still (max B w1.heap.size) e:=λe he=>evHd_of hF ((h5 e he).mono (Nat.le_max_right _ _))
 have hD:DH K Still (max B w1.heap.size) Inb (w.at d') w1 es:=by
  refine⟨λk=>hF.keeps _ _ h4 k,λi s c hi hc=>?_,hev⟩;obtain⟨cap,k,hk⟩:=C'.chans i s c (λz=>z) hi hc;rw[hk];exact h4.obj c _ hk (by simp)
 obtain⟨C1,ha1⟩:=Cu.own (a':=G fr1 (mid1++cs)) ha' hD;have hrun:=runT_crowd_go (P:=P) (sl:=sl'') ha' (h1 (h==0) cs);refine⟨N+1,n',p',fr1,mid1,x1,w1,_,_,_,runNT_succ_of hr (hst.trans hrun),by simpa using hsz,ha1,⟨_,_,C1⟩,h2,h3,h6,h7,h8,h9,⟨h4.tape,h4.size,h4.cell,h4.obj,h4.row,h4.io⟩⟩
structure Sx where
 n:Nat
 p:Nat->Question->Nat
 fr:Frame
 mid:List Frame
 x:World
 w:World
 gs:Array Goroutine
 sl:Option (Nat × Nat)
 T:Trace
theorem hold (hF:Fit K Still F) (hP:Prog P) (hG:∀ fr mid x τ d,GS fr mid x->GS fr mid (x.re τ d)) {cs:List Frame}{N0:Nat}
  {w0:World}(hEnd:∀ fr mid x w gs sl T,GS fr mid x->Inv P fr mid->Like F x w->Kep F w0 w->Cfg P K Still Mem Inb h T gs w->gs.size=N0->gs[h]?=some (G fr (mid++cs))->Ends P Post (crowd gs w sl) T)
  {n:Nat}{p:Nat->Question->Nat}{fr:Frame}{mid:List Frame}{x w:World}{gs:Array Goroutine}{sl:Option (Nat × Nat)}{T:Trace}
  (hI:Inv P fr mid) (hl:Like F x w) (hw0:Kep F w0 w) (hW:Will P GS n p fr mid x) (hC:Cfg P K Still Mem Inb h T gs w) (hsz:gs.size=N0) (ha:gs[h]?=some (G fr (mid++cs))):Ends P Post (crowd gs w sl) T:=by
 apply Classical.byContradiction;intro hno
 let Ok:Sx->Prop:=λs=>Inv P s.fr s.mid/\Like F s.x s.w/\Will P GS s.n s.p s.fr s.mid s.x/\Cfg P K Still Mem Inb h s.T s.gs s.w/\s.gs.size=N0/\s.gs[h]?=some (G s.fr (s.mid++cs))/\(¬Ends P Post (crowd s.gs s.w s.sl) s.T)/\Kep F w0 s.w
 let Nx:Sx->Sx->Prop:=λs t=>s.n<=t.n/\(∀ i,i<s.n->t.p i=s.p i)/\∀ τ:Nat->Question->Nat,(∀ i,i<t.n->τ i=t.p i)->step P (lone s.fr (s.mid++[aV P]) (s.x.re τ s.n))=.next (lone t.fr (t.mid++[aV P]) (t.x.re τ t.n))
 have key:∀ s,Ok s->∃ t,Ok t/\Nx s t:=by
  rintro⟨n,p,fr,mid,x,w,gs,sl,T⟩ ⟨h1,h2,h3,h4,h5,h6,h7,h8⟩;have hn:¬GS fr mid x:=λhg=>h7 (hEnd _ _ _ _ _ _ _ hg h1 h2 h8 h4 h5 h6);obtain⟨N,n',p',fr1,mid1,x1,w1,gs1,sl1,T1,k1,k2,k3,k4,k5,k6,k7,k8,k9,k10,k11⟩:=hold_one (sl:=sl) hF hP hG h1 h2 h3 hn h4 h6;exact⟨⟨n',p',fr1,mid1,x1,w1,gs1,sl1,T1⟩,⟨k5,k6,k7,k4,k2.trans h5,k3,λhe=>h7 (Ends.run k1 he),h8.trans k11⟩,k8,k9,k10⟩
 let s0:{ s // Ok s }:=⟨⟨n,p,fr,mid,x,w,gs,sl,T⟩,hI,hl,hW,hC,hsz,ha,hno,hw0⟩
 let nx:{ s // Ok s }->{ s // Ok s }:=λs=>⟨Classical.choose (key s.1 s.2),(Classical.choose_spec (key s.1 s.2)).1⟩
 have hnx:∀ s,Nx s.1 (nx s).1:=λs=>(Classical.choose_spec (key s.1 s.2)).2
 let f:Nat->{ s // Ok s }:=λk=>Nat.rec s0 (λ_ s=>nx s) k
 have hf:∀ k,Nx (f k).1 (f (k+1)).1:=λk=>hnx (f k)
 have mono:∀ j k,j<=k->(f j).1.n<=(f k).1.n/\∀ i,i<(f j).1.n->(f k).1.p i=(f j).1.p i:=by
  intro j k hjk
  induction hjk with
  | refl=>exact⟨Nat.le_refl _,λ_ _=>rfl⟩
  | step _ ih=>exact⟨Nat.le_trans ih.1 (hf _).1,λi hi=>((hf _).2.1 i (Nat.lt_of_lt_of_le hi ih.1)).trans (ih.2 i hi)⟩
 let τ:Nat->Question->Nat:=λi=>open Classical in if hx:∃ k,i<(f k).1.n then(f (Classical.choose hx)).1.p i else λ_=>0
 have hτ:∀ k i,i<(f k).1.n->τ i=(f k).1.p i:=by
  intro k i hi;have hx:∃ k,i<(f k).1.n:=⟨k,hi⟩;have hc:=Classical.choose_spec hx;simp only[τ];rw[dif_pos hx]
  rcases Nat.le_total (Classical.choose hx) k with hle | hle
  ·exact ((mono _ _ hle).2 i hc).symm
  ·exact (mono _ _ hle).2 i hi
 have hst:∀ k,step P (lone (f k).1.fr ((f k).1.mid++[aV P]) ((f k).1.x.re τ (f k).1.n))=.next (lone (f (k+1)).1.fr ((f (k+1)).1.mid++[aV P]) ((f (k+1)).1.x.re τ (f (k+1)).1.n)):=λk=>(hf k).2.2 τ (hτ (k+1))
 have hrun:∀ k,runN P k (lone fr (mid++[aV P]) (x.re τ n))=.next (lone (f k).1.fr ((f k).1.mid++[aV P]) ((f k).1.x.re τ (f k).1.n)):=by
  intro k
  induction k with
  | zero=>rfl
  | succ k ih=>rw[runN_add,ih];simp only[runN,hst k]
 obtain⟨N,fr',mid',x',hr,hg⟩:=hW τ (hτ 0);rw[hrun N] at hr;simp only[Stepped.next.injEq] at hr;obtain⟨e1,e2,e3⟩:=lone_inj hr;have e2:(f N).1.mid=mid':=List.append_cancel_right e2
 have hg':GS (f N).1.fr (f N).1.mid (f N).1.x:=by
  have:=hG _ _ _ (f N).1.x.tape (f N).1.x.drawn hg;rw[<-e1,<-e2,<-e3] at this;exact this
 obtain⟨h1,h2,h3,h4,h5,h6,h7,h8⟩:=(f N).2;exact h7 (hEnd _ _ _ _ _ _ _ hg' h1 h2 h8 h4 h5 h6)
end
end Go.Tame
namespace Go.Turn
open Go.Conc Go.Tame
open Go.ConcN (upd upd_ne upd_same)
inductive Tree (S X:Type) where
 | ret (x:X)
 | yield (s:S) (k:S->Tree S X)
 | cut
inductive Ow where
 | ro | mn | tu | sh
 | wk (i:Nat)
 deriving DecidableEq
structure Wd where
 w:World
 own:Nat->Ow
def big:Nat:=2 ^ 64
def fast (me:Ow->Bool) (d:Wd):Fast where
 rng b:=if me (d.own b) then none else match d.w.heap[b]? with
  | some (.cells c _ s)=>some (0,2*max (max s.2 c.size) big+if d.own b=.ro then 1 else 0)
  | _=>none
 hid b:=me (d.own b)=false/\∃ o,d.w.heap[b]?=some o/\Hid o
def ext (own:Nat->Ow) (n:Nat) (l:Ow) (b:Nat):Ow:=if b<n then own b else l
section
variable {me:Ow->Bool}{d:Wd}{x w':World}{l:Ow}
theorem qN {b:Nat}{r:Nat × Nat}(h:(fast me d).rng b=some r):me (d.own b)=false/\∃ c t s,d.w.heap[b]?=some (.cells c t s)/\r=(0,2*max (max s.2 c.size) big+if d.own b=.ro then 1 else 0):=by
 simp only[fast] at h
 split at h
 ·cases h
 ·rename_i hm
  split at h
  ·rename_i c t s hs
   cases h;exact⟨by simpa using hm,c,t,s,hs,rfl⟩
  ·cases h
theorem gI {b:Nat}{c:Array Value}{t:TypeId}{s:Nat × Nat}(hm:me (d.own b)=false) (hs:d.w.heap[b]?=some (.cells c t s)):(fast me d).rng b=some (0,2*max (max s.2 c.size) big+if d.own b=.ro then 1 else 0):=by
 simp only[fast,hm,hs,Bool.false_eq_true,if_false]
theorem kY {a:Addr}{c:Array Value}{t:TypeId}{s:Nat × Nat}(hm:me (d.own a.block)=false) (hs:d.w.heap[a.block]?=some (.cells c t s)) (ho:a.off<c.size\/a.off<big):(fast me d).has a:=
 ⟨_,gI hm hs,Nat.zero_le _,by simp only;omega⟩
theorem cX (h:Kep (fast me d) d.w w') {b:Nat}{o:Obj}(hm:me (d.own b)=false) (ho:d.w.heap[b]?=some o):w'.heap[b]?=some o:=by
 rcases kZ o with⟨c,t,s,rfl⟩ | hn
 ·obtain ⟨c',h1,h2⟩:=h.row b c t s ho
  rw[h1]
  have : c'=c:=by
   apply Array.ext_getElem?;intro i
   by_cases hi:i<c.size
   ·have:=h.cell ⟨b,i,none⟩ (kY hm ho (.inl hi))
    simpa [World.cell?,h1,ho] using this
   ·rw [Array.getElem?_eq_none (by omega),Array.getElem?_eq_none (by omega)]
  rw[this]
 ·exact h.obj b o ho hn
theorem sub_fast (s:Nat × Nat) (n k:Nat):Sub s (0,2*max (max s.2 n) big+k):=λi hi=>⟨Nat.zero_le _,by simp only;omega⟩
def eQ (me:Ow->Bool) (d:Wd):World:={ d.w with heap:=d.w.heap.mapIdx λb o=>if me (d.own b) then o else match o with
 | .cells c t s=>.cells c t (0,2*max (max s.2 c.size) big+if d.own b=.ro then 1 else 0)
 | .loop _ | .chan .. | .map ..=>.deferred none
 | o=>o }
def mG (me:Ow->Bool) (d:Wd):Prop:=∀ (b:Nat) (o:Obj),me (d.own b)=true->d.w.heap[b]?=some o->Vis o
theorem dY (hc:mG me d):Like (fast me d) (eQ me d) d.w:=by
 refine⟨by simp[eQ],rfl,rfl,λb=>?_⟩;simp only[eQ,Array.getElem?_mapIdx]
 by_cases hm:me (d.own b)=true
 ·have hr:(fast me d).rng b=none:=by simp[fast,hm]
  have hq:¬(fast me d).hid b:=by simp[fast,hm]
  rw[hr];refine .inl ⟨?_,λh e=>?_,hq⟩
  ·cases d.w.heap[b]? <;> simp[hm]
  ·cases ho:d.w.heap[b]? with
   | none=>rw[ho] at e;cases e
   | some o =>
     rw[ho] at e;simp only[Option.map_some,hm,if_true,Option.some.injEq] at e;subst e;exact hc b _ hm ho
 ·have hm':me (d.own b)=false:=by simpa using hm
  cases ho:d.w.heap[b]? with
  | none =>
    have hr:(fast me d).rng b=none:=by simp[fast,hm',ho]
    have hq:¬(fast me d).hid b:=by simp[fast,ho]
    rw[hr];exact .inl ⟨rfl,(λh e=>nomatch e),hq⟩
  | some o =>
    simp only[Option.map_some,hm',Bool.false_eq_true,if_false]
    rcases kZ o with⟨c,t,s,rfl⟩ | hn
    ·rw [gI hm' ho]
     exact⟨c,t,s,rfl,rfl,sub_fast _ _ _⟩
    ·have hr:(fast me d).rng b=none:=by
      simp only[fast,hm',ho,Bool.false_eq_true,if_false];cases o <;> first | rfl | exact absurd rfl (hn _ _ _)
     rw[hr]
     by_cases hh:Hid o
     ·refine .inr ⟨⟨hm',o,ho,hh⟩,o,hh,rfl,?_⟩
      cases o <;> first | rfl | exact False.elim hh
     ·refine .inl ⟨?_,λh e=>?_,λ⟨_,o',ho',hh'⟩=>hh (by rw[ho] at ho';cases ho';exact hh')⟩
      ·cases o <;> first | rfl | exact absurd trivial hh | exact absurd rfl (hn _ _ _)
      ·cases o <;> first | exact absurd trivial hh | exact absurd rfl (hn _ _ _) |(cases e;exact trivial)
theorem oB (hl:me l=true) (hk:Kep (fast me d) d.w w') (h:Like (fast me d) x w'):Like (fast me ⟨w',ext d.own d.w.heap.size l⟩) x w':=by
 refine⟨h.size,h.os,h.output,λb=>?_⟩;have hb:=h.blk b
 by_cases hlt:b<d.w.heap.size
 ·have ho:ext d.own d.w.heap.size l b=d.own b:=by simp[ext,hlt]
  obtain⟨o,hobj⟩:∃ o,d.w.heap[b]?=some o:=⟨_,Array.getElem?_eq_getElem hlt⟩
  by_cases hm:me (d.own b)=true
  ·have hr:(fast me d).rng b=none:=by simp[fast,hm]
   have hr':(fast me ⟨w',ext d.own d.w.heap.size l⟩).rng b=none:=by simp[fast,ho,hm]
   have hq:¬(fast me d).hid b:=by simp[fast,hm]
   have hq':¬(fast me ⟨w',ext d.own d.w.heap.size l⟩).hid b:=by simp[fast,ho,hm]
   rw[hr] at hb;rw[hr']
   rcases hb with⟨h1,h2,_⟩ | ⟨h1,_⟩
   ·exact .inl ⟨h1,h2,hq'⟩
   ·exact absurd h1 hq
  ·have hm':me (d.own b)=false:=by simpa using hm
   have hs:=cX hk hm' hobj
   have er:(fast me ⟨w',ext d.own d.w.heap.size l⟩).rng b=(fast me d).rng b:=by
    simp only[fast,ho,hs,hobj]
   have eq:(fast me ⟨w',ext d.own d.w.heap.size l⟩).hid b=(fast me d).hid b:=by
    simp only[fast,ho,hs,hobj]
   rw[er,eq];exact hb
 ·have ho:ext d.own d.w.heap.size l b=l:=by simp[ext,hlt]
  have hn:d.w.heap[b]?=none:=Array.getElem?_eq_none (by omega);have hr:(fast me d).rng b=none:=by simp only[fast,hn];split <;> rfl
  have hq:¬(fast me d).hid b:=by simp[fast,hn]
  have hr':(fast me ⟨w',ext d.own d.w.heap.size l⟩).rng b=none:=by simp[fast,ho,hl]
  have hq':¬(fast me ⟨w',ext d.own d.w.heap.size l⟩).hid b:=by simp[fast,ho,hl]
  rw[hr] at hb;rw[hr']
  rcases hb with⟨h1,h2,_⟩ | ⟨h1,_⟩
  ·exact .inl ⟨h1,h2,hq'⟩
  ·exact absurd h1 hq
end
end Go.Turn
namespace Go.Turn
open Go.Conc Go.Tame
open Go.ConcN (upd upd_ne upd_same)
structure Gs where
 n:Nat
 cap:Nat
 tv:Nat
 tb:Nat
 ab:Nat
 rb:Nat
 bk:Nat
 sb:Nat->Nat
 ps:Nat->Nat
 tP:TypeId
 tT:TypeId
 tA:TypeId
 tS:TypeId
 tB:TypeId
def Still (g:Gs) (l:Loc):Prop:=∃ a:Addr,l=.cell a/\(a=⟨g.tv,0,none⟩\/a=⟨g.tb,0,none⟩\/∃ i,i<g.n/\a=⟨g.sb i,1,none⟩)
structure KT (g:Gs) (w:World):Prop where
 v:w.cell? ⟨g.tv,0,none⟩=some (.pointer (some ⟨g.tb,0,none⟩))
 t:w.cell? ⟨g.tb,0,none⟩=some (.chan (some g.bk))
 s:∀ i,i<g.n->w.cell? ⟨g.sb i,1,none⟩=some (.chan (some (g.ps i)))
structure TuAt (g:Gs) (ov br:Nat->Bool) (w:World):Prop where
 v:w.heap[g.tv]?=some (.cells #[.pointer (some ⟨g.tb,0,none⟩)] g.tP (0,0))
 t:w.heap[g.tb]?=some (.cells #[.chan (some g.bk),.slice (some ⟨g.ab,0,none⟩) g.n g.cap,.slice (some ⟨g.rb,0,none⟩) g.n g.n] g.tT (0,0))
 a:∃ c:Array Value,w.heap[g.ab]?=some (.cells c g.tA (0,0))/\∀ i,i<g.n->c[i]?=some (.pointer (some ⟨g.sb i,0,none⟩))
 s:∀ i,i<g.n->w.heap[g.sb i]?=some (.cells #[.pointer (some ⟨g.tb,0,none⟩),.chan (some (g.ps i)),.bool (ov i)] g.tS (0,0))
 b:∃ c:Array Value,w.heap[g.rb]?=some (.cells c g.tB (0,0))/\c.size=g.n/\∀ i,i<g.n->c[i]?=some (.bool (br i))
theorem TuAt.k {g:Gs}{ov br:Nat->Bool}{w:World}(h:TuAt g ov br w):KT g w:=
 ⟨by simp[World.cell?,h.v],by simp[World.cell?,h.t],λi hi=>by simp[World.cell?,h.s i hi]⟩
def iK (g:Gs) (c:Nat):Prop:=c=g.bk\/∃ i,i<g.n/\c=g.ps i
structure Lbl (g:Gs) (RB:Nat->Prop) (own:Nat->Ow):Prop where
 ro:∀ b,RB b->own b=.ro
 v:own g.tv=.tu
 t:own g.tb=.tu
 a:own g.ab=.tu
 s:∀ i,i<g.n->own (g.sb i)=.tu
 b:own g.rb=.tu
 c:∀ c,iK g c->own c=.tu
structure Env (P:Program) where
 g:Gs
 S : Type
  /-- The blocks that everybody reads,and what lies there. -/
 RB:Nat->Prop
 rv:Nat->Obj
 os:Os
 out : Array (Nat × ByteArray)
  /-- The state lies in these blocks. -/
 Rep:S->(Nat->Prop)->World->Prop
 Post : Value->World->Prop
  /-- The first thread's number among the goroutines. -/
 b:Nat
 pos : 0<b
  /-- The shared state rests on the shared blocks. -/
 rep:∀ s H w w',Rep s H w->(∀ b,H b->w'.heap[b]?=w.heap[b]?)->(∀ (b:Nat) (c:Array Value) (t:TypeId) (r:Nat × Nat),RB b->w.heap[b]?=some (Obj.cells c t r)->∃ r',w'.heap[b]?=some (Obj.cells c t r'))->Rep s H w'
 near:∀ s H w b,Rep s H w->H b->∃ c t r,w.heap[b]?=some (.cells c t r)/\r.2<big
 apart:∀ j,j<g.n->g.ps j≠g.bk
 inj:∀ i j,i<g.n->j<g.n->g.ps i=g.ps j->i=j
def bF (g:Gs) (H:Goroutine->Prop):Seat:=Seat.one g.bk (.agg #[]) false H
def dX (g:Gs) (i:Nat) (H:Goroutine->Prop):Seat:=Seat.one (g.ps i) (.bool false) false H
def gA (Inb:Nat->Option Seat) (h:Nat):Nat->Prop:=λg=>Inb g≠none\/g=h
section
variable {P:Program}(e:Env P)
def pE (s:e.S) (d:Wd):Prop:=∃ H:Nat->Prop,e.Rep s H d.w/\∀ b,d.own b=.sh ↔ H b
structure Base (N:Nat) (Inb:Nat->Option Seat) (h:Nat) (gs:Array Goroutine) (T:Trace) (d:Wd) (ov br:Nat->Bool):Prop where
 cfg:Cfg P (KT e.g) (Still e.g) (gA Inb h) Inb h T gs d.w
 size:gs.size=N
 lt:∀ x s,Inb x=some s->x<N
 tu:TuAt e.g ov br d.w
 lbl:Lbl e.g e.RB d.own
 rbl : ∀ b,e.RB b->d.w.heap[b]?=some (e.rv b)
  /-- The turnstile's channels: open,empty,as many sent as received. -/
 chn:∀ c,iK e.g c->∃ k,d.w.heap[c]?=some (.chan 0 #[] false k k false)
 shp:∀ x s,Inb x=some s->(x=0/\∃ H,s=bF e.g H)\/∃ j H,j<e.g.n/\x=e.b+j/\s=dX e.g j H
 io:d.w.os=e.os/\d.w.output=e.out
end
structure Res (j:Nat) (d d':Wd):Prop where
 size:d.w.heap.size<=d'.w.heap.size
 keep:∀ b,b<d.w.heap.size->(d.own b=.wk j\/d.own b=.ro)->d'.own b=d.own b/\d'.w.heap[b]?=d.w.heap[b]?
 new:∀ b,b<d'.w.heap.size->d'.own b=.wk j->b<d.w.heap.size/\d.own b=.wk j
structure Moved (i:Nat) (d d':Wd):Prop where
 size:d.w.heap.size<=d'.w.heap.size
 lab:∀ b,b<d.w.heap.size->d.own b≠.wk i->d.own b≠.sh->d'.own b=d.own b
 mine:∀ b,b<d.w.heap.size->(d.own b=.wk i\/d.own b=.sh)->d'.own b=.wk i\/d'.own b=.sh
 new:∀ b,d.w.heap.size<=b->d'.own b=.wk i\/d'.own b=.sh
 same:∀ b,b<d.w.heap.size->d.own b≠.wk i->d.own b≠.sh->d.own b≠.tu->d'.w.heap[b]?=d.w.heap[b]?
theorem Res.refl (j:Nat) (d:Wd):Res j d d:=⟨Nat.le_refl _,λ_ _ _=>⟨rfl,rfl⟩,λb hb h=>⟨hb,h⟩⟩
theorem Res.trans {j:Nat}{a b c:Wd}(h:Res j a b) (k:Res j b c):Res j a c:=by
 refine⟨Nat.le_trans h.1 k.1,λn hn ho=>?_,λn hn hb=>h.new n (k.new n hn hb).1 (k.new n hn hb).2⟩;obtain⟨h1,h2⟩:=h.2 n hn ho;obtain⟨k1,k2⟩:=k.2 n (Nat.lt_of_lt_of_le hn h.1) (by rw[h1];exact ho);exact⟨k1.trans h1,k2.trans h2⟩
theorem Moved.res {i j:Nat}{d d':Wd}(h:Moved i d d') (hij:j≠i):Res j d d':=by
 refine⟨h.size,λb hb ho=>?_,λb _ hb=>?_⟩
 ·have h1:d.own b≠.wk i:=by rcases ho with ho | ho <;> rw[ho] <;> simp[hij]
  have h2:d.own b≠.sh:=by rcases ho with ho | ho <;> rw[ho] <;> simp
  exact⟨h.lab b hb h1 h2,h.same b hb h1 h2 (by rcases ho with ho | ho <;> rw[ho] <;> simp)⟩
 ·by_cases hlt:b<d.w.heap.size
  ·refine ⟨hlt,?_⟩
   by_cases h1:d.own b=.wk i\/d.own b=.sh
   ·rcases h.mine b hlt h1 with e | e <;> rw[e] at hb
    ·simp only [Ow.wk.injEq] at hb;exact absurd hb.symm hij
    ·cases hb
   ·rw [<-h.lab b hlt (λe=>h1 (.inl e)) (λe=>h1 (.inr e))];exact hb
  ·rcases h.new b (by omega) with e | e <;> rw[e] at hb
   ·simp only [Ow.wk.injEq] at hb;exact absurd hb.symm hij
   ·cases hb
theorem Moved.trans {i:Nat}{a b c:Wd}(h:Moved i a b) (k:Moved i b c):Moved i a c:=by
 have step:∀ n,(b.own n=.wk i\/b.own n=.sh)->c.own n=.wk i\/c.own n=.sh:=λn hn=>by
  by_cases hb:n<b.w.heap.size
  ·exact k.mine n hb hn
  ·exact k.new n (by omega)
 refine⟨Nat.le_trans h.size k.size,λn hn h1 h2=>?_,λn hn ho=>step n (h.mine n hn ho),λn hn=>step n (h.new n hn),λn hn h1 h2 h3=>?_⟩
 ·have e1:=h.lab n hn h1 h2
  rw[k.lab n (Nat.lt_of_lt_of_le hn h.size) (by rw[e1];exact h1) (by rw[e1];exact h2),e1]
 ·have e1:=h.lab n hn h1 h2
  rw[k.same n (Nat.lt_of_lt_of_le hn h.size) (by rw[e1];exact h1) (by rw[e1];exact h2) (by rw[e1];exact h3),h.same n hn h1 h2 h3]
section
variable {P:Program}(e:Env P) (i:Nat)
def Back (N:Nat) (H:Goroutine->Prop) (Inb':Nat->Option Seat) (d:Wd) (ov:Nat->Bool) (Q:Wd->Prop):Prop:=
 ∀ d' gs' sl' T' g₂ br',Base e N Inb' 0 gs' T' d' ov br'->gs'[0]?=some (Go.Conc.served g₂ (recvd false (.agg #[]) true))->H g₂->Moved i d d'->Q d'->Tame.Ends P e.Post (crowd gs' d'.w sl') T'
def At (g:Goroutine) (d:Wd) (Nx:Nat->(Nat->Option Seat)->(Goroutine->Prop)->(Nat->Bool)->Prop):Prop:=
 ∀ N Inb H gs sl T ov br,Base e N Inb (e.b+i) gs T d ov br->gs[e.b+i]?=some g->Inb 0=some (bF e.g H)->i<e.g.n->ov i=false->Nx N Inb H ov->Tame.Ends P e.Post (crowd gs d.w sl) T
def NxRet (s:e.S) (d:Wd) (N:Nat) (Inb:Nat->Option Seat) (H:Goroutine->Prop) (ov:Nat->Bool):Prop:=
 Back e i N H (upd Inb (e.b+i) none) d (upd ov i true) (pE e s)
def WRet (s:e.S) (g:Goroutine) (d:Wd):Prop:=At e i g d (NxRet e i s d)
def Wt (W:e.S->Goroutine->Wd->Prop) (g':Goroutine) (d':Wd):Prop:=
 ∀ d'' σ,Res i d' d''->Lbl e.g e.RB d''.own->pE e σ d''->W σ (Go.Conc.served g' (recvd false (.bool true) true)) d''/\WRet e i σ (Go.Conc.served g' (recvd false (.bool false) true)) d''
def WTh:Tree e.S e.S->Goroutine->Wd->Prop
 | .cut,_,_=>True
 | .ret s,g,d=>WRet e i s g d
 | .yield s k,g,d=>At e i g d λN Inb H ov=>∀ g',Back e i N H (upd Inb (e.b+i) (some (dX e.g i (·=g')))) d ov (λd'=>pE e s d'/\Wt e i (λσ=>WTh (k σ)) g' d')
def Nxt (κ:Tree e.S e.S) (d:Wd) (N:Nat) (Inb:Nat->Option Seat) (H:Goroutine->Prop) (ov:Nat->Bool):Prop:=
 match κ with
 | .cut=>False
 | .ret s=>NxRet e i s d N Inb H ov
 | .yield s k=>∀ g',Back e i N H (upd Inb (e.b+i) (some (dX e.g i (·=g')))) d ov (λd'=>pE e s d'/\Wt e i (λσ=>WTh e i (k σ)) g' d')
theorem mT (κ:Tree e.S e.S) (g:Goroutine) (d:Wd):WTh e i κ g d ↔ At e i g d (Nxt e i κ d):=by
 cases κ with
 | cut=>exact⟨λ_ _ _ _ _ _ _ _ _ _ _ _ _ _ h=>h.elim,λ_=>trivial⟩
 | ret s=>exact Iff.rfl
 | yield s k=>exact Iff.rfl
theorem Back.move {N:Nat}{H:Goroutine->Prop}{Inb':Nat->Option Seat}{d d1:Wd}{ov:Nat->Bool}{Q:Wd->Prop}(h:Back e i N H Inb' d ov Q) (hm:Moved i d d1):Back e i N H Inb' d1 ov Q:=
 λd' gs' sl' T' g₂ br' hb hg hH hmv hq=>h d' gs' sl' T' g₂ br' hb hg hH (hm.trans hmv) hq
theorem Nxt.move {κ:Tree e.S e.S}{d d1:Wd}{N:Nat}{Inb:Nat->Option Seat}{H:Goroutine->Prop}{ov:Nat->Bool}(h:Nxt e i κ d N Inb H ov) (hm:Moved i d d1):Nxt e i κ d1 N Inb H ov:=by
 cases κ with
 | cut=>exact h.elim
 | ret s=>exact Back.move e i h hm
 | yield s k=>exact λg'=>Back.move e i (h g') hm
def meW:Ow->Bool
 | .wk j=>j==i
 | .sh=>true
 | _=>false
variable {e i}
theorem kep_moved {d:Wd}{w':World}(hk:Kep (fast (meW i) d) d.w w'):Moved i d ⟨w',ext d.own d.w.heap.size (.wk i)⟩:=by
 refine⟨hk.size,λb hb _ _=>by simp[ext,hb],λb hb h=>by simp[ext,hb,h],λb hb=>.inl (by simp[ext];omega),λb hb h1 h2 _=>?_⟩
 have hm:meW i (d.own b)=false:=by
  cases ho:d.own b <;> simp_all [meW]
 obtain⟨o,ho⟩:∃ o,d.w.heap[b]?=some o:=⟨_,Array.getElem?_eq_getElem hb⟩;rw[cX hk hm ho,ho]
theorem aB {w:World}{b:Nat}{o:Obj}(h:w.heap[b]?=some o):b<w.heap.size:=(Array.getElem?_eq_some_iff.1 h).1
theorem lbl_ext {d:Wd}{ov br:Nat->Bool}(h:Lbl e.g e.RB d.own) (t:TuAt e.g ov br d.w) (hc:∀ c,iK e.g c->∃ k,d.w.heap[c]?=some (.chan 0 #[] false k k false)) (hr:∀ b,e.RB b->d.w.heap[b]?=some (e.rv b)) (l:Ow):Lbl e.g e.RB (ext d.own d.w.heap.size l):=by
 obtain⟨_,ha,_⟩:=t.a;obtain⟨_,hb,_⟩:=t.b;exact⟨λb hb=>by simp[ext,aB (hr b hb),h.ro b hb],by simp[ext,aB t.v,h.v],by simp[ext,aB t.t,h.t],by simp[ext,aB ha,h.a],λi hi=>by simp[ext,aB (t.s i hi),h.s i hi],by simp[ext,aB hb,h.b],λc hcc=>by obtain⟨k,hk⟩:=hc c hcc;simp[ext,aB hk,h.c c hcc]⟩
theorem tu_kep {me:Ow->Bool}(hme:me .tu=false) {d:Wd}{w':World}{ov br:Nat->Bool}(hl:Lbl e.g e.RB d.own) (hk:Kep (fast me d) d.w w') (t:TuAt e.g ov br d.w):TuAt e.g ov br w':=by
 have key:∀ b o,d.own b=.tu->d.w.heap[b]?=some o->w'.heap[b]?=some o:=λb o hb ho=>cX hk (by rw[hb];exact hme) ho;obtain⟨c,ha,ha'⟩:=t.a;obtain⟨c',hb,hb'⟩:=t.b;exact⟨key _ _ hl.v t.v,key _ _ hl.t t.t,⟨c,key _ _ hl.a ha,ha'⟩,λi hi=>key _ _ (hl.s i hi) (t.s i hi),⟨c',key _ _ hl.b hb,hb'⟩⟩
theorem fit_fast {me:Ow->Bool}(hme:me .tu=false) {d:Wd}{ov br:Nat->Bool}(hl:Lbl e.g e.RB d.own) (t:TuAt e.g ov br d.w):Fit (KT e.g) (Still e.g) (fast me d):=by
 have hv:(fast me d).has ⟨e.g.tv,0,none⟩:=kY (by rw[hl.v];exact hme) t.v (.inl (by simp));have ht:(fast me d).has ⟨e.g.tb,0,none⟩:=kY (by rw[hl.t];exact hme) t.t (.inl (by simp));have hs:∀ i,i<e.g.n->(fast me d).has ⟨e.g.sb i,1,none⟩:=λi hi=>kY (by rw[hl.s i hi];exact hme) (t.s i hi) (.inl (by simp));refine⟨λw n h=>⟨h.v,h.t,h.s⟩,λw w' h k=>⟨?_,?_,λi hi=>?_⟩,λa ha=>?_,λl ⟨a,ha,_⟩=>⟨a,ha⟩⟩
 ·rw [h.cell _ hv];exact k.v
 ·rw [h.cell _ ht];exact k.t
 ·rw [h.cell _ (hs i hi)];exact k.s i hi
 ·obtain ⟨a',ha',h1⟩:=ha
  cases ha'
  rcases h1 with rfl | rfl | ⟨i,hi,rfl⟩
  ·exact hv
  ·exact ht
  ·exact hs i hi
theorem qX {me:Ow->Bool}{d:Wd}{x:World}(hl:Like (fast me d) x d.w) {b:Nat}{c:Array Value}{t:TypeId}{r:Nat × Nat}(hx:x.heap[b]?=some (.cells c t r)):∃ s,d.w.heap[b]?=some (.cells c t s):=by
 have hb:=hl.blk b;cases hg:(fast me d).rng b with
 | none =>
   rw[hg] at hb
   rcases hb with⟨h1,_,_⟩ | ⟨_,_,_,_,h1⟩
   ·exact ⟨r,h1.symm.trans hx⟩
   ·rw [hx] at h1;cases h1
 | some r' =>
   rw[hg] at hb;obtain⟨c',t',s',h1,h2,_⟩:=hb;rw[hx] at h1;cases h1;exact⟨s',h2⟩
theorem jQ {me:Ow->Bool}{d:Wd}{b:Nat}{c:Array Value}{t:TypeId}{r:Nat × Nat}(h:d.w.heap[b]?=some (.cells c t r)):∃ r',(eQ me d).heap[b]?=some (.cells c t r'):=by
 simp only[eQ,Array.getElem?_mapIdx,h,Option.map_some]
 by_cases hm:me (d.own b)=true
 ·exact ⟨r,by simp[hm]⟩
 ·simp only [hm,Bool.false_eq_true,if_false]
  exact⟨_,rfl⟩
variable (e i)
def Th (κ:Tree e.S e.S) (fr:Frame) (mid:List Frame) (x:World):Prop:=
 ∀ d,Like (fast (meW i) d) x d.w->Lbl e.g e.RB d.own->Inv P fr mid->WTh e i κ (G fr mid) d
variable {e i}
theorem Th.re {κ:Tree e.S e.S}{fr:Frame}{mid:List Frame}{x:World}(h:Th e i κ fr mid x) (τ:Nat->Question->Nat) (n:Nat):Th e i κ fr mid (x.re τ n):=
 λd hl hb hi=>h d ⟨hl.size,hl.os,hl.output,hl.blk⟩ hb hi
theorem kE (hP:Prog P) {κ:Tree e.S e.S}{fr:Frame}{mid:List Frame}{x:World}
  (h:∀ τ n,∃ N fr' mid' x',runN P N (lone fr (mid++[aV P]) (x.re τ n))=.next (lone fr' (mid'++[aV P]) x')/\Th e i κ fr' mid' x'):Th e i κ fr mid x:=by
 intro d hl hb hI;rw[mT];intro N Inb H gs sl T ov br hB ha hm hin ho hN;have hfit:=fit_fast (me:=meW i) rfl hB.lbl hB.tu;refine hold (GS:=λfr mid x=>Th e i κ fr mid x) hfit hP (λ_ _ _ τ n h=>h.re τ n) (cs:=[]) (N0:=N) (w0:=d.w) ?_ hI hl (Kep.refl _ _) (n:=0) (p:=λ_ _=>0) (λτ _=>h τ 0) hB.cfg hB.size (by simpa using ha);intro fr' mid' x' w' gs' sl' T' hT hI' hl' hk hc hsz ha';have hmv:=kep_moved hk;have hlb:=lbl_ext hB.lbl hB.tu hB.chn hB.rbl (.wk i);have hthis:=hT ⟨w',ext d.own d.w.heap.size (.wk i)⟩ (oB (by simp[meW]) hk hl') hlb hI';rw[mT] at hthis;exact hthis N Inb H gs' sl' T' ov br ⟨hc,hsz,hB.lt,tu_kep rfl hB.lbl hk hB.tu,hlb,λb h=>cX hk (by rw[hB.lbl.ro b h];rfl) (hB.rbl b h),λc hcc=>(hB.chn c hcc).imp λk hk'=>cX hk (by rw[hB.lbl.c c hcc];rfl) hk',hB.shp,⟨hk.io.1.trans hB.io.1,hk.io.2.trans hB.io.2⟩⟩ (by simpa using ha') hm hin ho (Nxt.move e i hN hmv)
end
end Go.Turn
namespace Go.Tame
section
variable {P:Program}
theorem T.typeName (t:TypeId):T P (Go.typeStr t):=by
 unfold Go.typeStr
 repeat' (first
  | assumption
  | exact T.unsupported _
  | (with_reducible first | exact T.pure _ | exact R.pure _ | exact T.stuck _ | exact T.goPanic _ | exact T.program | exact T.load _ _ | exact T.store _ _ _ | exact T.typeInfo _ | exact T.runtimePanic _ | exact T.asString _ | exact T.asAddr _ | exact T.asAgg _ | exact T.asInt _)
  | (with_reducible refine T.bind ?_ λ_=>?_)
  | (with_reducible refine T.map ?_)
  | (with_reducible refine T.ite (λ_=>?_) (λ_=>?_))
  | intro _
  | split
  | dsimp only)
theorem T.described (v:Value):T P (Extern.RuntimeError.described v):=by
 unfold Extern.RuntimeError.described
 repeat' (first
  | assumption
  | exact T.unsupported _
  | (with_reducible first | exact T.pure _ | exact R.pure _ | exact T.stuck _ | exact T.goPanic _ | exact T.program | exact T.load _ _ | exact T.store _ _ _ | exact T.typeInfo _ | exact T.runtimePanic _ | exact T.asString _ | exact T.asAddr _ | exact T.asAgg _ | exact T.asInt _ | exact T.typeName _)
  | (with_reducible refine T.bind ?_ λ_=>?_)
  | (with_reducible refine T.map ?_)
  | (with_reducible refine T.ite (λ_=>?_) (λ_=>?_))
  | intro _
  | split
  | dsimp only)
theorem T.pkgpathOf (i:TypeInfo):T P (Extern.RuntimeError.pkgpathOf i):=by
 unfold Extern.RuntimeError.pkgpathOf
 repeat' (first
  | assumption
  | exact T.unsupported _
  | (with_reducible first | exact T.pure _ | exact R.pure _ | exact T.stuck _ | exact T.goPanic _ | exact T.program | exact T.load _ _ | exact T.store _ _ _ | exact T.typeInfo _ | exact T.runtimePanic _ | exact T.asString _ | exact T.asAddr _ | exact T.asAgg _ | exact T.asInt _ | exact T.typeName _ | exact T.described _)
  | (with_reducible refine T.bind ?_ λ_=>?_)
  | (with_reducible refine T.map ?_)
  | (with_reducible refine T.ite (λ_=>?_) (λ_=>?_))
  | intro _
  | split
  | dsimp only)
theorem T.boundsErr (args:Array Value):T P (Extern.RuntimeError.boundsError args):=by
 obtain⟨l⟩:=args
 rcases l with _ | ⟨a,_ | ⟨b,l⟩⟩
 ·exact T.stuck _
 ·cases a with
  | agg c =>
    obtain⟨l⟩:=c
    rcases l with _ | ⟨c0,_ | ⟨c1,_ | ⟨c2,_ | ⟨c3,_ | ⟨c4,l⟩⟩⟩⟩⟩
    ·exact T.stuck _
    ·exact T.stuck _
    ·exact T.stuck _
    ·exact T.stuck _
    ·cases c0 <;> try exact T.stuck _
     cases c1 <;> try exact T.stuck _
     cases c2 <;> try exact T.stuck _
     cases c3 <;> try exact T.stuck _
     rename_i k x k' y g k'' z
     exact (show T P (match (if g && x<0 then Extern.RuntimeError.boundsNegErrorFmts else Extern.RuntimeError.boundsErrorFmts)[z.toNat]? with
      | some fmt=>Extern.RuntimeError.text ("runtime error: " ++ (fmt.replace "%x" (toString (if g then x else IntKind.u64.wrap x))).replace "%y" (toString y))
      | none=>Go.stuck "boundsError: no such code") from by
        split
        ·exact T.pure _
        ·exact T.stuck _)
    ·exact T.stuck _
  | _=>exact T.stuck _
 ·exact T.stuck _
theorem T.assertErr (args:Array Value):T P (Extern.RuntimeError.typeAssertionError args):=by
 unfold Extern.RuntimeError.typeAssertionError Extern.RuntimeError.text
 repeat' (first
  | assumption
  | exact T.unsupported _
  | (with_reducible first | exact T.pure _ | exact R.pure _ | exact T.stuck _ | exact T.goPanic _ | exact T.program | exact T.load _ _ | exact T.store _ _ _ | exact T.typeInfo _ | exact T.runtimePanic _ | exact T.asString _ | exact T.asAddr _ | exact T.asAgg _ | exact T.asInt _ | exact T.typeName _ | exact T.described _ | exact T.pkgpathOf _)
  | (with_reducible refine T.bind ?_ λ_=>?_)
  | (with_reducible refine T.map ?_)
  | (with_reducible refine T.ite (λ_=>?_) (λ_=>?_))
  | intro _
  | split
  | dsimp only)
theorem T.unhashErr (args:Array Value):T P (Extern.RuntimeError.unhashableTypeError args):=by
 unfold Extern.RuntimeError.unhashableTypeError Extern.RuntimeError.text;obtain⟨l⟩:=args
 rcases l with _ | ⟨a,_ | ⟨b,l⟩⟩
 ·exact T.stuck _
 ·cases a with
  | agg c =>
    obtain⟨l⟩:=c
    rcases l with _ | ⟨c0,_ | ⟨c1,l⟩⟩
    ·exact T.stuck _
    ·refine T.bind (T.described _) λr=>?_
     cases r with
     | none=>exact T.runtimePanic _
     | some t=>exact T.pure _
    ·exact T.stuck _
  | _=>exact T.stuck _
 ·exact T.stuck _
theorem T.readA (t:Extern.Atomic.T) (a:Addr):T P (Extern.Atomic.read t a):=by
 unfold Extern.Atomic.read
 repeat' (first
  | assumption
  | exact T.unsupported _
  | (with_reducible first | exact T.pure _ | exact R.pure _ | exact T.stuck _ | exact T.goPanic _ | exact T.program | exact T.load _ _ | exact T.store _ _ _ | exact T.typeInfo _ | exact T.runtimePanic _ | exact T.asString _ | exact T.asAddr _ | exact T.asAgg _ | exact T.asInt _ | exact T.typeName _ | exact T.described _ | exact T.pkgpathOf _)
  | (with_reducible refine T.bind ?_ λ_=>?_)
  | (with_reducible refine T.map ?_)
  | (with_reducible refine T.ite (λ_=>?_) (λ_=>?_))
  | intro _
  | split
  | dsimp only)
theorem T.loadA (t:Extern.Atomic.T) (args:Array Value):T P (Extern.Atomic.loadT t args):=by
 unfold Extern.Atomic.loadT;obtain⟨l⟩:=args
 rcases l with _ | ⟨a,_ | ⟨b,l⟩⟩
 ·exact T.stuck _
 ·exact T.bind (T.asAddr _) λ_=>T.readA _ _
 ·exact T.stuck _
theorem T.storeA (args:Array Value):T P (Extern.Atomic.storeT args):=by
 unfold Extern.Atomic.storeT;obtain⟨l⟩:=args
 rcases l with _ | ⟨a,_ | ⟨b,_ | ⟨c,l⟩⟩⟩
 ·exact T.stuck _
 ·exact T.stuck _
 ·exact T.bind (T.asAddr _) λ_=>T.bind (T.store _ _ _) λ_=>T.pure _
 ·exact T.stuck _
theorem T.frozenAny {β:Type}{f g:Bool->Sem β}(hf:∀ b,R P (f b) (g b)) (h':∀ b,R P (f true) (g b)) (p:Nat->Addr):∀ l:List Nat,R P ((l.anyM λi=>Go.frozen (p i)) >>= f) ((l.anyM λi=>Go.frozen (p i)) >>= g)
 | []=>hf false
 | i :: l=>R.frozen (λb=>by cases b with
     | true=>exact hf true
     | false=>exact T.frozenAny hf h' p l) (right l)
where right:∀ l:List Nat,R P (f true) ((l.anyM λi=>Go.frozen (p i)) >>= g)
 | []=>h' false
 | i :: l=>R.frozenR λb=>by cases b with
     | true=>exact h' true
     | false=>exact right l
theorem T.touches {β:Type}{a:Addr}{f g:Bool->Sem β}(hf:∀ b,R P (f b) (g b)) (h':∀ b,R P (f true) (g b)):R P (Extern.Atomic.touchesFrozen a >>= f) (Extern.Atomic.touchesFrozen a >>= g):=by
 unfold Extern.Atomic.touchesFrozen
 show R P (((Go.viewAt a.block) >>= _) >>= f) (((Go.viewAt a.block) >>= _) >>= g)
 rw[bind_assoc,bind_assoc];refine R.bind (T.viewAt _) λv=>?_;cases v with
 | none=>exact R.frozen hf (h' false)
 | some q =>
   obtain⟨b,t⟩:=q;simp only[bind_assoc];refine R.bind (T.typeInfo _) λi=>?_
   split
   ·exact R.cut (h:=.unsupported _) trivial
   ·exact T.frozenAny hf h' _ _
theorem T.casA (t:Extern.Atomic.T) (args:Array Value):T P (Extern.Atomic.casT t args):=by
 unfold Extern.Atomic.casT;obtain⟨l⟩:=args
 rcases l with _ | ⟨a,_ | ⟨b,_ | ⟨c,_ | ⟨d,l⟩⟩⟩⟩
 ·exact T.stuck _
 ·exact T.stuck _
 ·exact T.stuck _
 ·refine T.bind (T.asAddr _) λp=>T.touches (λx=>?_) λx=>?_
  rotate_left
  ·exact R.cut (h:=.unsupported (.unsafePointer "a write to bytes that a string shares")) trivial
  split
  ·exact T.unsupported _
  ·refine T.bind (T.readA _ _) λv=>?_
   have key:∀ eq:Bool,T P (if eq=true then do
     let __r <-Go.store p c .atomic
     (λ_=>Pure.pure (Value.bool eq)) __r
    else(Pure.pure (Value.bool eq):Sem Value)):=λeq=>T.ite (λ_=>T.bind (T.store _ _ _) λ_=>T.pure _) λ_=>T.pure _
   dsimp only
   split
   ·exact T.bind (T.pure _) key
   ·exact T.bind (T.samePointer _ _) key
   ·exact T.bind (T.pure _) key
   ·exact T.bind (T.pure _) key
   ·exact T.bind (T.unsupported _) key
   ·exact T.bind (T.unsupported _) key
   ·exact T.bind (T.stuck _) key
 ·exact T.stuck _
theorem T.swapA (t:Extern.Atomic.T) (args:Array Value):T P (Extern.Atomic.swapT t args):=by
 unfold Extern.Atomic.swapT;obtain⟨l⟩:=args
 rcases l with _ | ⟨a,_ | ⟨b,_ | ⟨c,l⟩⟩⟩
 ·exact T.stuck _
 ·exact T.stuck _
 ·exact T.bind (T.asAddr _) λ_=>T.bind (T.readA _ _) λ_=>T.bind (T.store _ _ _) λ_=>T.pure _
 ·exact T.stuck _
theorem T.updateA {op:IntKind->Int->Int->Sem Value}(hop:∀ k x y,T P (op k x y)) (k:IntKind) (r:Bool) (args:Array Value):T P (Extern.Atomic.update op k r args):=by
 unfold Extern.Atomic.update;obtain⟨l⟩:=args
 rcases l with _ | ⟨a,_ | ⟨b,_ | ⟨c,l⟩⟩⟩
 ·exact T.stuck _
 ·exact T.stuck _
 ·exact T.bind (T.asAddr _) λ_=>T.bind (T.readA _ _) λ_=>T.bind (T.asInt _) λ_=>T.bind (T.asInt _) λ_=>T.bind (hop _ _ _) λ_=>T.bind (T.store _ _ _) λ_=>T.pure _
 ·exact T.stuck _
def extNames:List String:=["main.main", "gosem.cut", "(*internal/abi.Type).Align", "(carillon/api.Errno).Error", "(internal/abi.Kind).String", "sync/atomic.StoreInt64", "sync/atomic.LoadInt64", "(runtime.errorString).Error", "(runtime.plainError).Error", "(runtime.errorAddressString).Error", "(runtime.boundsError).Error", "(*runtime.TypeAssertionError).Error", "(*runtime.PanicNilError).Error", "(internal/runtime/maps.unhashableTypeError).Error", "(runtime.errorString).RuntimeError", "(runtime.plainError).RuntimeError", "(runtime.errorAddressString).RuntimeError", "(runtime.boundsError).RuntimeError", "(*runtime.TypeAssertionError).RuntimeError", "(*runtime.PanicNilError).RuntimeError", "(internal/runtime/maps.unhashableTypeError).RuntimeError", "sync/atomic.CompareAndSwapInt64", "sync/atomic.SwapInt64", "sync/atomic.AddInt64", "sync/atomic.LoadUint64", "sync/atomic.StoreUint64", "sync/atomic.CompareAndSwapUint64", "sync/atomic.SwapUint64", "sync/atomic.AddUint64", "sync/atomic.AndUint64", "sync/atomic.OrUint64", "sync/atomic.LoadPointer", "sync/atomic.StorePointer", "sync/atomic.SwapPointer", "sync/atomic.CompareAndSwapPointer", "sync/atomic.LoadUint32", "sync/atomic.StoreUint32", "sync/atomic.SwapUint32", "sync/atomic.CompareAndSwapUint32"]
theorem ext_plain:(("" :: extNames).all λn=>(Extern.allGenericRows.lookup n).isNone && (Extern.allTypedRows.lookup n).isNone)=true:=by kernel_rfl
theorem ext_nil:Extern.allRows.lookup "" = none:=by kernel_rfl
theorem ext_none:(["main.main", "gosem.cut", "(*internal/abi.Type).Align", "(carillon/api.Errno).Error"].all λn=>(Extern.allRows.lookup n).isNone)=true:=by kernel_rfl
theorem find_plain {fn:Func}(hn:fn.name∈extNames) (ho:fn.origin = ""):Extern.find fn=Extern.allRows.lookup fn.name:=by
 have h:=List.all_eq_true.1 ext_plain;have h1:=h fn.name (List.mem_cons_of_mem _ hn);have h0:=h "" (List.mem_cons_self ..);simp only[Bool.and_eq_true,Option.isNone_iff_eq_none] at h1 h0;unfold Extern.find;rw[ho];simp only[h1.1,h1.2,h0.1,h0.2,ext_nil,Option.map_none];cases Extern.allRows.lookup fn.name <;> rfl
theorem none_of {n:String}(h:n∈["main.main", "gosem.cut", "(*internal/abi.Type).Align", "(carillon/api.Errno).Error"]):Extern.allRows.lookup n=none:=by
 have:=List.all_eq_true.1 ext_none n h
 simpa using this
theorem ext_rows (n:String) (hn:n∈extNames) (e:Array Value->Sem Value) (he:Extern.allRows.lookup n=some e) (args:Array Value):T P (e args):=by
 simp only[extNames,List.mem_cons,List.not_mem_nil,or_false] at hn
 rcases hn with rfl | rfl | rfl | rfl | hn
 iterate 4 (rw[none_of (by simp)] at he;cases he)
 rcases hn with rfl | rfl | rfl | hn
 ·rw [show Extern.allRows.lookup "(internal/abi.Kind).String" = some (λargs=>do pure (strVal (Extern.Rtype.kindName (<-asInt (args.getD 0 (.tuple #[]))).toNat))) from by kernel_rfl] at he
  cases he;exact T.bind (T.asInt _) λ_=>T.pure _
 ·rw [show Extern.allRows.lookup "sync/atomic.StoreInt64" = some Extern.Atomic.storeT from by kernel_rfl] at he
  cases he;exact T.storeA _
 ·rw [show Extern.allRows.lookup "sync/atomic.LoadInt64" = some (Extern.Atomic.loadT (.int .i64)) from by kernel_rfl] at he
  cases he;exact T.loadA _ _
 rcases hn with rfl | rfl | rfl | rfl | rfl | rfl | rfl | hn
 ·rw [show Extern.allRows.lookup "(runtime.errorString).Error" = some (λargs=>do pure (.string ("runtime error: ".toUTF8++(<-asString (args.getD 0 (.tuple #[])))))) from by kernel_rfl] at he
  cases he;exact T.bind (T.asString _) λ_=>T.pure _
 ·rw [show Extern.allRows.lookup "(runtime.plainError).Error" = some (λargs=>do pure (.string (<-asString (args.getD 0 (.tuple #[]))))) from by kernel_rfl] at he
  cases he;exact T.bind (T.asString _) λ_=>T.pure _
 ·rw [show Extern.allRows.lookup "(runtime.errorAddressString).Error" = some (λargs=>do pure (.string ("runtime error: ".toUTF8++(<-asString ((<-asAgg (args.getD 0 (.tuple #[]))).getD 0 (.tuple #[])))))) from by kernel_rfl] at he
  cases he;exact T.bind (T.asAgg _) λ_=>T.bind (T.asString _) λ_=>T.pure _
 ·rw [show Extern.allRows.lookup "(runtime.boundsError).Error" = some Extern.RuntimeError.boundsError from by kernel_rfl] at he
  cases he;exact T.boundsErr _
 ·rw [show Extern.allRows.lookup "(*runtime.TypeAssertionError).Error" = some Extern.RuntimeError.typeAssertionError from by kernel_rfl] at he
  cases he;exact T.assertErr _
 ·rw [show Extern.allRows.lookup "(*runtime.PanicNilError).Error" = some (λ_=>Extern.RuntimeError.text "runtime error: panic called with nil argument") from by kernel_rfl] at he
  cases he;exact T.pure _
 ·rw [show Extern.allRows.lookup "(internal/runtime/maps.unhashableTypeError).Error" = some Extern.RuntimeError.unhashableTypeError from by kernel_rfl] at he
  cases he;exact T.unhashErr _
 by_cases h7:n∈["(runtime.errorString).RuntimeError", "(runtime.plainError).RuntimeError", "(runtime.errorAddressString).RuntimeError", "(runtime.boundsError).RuntimeError", "(*runtime.TypeAssertionError).RuntimeError", "(*runtime.PanicNilError).RuntimeError", "(internal/runtime/maps.unhashableTypeError).RuntimeError"]
 ·have key:Extern.allRows.lookup n=some Extern.RuntimeError.nothing:=by
   simp only[List.mem_cons,List.not_mem_nil,or_false] at h7
   rcases h7 with rfl | rfl | rfl | rfl | rfl | rfl | rfl <;> kernel_rfl
  rw[key] at he;cases he;exact T.pure _
 simp only[List.mem_cons,List.not_mem_nil,or_false,not_or] at h7;obtain⟨z1,z2,z3,z4,z5,z6,z7⟩:=h7;simp only[z1,z2,z3,z4,z5,z6,z7,false_or] at hn;clear z1 z2 z3 z4 z5 z6 z7
 rcases hn with rfl | rfl | rfl | rfl | rfl | rfl | rfl | rfl | rfl | rfl | rfl | rfl | rfl | rfl | rfl | rfl | rfl | rfl
 ·rw [show Extern.allRows.lookup "sync/atomic.CompareAndSwapInt64" = some (Extern.Atomic.casT (.int .i64)) from by kernel_rfl] at he
  cases he;exact T.casA _ _
 ·rw [show Extern.allRows.lookup "sync/atomic.SwapInt64" = some (Extern.Atomic.swapT (.int .i64)) from by kernel_rfl] at he
  cases he;exact T.swapA _ _
 ·rw [show Extern.allRows.lookup "sync/atomic.AddInt64" = some (Extern.Atomic.update (Op.intArith .add) .i64 true) from by kernel_rfl] at he
  cases he;exact T.updateA (λ_ _ _=>T.intArith _ _ _ _) _ _ _
 ·rw [show Extern.allRows.lookup "sync/atomic.LoadUint64" = some (Extern.Atomic.loadT (.int .u64)) from by kernel_rfl] at he
  cases he;exact T.loadA _ _
 ·rw [show Extern.allRows.lookup "sync/atomic.StoreUint64" = some (Extern.Atomic.storeT) from by kernel_rfl] at he
  cases he;exact T.storeA _
 ·rw [show Extern.allRows.lookup "sync/atomic.CompareAndSwapUint64" = some (Extern.Atomic.casT (.int .u64)) from by kernel_rfl] at he
  cases he;exact T.casA _ _
 ·rw [show Extern.allRows.lookup "sync/atomic.SwapUint64" = some (Extern.Atomic.swapT (.int .u64)) from by kernel_rfl] at he
  cases he;exact T.swapA _ _
 ·rw [show Extern.allRows.lookup "sync/atomic.AddUint64" = some (Extern.Atomic.update (Op.intArith .add) .u64 true) from by kernel_rfl] at he
  cases he;exact T.updateA (λ_ _ _=>T.intArith _ _ _ _) _ _ _
 ·rw [show Extern.allRows.lookup "sync/atomic.AndUint64" = some (Extern.Atomic.update (Op.intBits .and) .u64 false) from by kernel_rfl] at he
  cases he;exact T.updateA (λ_ _ _=>T.intBits _ _ _ _) _ _ _
 ·rw [show Extern.allRows.lookup "sync/atomic.OrUint64" = some (Extern.Atomic.update (Op.intBits .or) .u64 false) from by kernel_rfl] at he
  cases he;exact T.updateA (λ_ _ _=>T.intBits _ _ _ _) _ _ _
 ·rw [show Extern.allRows.lookup "sync/atomic.LoadPointer" = some (Extern.Atomic.loadT .ptr) from by kernel_rfl] at he
  cases he;exact T.loadA _ _
 ·rw [show Extern.allRows.lookup "sync/atomic.StorePointer" = some (Extern.Atomic.storeT) from by kernel_rfl] at he
  cases he;exact T.storeA _
 ·rw [show Extern.allRows.lookup "sync/atomic.SwapPointer" = some (Extern.Atomic.swapT .ptr) from by kernel_rfl] at he
  cases he;exact T.swapA _ _
 ·rw [show Extern.allRows.lookup "sync/atomic.CompareAndSwapPointer" = some (Extern.Atomic.casT .ptr) from by kernel_rfl] at he
  cases he;exact T.casA _ _
 ·rw [show Extern.allRows.lookup "sync/atomic.LoadUint32" = some (Extern.Atomic.loadT (.int .u32)) from by kernel_rfl] at he
  cases he;exact T.loadA _ _
 ·rw [show Extern.allRows.lookup "sync/atomic.StoreUint32" = some (Extern.Atomic.storeT) from by kernel_rfl] at he
  cases he;exact T.storeA _
 ·rw [show Extern.allRows.lookup "sync/atomic.SwapUint32" = some (Extern.Atomic.swapT (.int .u32)) from by kernel_rfl] at he
  cases he;exact T.swapA _ _
 ·rw [show Extern.allRows.lookup "sync/atomic.CompareAndSwapUint32" = some (Extern.Atomic.casT (.int .u32)) from by kernel_rfl] at he
  cases he;exact T.casA _ _
theorem ext_of (hall:∀ (f:Nat) (fn:Func),P.funcs[f]?=some fn->fn.body=none->((fn.name∈extNames/\fn.origin = "")\/Extern.find fn=none)/\Extern.findNext fn=none) (hnum:mF P):Ext P:=λf fn hf hb=>by
 obtain⟨h1,h3⟩:=hall f fn hf hb;refine⟨hnum f fn hf,λargs=>⟨λe he=>(by rw[h3] at he;cases he),λe he=>?_⟩⟩
 rcases h1 with⟨h1,h2⟩ | h1
 ·rw [find_plain h1 h2] at he
  exact ext_rows _ h1 e he args
 ·rw [h1] at he;cases he
end
end Go.Tame
