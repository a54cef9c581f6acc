/- DERIVED. What the operations of a program do is tame (see Tame): the library's functions, then the operations. -/
import Derived.Test.YtlcplealnbekeaaGa
set_option linter.unusedVariables false
namespace Go.Tame
section
variable {P:Program}{α β:Type}
theorem T.pure (a:α):T P (Pure.pure a:Sem α):=R.pure a
theorem T.bind {m:Sem α}{f:α->Sem β}(h:T P m) (hf:∀ a,T P (f a)):T P (m >>= f):=R.bind h hf
theorem T.map {m:Sem α}{f:α->β}(h:T P m):T P (f <$> m):=R.bind h λ_=>R.pure _
theorem T.ite {c:Prop} [Decidable c] {m n:Sem α}(h:c->T P m) (h':¬c->T P n):T P (if c then m else n):=by
 by_cases hc:c
 ·rw [if_pos hc];exact h hc
 ·rw [if_neg hc];exact h' hc
theorem T.stuck (s:String):T P (Go.stuck s:Sem α):=R.cut trivial
theorem T.unsupported (u:Unsupported) (h:Cut (.unsupported u):=by exact trivial):T P (Go.unsupported u:Sem α):=R.cut h
theorem T.goPanic (v:Value):T P (Go.goPanic v:Sem α):=R.panic _
theorem T.program:T P Go.program:=R.program (R.pure _)
theorem T.load (a:Addr) (m:Mode):T P (Go.load a m):=R.load λ_=>R.pure _
theorem T.store (a:Addr) (v:Value) (m:Mode):T P (Go.store a v m):=R.store (R.pure _)
theorem T.newObj {o:Obj}(h:Vis o):T P (Go.newObj o):=R.new h λ_=>R.pure _
theorem T.shape (r:Nat):T P (Go.shape r):=R.shape λ_=>R.pure _
theorem T.getObjBind {r:Nat}{k:Obj->Sem α}(h:∀ o,T P (k o)) (h':∀ o,Hid o->R P (k (.deferred none)) (k o)):T P (Go.getObj r >>= k):=R.getObj (λo _=>h o) h'
theorem T.choose (q:Question):T P (Go.choose q):=R.choose λ_=>R.pure _
theorem T.noRoom:T P (Go.mark .noRoom):=R.mark (.inl rfl) (R.pure _)
theorem T.markExtern (f:FuncId):T P (Go.mark (.extern f)):=R.mark (.inr ⟨f,rfl⟩) (R.pure _)
theorem T.foldlM {σ:Type}{f:β->σ->Sem β}(hf:∀ b a,T P (f b a)):∀ (l:List σ) (b:β),T P (l.foldlM f b)
 | [],b=>T.pure b
 | a::l,b=>by rw[List.foldlM_cons];exact T.bind (hf b a) λc=>T.foldlM hf l c
theorem T.mapL {σ:Type}{f:σ->Sem β}(hf:∀ a,T P (f a)):∀ (l:List σ),T P (l.mapM f)
 | []=>by rw[List.mapM_nil];exact T.pure _
 | a::l=>by rw[List.mapM_cons];exact T.bind (hf a) λ_=>T.bind (T.mapL hf l) λ_=>T.pure _
theorem T.mapA {σ:Type}{f:σ->Sem β}(hf:∀ a,T P (f a)) (l:Array σ):T P (l.mapM f):=by
 rw[Array.mapM_eq_mapM_toList];exact T.map (T.mapL hf _)
theorem T.forL {σ:Type}{f:σ->β->Sem (ForInStep β)}(hf:∀ a b,T P (f a b)):∀ (l:List σ) (b:β),T P (forIn l b f)
 | [],b=>by simp only[List.forIn_nil];exact T.pure _
 | a::l,b=>by
   rw[List.forIn_cons];refine T.bind (hf a b) λs=>?_;cases s with
   | done b=>exact T.pure _
   | yield b=>exact T.forL hf l b
theorem T.forA {σ:Type}{f:σ->β->Sem (ForInStep β)}(hf:∀ a b,T P (f a b)) (l:Array σ) (b:β):T P (forIn l b f):=by
 rw[<-Array.forIn_toList];exact T.forL hf _ _
theorem T.forR {f:Nat->β->Sem (ForInStep β)}(hf:∀ a b,T P (f a b)) (r:Std.Legacy.Range) (b:β):T P (forIn r b f):=by
 rw[Std.Legacy.Range.forIn_eq_forIn_range'];exact T.forL hf _ _
theorem tq {p:Prop}(h:p:=by
 repeat' (first
  | assumption
  | exact T.unsupported _
  | (with_reducible first | exact T.pure _ | exact T.stuck _ | exact T.program | exact T.typeInfo _ | exact T.underlying _ | exact T.loadCellsFrom _ _ _ _ | exact T.load _ _ | exact T.sizeOf _ | exact T.isAgg _ | exact T.loadCells _ _ | exact T.storeCells _ _ _ | exact T.newRow _ _ | exact T.goPanic _ | exact T.newVar _ _ | exact T.elemOf _ | exact T.choose _ | exact T.runtimePanic _ | exact T.asIntOf _ | exact T.noRoom | exact T.numberAt _ | exact T.viewAt _ | exact T.shape _ | exact T.noView _ | exact T.byteOf _ | exact T.partAt _ _ _ | exact T.zeroValue _ | exact T.storeVar _ _ _ | exact T.loadVar _ _ | exact T.sureAddr _ | exact T.fieldPlace _ _ | exact T.boundsPanic _ _ _ _ | exact T.sliceBound _ _ _ | exact T.asAddr _ | exact T.sliceBounds _ _ _ _ _ _ | exact T.slice _ _ _ _ _ | exact T.asInt _ | exact T.askRoom _ | exact T.part _ _ _ | exact T.asAgg _ | exact T.intArith _ _ _ _ | exact T.intBits _ _ _ _ | exact T.floatArith _ _ _ _ | exact T.asBool _ | exact T.floatCmp _ _ _ _ | exact T.floatToFloat _ _ _ | exact T.cArith _ _ _ _ | exact T.cadd _ _ | exact T.csub _ _ | exact T.cmul _ _ | exact T.cCmp _ _ _ _ | exact T.cquo _ _ | exact T.cCorrected _ _ _ _ _ | exact T.cConv _ _ _ | exact T.cProduct _ _ _ _ | exact T.cQuotient _ _ _ _ | exact T.twoPlaces _ _ | exact T.asNumber _ _ | exact T.behindNumber _ | exact T.unsafeAdd _ _ _ _ | exact T.stringOp _ _ _ | exact T.lenOf _ | exact T.firstCells _ _ _ | exact T.sameAddr _ _ | exact T.equalIn _ _ _ _ | exact T.eqGuardIn _ _ _ _ | exact T.intDiv _ _ _ _ | exact T.shift _ _ _ _ _ | exact T.intCmp _ _ _ | exact T.complexOp _ _ _ _ _ _ | exact T.addrSub _ _ _ | exact T.addrCmp _ _ _ | exact T.addrMod _ _ _ | exact T.movedNumber _ _ _ | exact T.movedPointer _ _ _ | exact T.equal _ _ _ | exact T.get _ _ | exact T.ssaWrapNilChk _ _ _ _ | exact T.follow _ _ _ | exact T.receiverAt _ _ _ _)
  | (with_reducible refine T.bind ?_ λ_=>?_)
  | (with_reducible refine T.map ?_)
  | (with_reducible refine T.ite (λ_=>?_) (λ_=>?_))
  | intro _
  | split
  | dsimp only)):p:=h
theorem T.typeInfo (t:TypeId):T P (Go.typeInfo t):=by
 unfold Go.typeInfo;exact tq
theorem T.underlying (t:TypeId):T P (Go.underlying t):=by
 unfold Go.underlying;exact tq
theorem T.zeroValue (t:TypeId):T P (Go.zeroValue t):=by
 unfold Go.zeroValue;exact tq
theorem T.sizeOf (t:TypeId):T P (Go.sizeOf t):=by
 unfold Go.sizeOf;exact tq
theorem T.isAgg (t:TypeId):T P (Go.isAgg t):=by
 unfold Go.isAgg;exact tq
theorem T.loadCellsFrom (a:Addr):∀ (n i:Nat) (acc:Array Value),T P (Go.loadCellsFrom a i n acc)
 | 0,_,_=>T.pure _
 | n+1,i,acc=>T.bind (T.load _ _) λ_=>T.loadCellsFrom a n (i+1) _
theorem T.storeCells (a:Addr):∀ (vs:List Value) (i:Nat),T P (Go.storeCells a vs i)
 | [],_=>T.pure _
 | _::vs,i=>T.bind (T.store _ _ _) λ_=>T.storeCells a vs (i+1)
theorem T.loadCells (a:Addr) (n:Nat):T P (Go.loadCells a n):=by
 unfold Go.loadCells;exact tq
theorem T.loadVar (t:TypeId) (a:Addr):T P (Go.loadVar t a):=by
 unfold Go.loadVar;exact tq
theorem T.storeVar (t:TypeId) (a:Addr) (v:Value):T P (Go.storeVar t a v):=by
 unfold Go.storeVar;exact tq
theorem T.newRow (t:TypeId) (cs:Array Value):T P (Go.newRow t cs):=T.bind (T.newObj trivial) λ_=>T.pure _
theorem T.asNumber (a:Addr) (l:Bool):T P (Go.asNumber a l):=T.bind (T.newObj trivial) λ_=>T.pure _
theorem T.newVar (t:TypeId) (v:Value):T P (Go.newVar t v):=by
 unfold Go.newVar;exact tq
theorem T.elemOf (t:TypeId):T P (Go.elemOf t):=by
 unfold Go.elemOf;exact tq
theorem T.part (t:TypeId) (cs:Array Value) (o:Nat):T P (Go.part t cs o):=by
 unfold Go.part;exact tq
theorem T.runtimePanic (e:RuntimeError):T P ((Go.runtimePanic e:Sem α)):=by
 unfold Go.runtimePanic;exact tq
theorem T.boundsPanic (k:IntKind) (x y:Int) (c:BoundsCode):T P ((Go.boundsPanic k x y c:Sem α)):=by
 unfold Go.boundsPanic;exact tq
theorem T.asIntOf (v:Value):T P (Go.asIntOf v):=by
 unfold Go.asIntOf;exact tq
theorem T.asInt (v:Value):T P (Go.asInt v):=by
 unfold Go.asInt;exact tq
theorem T.asBool (v:Value):T P (Go.asBool v):=by
 unfold Go.asBool;exact tq
theorem T.asString (v:Value):T P (Go.asString v):=by
 unfold Go.asString;exact tq
theorem T.asAgg (v:Value):T P (Go.asAgg v):=by
 unfold Go.asAgg;exact tq
theorem T.asAddr (v:Value):T P (Go.asAddr v):=by
 unfold Go.asAddr;exact tq
theorem T.askRoom (n:Nat):T P (Go.askRoom n):=by
 unfold Go.askRoom;exact tq
theorem T.viewAt (r:Nat):T P (Go.viewAt r):=by
 unfold Go.viewAt
 repeat' (first
  | assumption
  | (with_reducible first | exact T.pure _ | exact R.pure _ | exact T.shape _)
  | (with_reducible refine T.getObjBind (λ_=>?_) (λ_ _=>?_))
  | (rename_i ho;cases ‹Obj› <;> first | exact False.elim ho | exact R.pure _ | exact R.cut (h:=.stuck _) trivial)
  | (with_reducible refine T.bind ?_ λ_=>?_)
  | (with_reducible refine T.ite (λ_=>?_) (λ_=>?_))
  | intro _
  | split
  | dsimp only)
theorem T.numberAt (r:Nat):T P (Go.numberAt r):=by
 unfold Go.numberAt
 repeat' (first
  | assumption
  | (with_reducible first | exact T.pure _ | exact R.pure _ | exact T.shape _)
  | (with_reducible refine T.getObjBind (λ_=>?_) (λ_ _=>?_))
  | (rename_i ho;cases ‹Obj› <;> first | exact False.elim ho | exact R.pure _ | exact R.cut (h:=.stuck _) trivial)
  | (with_reducible refine T.bind ?_ λ_=>?_)
  | (with_reducible refine T.ite (λ_=>?_) (λ_=>?_))
  | intro _
  | split
  | dsimp only)
theorem T.behindNumber (a:Addr):T P (Go.behindNumber a):=by
 unfold Go.behindNumber;exact tq
theorem T.noView (a:Addr):T P (Go.noView a):=by
 unfold Go.noView;exact tq
theorem T.byteOf (a:Addr):T P (Go.byteOf a):=by
 unfold Go.byteOf;exact tq
theorem T.partAt (a:Addr) (c b:Nat):T P (Go.partAt a c b):=by
 unfold Go.partAt;exact tq
theorem T.fieldPlace (a:Addr) (f:Field):T P (Go.fieldPlace a f):=by
 unfold Go.fieldPlace;exact tq
theorem T.alloc (t:TypeId) (b:Bool) (v:Value):T P (Instr.alloc t b v):=by
 unfold Instr.alloc;exact tq
theorem T.box (t:TypeId) (v:Value):T P (Instr.box t v):=by
 unfold Instr.box;exact tq
theorem T.sureAddr (v:Value):T P (Instr.sureAddr v):=by
 unfold Instr.sureAddr;exact tq
theorem T.loadAt (t:TypeId) (v:Value):T P (Instr.loadAt t v):=by
 unfold Instr.loadAt;exact tq
theorem T.storeAt (t:TypeId) (a v:Value):T P (Instr.storeAt t a v):=by
 unfold Instr.storeAt;exact tq
theorem T.fieldAt (t:TypeId) (v:Value) (i:Nat):T P (Instr.fieldAt t v i):=by
 unfold Instr.fieldAt;exact tq
theorem T.indexAt (t:TypeId) (x i:Value):T P (Instr.indexAt t x i):=by
 unfold Instr.indexAt;exact tq
theorem T.sliceBound (x:Value) (y:Nat) (c:BoundsCode):T P (Instr.sliceBound x y c):=by
 unfold Instr.sliceBound;exact tq
theorem T.sliceBounds (b:Bool) (l c:Nat) (x y z:Option Value):T P (Instr.sliceBounds b l c x y z):=by
 unfold Instr.sliceBounds;exact tq
theorem T.slice (t:TypeId) (v:Value) (x y z:Option Value):T P (Instr.slice t v x y z):=by
 unfold Instr.slice;exact tq
theorem T.sliceAt (t:TypeId) (v:Value) (x y z:Option Value):T P (Instr.sliceAt t v x y z):=by
 unfold Instr.sliceAt;exact tq
theorem T.makeInterface (t:TypeId) (v:Value):T P (Instr.makeInterface t v):=by
 unfold Instr.makeInterface;exact tq
theorem T.makeFunc (f:Fn) (x y:Array Value):T P (Instr.makeFunc f x y):=by
 unfold Instr.makeFunc;exact tq
theorem T.makeSlice (t:TypeId) (x y:Value):T P (Instr.makeSlice t x y):=by
 unfold Instr.makeSlice;exact tq
theorem T.field (t:TypeId) (v:Value) (i:Nat):T P (Instr.field t v i):=by
 unfold Instr.field;exact tq
theorem T.index (t:TypeId) (x i:Value):T P (Instr.index t x i):=by
 unfold Instr.index;exact tq
theorem T.extract (v:Value) (i:Nat):T P (Instr.extract v i):=by
 unfold Instr.extract;exact tq
theorem T.buildSlice (t:TypeId) (n:Nat) (ps:Array (Nat × Value)):T P (Instr.buildSlice t n ps):=by
 unfold Instr.buildSlice;exact tq
theorem T.build (t:TypeId) (ps:Array (Nat × Value)):T P (Instr.build t ps):=by
 unfold Instr.build
 repeat' (first
  | assumption
  | (with_reducible first | exact T.pure _ | exact T.stuck _ | exact T.underlying _ | exact T.zeroValue _ | exact T.sizeOf _)
  | (with_reducible refine T.mapA (λ_=>?_) _)
  | (with_reducible refine T.bind ?_ λ_=>?_)
  | intro _
  | split
  | dsimp only)
theorem T.intArith (o:BinOp) (k:IntKind) (x y:Int):T P (Op.intArith o k x y):=by
 unfold Op.intArith;exact tq
theorem T.intDiv (o:BinOp) (k:IntKind) (x y:Int):T P (Op.intDiv o k x y):=by
 unfold Op.intDiv;exact tq
theorem T.intBits (o:BinOp) (k:IntKind) (x y:Int):T P (Op.intBits o k x y):=by
 unfold Op.intBits;exact tq
theorem T.shift (o:BinOp) (k:IntKind) (x:Int) (k2:IntKind) (y:Int):T P (Op.shift o k x k2 y):=by
 unfold Op.shift;exact tq
theorem T.intCmp (o:BinOp) (x y:Int):T P (Op.intCmp o x y):=by
 unfold Op.intCmp;exact tq
theorem T.stringOp (o:BinOp) (x y:ByteArray):T P (Op.stringOp o x y):=by
 unfold Op.stringOp;exact tq
theorem T.unary (o:UnOp) (v:Value):T P (Op.unary o v):=by
 unfold Op.unary;exact tq
theorem T.floatArith (o:BinOp) (k:FloatKind) (x y:Nat):T P (Op.floatArith o k x y):=by
 unfold Op.floatArith;exact tq
theorem T.floatCmp (o:BinOp) (k:FloatKind) (x y:Nat):T P (Op.floatCmp o k x y):=by
 unfold Op.floatCmp;exact tq
theorem T.floatToInt (k:FloatKind) (x:Nat) (d:IntKind):T P (Conv.floatToInt k x d):=by
 unfold Conv.floatToInt;exact tq
theorem T.floatToFloat (k:FloatKind) (x:Nat) (d:FloatKind):T P (Conv.floatToFloat k x d):=by
 unfold Conv.floatToFloat;exact tq
theorem T.cArith (o:BinOp) (k:FloatKind) (x y:Nat):T P (Op.Complex.arith o k x y):=by
 unfold Op.Complex.arith;exact tq
theorem T.cCmp (o:BinOp) (k:FloatKind) (x y:Nat):T P (Op.Complex.cmp o k x y):=by
 unfold Op.Complex.cmp;exact tq
theorem T.cConv (k:FloatKind) (x:Nat) (d:FloatKind):T P (Op.Complex.conv k x d):=by
 unfold Op.Complex.conv;exact tq
theorem T.cadd (x y:Nat):T P (Op.Complex.add x y):=by
 unfold Op.Complex.add;exact tq
theorem T.csub (x y:Nat):T P (Op.Complex.sub x y):=by
 unfold Op.Complex.sub;exact tq
theorem T.cmul (x y:Nat):T P (Op.Complex.mul x y):=by
 unfold Op.Complex.mul;exact tq
theorem T.cquo (x y:Nat):T P (Op.Complex.quo x y):=by
 unfold Op.Complex.quo;exact tq
theorem T.cProduct (a b c d:Nat):T P (Op.Complex.product a b c d):=by
 unfold Op.Complex.product;exact tq
theorem T.cCorrected (s a b c d:Nat):T P (Op.Complex.corrected s a b c d):=by
 unfold Op.Complex.corrected;exact tq
theorem T.cQuotient (a b c d:Nat):T P (Op.Complex.quotient a b c d):=by
 unfold Op.Complex.quotient;exact tq
theorem T.complexOp (o:BinOp) (k:FloatKind) (a b c d:Nat):T P (Op.complexOp o k a b c d):=by
 unfold Op.complexOp;exact tq
theorem T.twoPlaces (a b:Addr):T P (Op.twoPlaces a b):=by
 unfold Op.twoPlaces;exact tq
theorem T.addrSub (k:IntKind) (a b:Addr):T P (Op.addrSub k a b):=by
 unfold Op.addrSub;exact tq
theorem T.addrCmp (o:BinOp) (a b:Addr):T P (Op.addrCmp o a b):=by
 unfold Op.addrCmp;exact tq
theorem T.addrMod (k:IntKind) (a:Addr) (n:Int):T P (Op.addrMod k a n):=by
 unfold Op.addrMod;exact tq
theorem T.unsafeAdd (x:Array TypeId) (t:TypeId) (u v:Value):T P (Builtin.unsafeAdd_ x t #[u,v]):=by
 unfold Builtin.unsafeAdd_;cases u <;> first | exact T.stuck _ | refine T.bind (T.asInt _) λn=>?_
 exact tq
theorem T.movedNumber (t:TypeId) (x y:Value):T P (Go.movedNumber t x y):=by
 unfold Go.movedNumber;exact tq
theorem T.movedPointer (t:TypeId) (x y:Value):T P (Go.movedPointer t x y):=by
 unfold Go.movedPointer;exact tq
theorem T.intToInt (k:IntKind) (n:Int):T P (Conv.intToInt k n):=by
 unfold Conv.intToInt;exact tq
theorem T.len (ts:Array TypeId) (t:TypeId) (vs:Array Value):T P (Builtin.len_ ts t vs):=by
 unfold Builtin.len_
 repeat' (first
  | assumption
  | (with_reducible first | exact T.pure _ | exact R.pure _ | exact T.stuck _ | exact T.underlying _)
  | (with_reducible refine T.getObjBind (λ_=>?_) (λ_ _=>?_))
  | (rename_i ho;cases ‹Obj› <;> first | exact False.elim ho | exact R.pure _ | exact R.cut (h:=.stuck _) trivial)
  | (with_reducible refine T.bind ?_ λ_=>?_)
  | intro _
  | split
  | dsimp only)
theorem T.cap (ts:Array TypeId) (t:TypeId) (vs:Array Value):T P (Builtin.cap_ ts t vs):=by
 unfold Builtin.cap_
 repeat' (first
  | assumption
  | (with_reducible first | exact T.pure _ | exact R.pure _ | exact T.stuck _ | exact T.underlying _)
  | (with_reducible refine T.getObjBind (λ_=>?_) (λ_ _=>?_))
  | (rename_i ho;cases ‹Obj› <;> first | exact False.elim ho | exact R.pure _ | exact R.cut (h:=.stuck _) trivial)
  | (with_reducible refine T.bind ?_ λ_=>?_)
  | intro _
  | split
  | dsimp only)
theorem T.max2 (x y:Value):T P (Builtin.max2 x y):=by
 unfold Builtin.max2;exact tq
theorem T.min2 (x y:Value):T P (Builtin.min2 x y):=by
 unfold Builtin.min2;exact tq
theorem T.max (ts:Array TypeId) (t:TypeId) (vs:Array Value):T P (Builtin.max_ ts t vs):=by
 unfold Builtin.max_
 repeat' (first
  | assumption
  | (with_reducible first | exact T.stuck _ | exact T.max2 _ _)
  | (with_reducible refine T.foldlM (λ_ _=>?_) _ _)
  | intro _
  | split
  | dsimp only)
theorem T.min (ts:Array TypeId) (t:TypeId) (vs:Array Value):T P (Builtin.min_ ts t vs):=by
 unfold Builtin.min_
 repeat' (first
  | assumption
  | (with_reducible first | exact T.stuck _ | exact T.min2 _ _)
  | (with_reducible refine T.foldlM (λ_ _=>?_) _ _)
  | intro _
  | split
  | dsimp only)
theorem T.lenOf (v:Value):T P (Builtin.lenOf v):=by
 unfold Builtin.lenOf;exact tq
theorem T.firstCells (a b:Nat) (v:Value):T P (Builtin.firstCells a b v):=by
 unfold Builtin.firstCells;exact tq
theorem T.copy (ts:Array TypeId) (t:TypeId) (vs:Array Value):T P (Builtin.copy_ ts t vs):=by
 unfold Builtin.copy_;exact tq
theorem T.holdsCells (a:Addr) (n:Nat):T P (Builtin.holdsCells a n):=by
 unfold Builtin.holdsCells;exact tq
inductive Rd:{α:Type}->Sem α->Prop
 | pure {α:Type}(a:α):Rd (.pure a)
 | shape {α:Type}{r:Nat}{k:Option (TypeId × Nat)->Sem α}(h:∀ s,Rd (k s)):Rd (.shape r k)
 | frozen {α:Type}{a:Addr}{k:Bool->Sem α}(h:∀ b,Rd (k b)):Rd (.frozen a k)
theorem Rd.bind {m:Sem α}{f:α->Sem β}(h:Rd m) (hf:∀ a,Rd (f a)):Rd (m >>= f):=by
 change Rd (m.bind f)
 induction h with
 | pure a=>exact hf a
 | shape _ ih=>exact .shape λs=>ih s
 | frozen _ ih=>exact .frozen λs=>ih s
theorem Rd.right {γ:Type}{m':Sem β}(h':Rd m') {f:Sem γ}{g:β->Sem γ}(hf:∀ b,R P f (g b)):R P f (m' >>= g):=by
 change R P f (m'.bind g)
 induction h' with
 | pure a=>exact hf a
 | shape _ ih=>exact .shapeR λs=>ih s
 | frozen _ ih=>exact .frozenR λs=>ih s
theorem Rd.both {γ:Type}{m:Sem α}{m':Sem β}(h:Rd m) (h':Rd m') {f:α->Sem γ}{g:β->Sem γ}(hf:∀ a b,R P (f a) (g b)):R P (m >>= f) (m' >>= g):=by
 change R P (m.bind f) _
 induction h with
 | pure a=>exact h'.right (hf a)
 | shape _ ih=>exact .shapeL λs=>ih s
 | frozen _ ih=>exact .frozenL λs=>ih s
theorem Rd.mayShare (s l n:Nat) (b:Option Addr) (v:Value):Rd (Builtin.mayShare s l n b v):=by
 unfold Builtin.mayShare Builtin.holdsCells
 repeat' (first
  | (with_reducible exact Rd.pure _)
  | exact Rd.shape λ_=>Rd.pure _
  | exact Rd.frozen λ_=>Rd.pure _
  | (with_reducible refine Rd.bind ?_ λ_=>?_)
  | split
  | exact Rd.pure _
  | dsimp only)
def Mo (P:Program) (m m':Sem Bool):Prop:=∀ {γ:Type}(f g:Bool->Sem γ),(∀ b b',(b'=true->b=true)->R P (f b) (g b'))->R P (m >>= f) (m' >>= g)
theorem Mo.stringish (a:Addr):Mo P (Go.stringish a) (Go.stringish a):=by
 intro γ f g hf;refine R.frozen (λb=>?_) ?_
 ·cases b with
  | true=>exact hf true true (λ_=>rfl)
  | false =>
    refine R.shape λs=>?_
    rcases s with _ | ⟨_,n⟩
    ·exact hf false false id
    ·exact R.frozen (λb=>hf b b id) (hf true false (λ_=>rfl))
 ·refine R.shapeR λs=>?_
  rcases s with _ | ⟨_,n⟩
  ·exact hf true false (λ_=>rfl)
  ·exact R.frozenR λb=>hf true b (λ_=>rfl)
theorem Mo.mayBeOne (a b:Addr):Mo P (Go.mayBeOne a b) (Go.mayBeOne a b):=by
 intro γ f g hf;unfold Go.mayBeOne;simp only[bind_assoc];refine Mo.stringish a _ _ λsa sa' ha=>Mo.stringish b _ _ λsb sb' hb=>?_;refine R.shape λs=>R.shape λt=>hf _ _ ?_;cases sa <;> cases sb <;> cases sa' <;> cases sb' <;> simp_all
theorem T.sameAddr (a b:Addr):T P (Go.sameAddr a b):=by
 unfold Go.sameAddr
 split
 ·exact T.pure _
 have rest:T P (do
   Go.noView a
   Go.noView b
   if <-Go.mayBeOne a b then return (<-Go.choose (.extern "sameAddr.stringBytes" 2))==1
   Pure.pure false:Sem Bool):=by
  refine T.bind (T.noView _) λ_=>T.bind (T.noView _) λ_=>?_;refine Mo.mayBeOne a b _ _ λx y h=>?_;cases x <;> cases y
  ·exact R.pure _
  ·exact absurd (h rfl) (by simp)
  ·exact R.extra 0 rfl (R.pure _)
  ·exact R.choose λ_=>R.pure _
 have key:∀ (fa fb ga gb:Bool),(ga=true->fa=true)->(gb=true->fb=true)->∀ K:Sem Bool,T P K->R P (if (fa && fb)=true then(Go.unsupported .addressObserved:Sem Bool) else K) (if (ga && gb)=true then(Go.unsupported .addressObserved:Sem Bool) else K):=by
  intro fa fb ga gb h1 h2 K hK;cases fa <;> cases fb <;> cases ga <;> cases gb <;> first | exact hK | exact R.cut (h:=.unsupported _) trivial |(simp at h1 h2)
 refine R.frozen (λx=>R.frozen (λy=>?_) ?_) (R.frozen (λy=>?_) ?_)
 ·cases x <;> cases y <;> first | exact rest | exact R.cut (h:=.unsupported _) trivial
 ·cases x <;> first | exact rest | exact R.cut (h:=.unsupported _) trivial
 ·cases y <;> first | exact rest | exact R.cut (h:=.unsupported _) trivial
 ·exact R.cut (h:=.unsupported _) trivial
theorem T.samePointer (a b:Option Addr):T P (Go.samePointer a b):=by
 unfold Go.samePointer;exact tq
theorem T.typeStr (t:TypeId):T P (Go.typeStr t):=by
 unfold Go.typeStr;exact tq
theorem T.equalIn:∀ (d:Nat) (t:TypeId) (x y:Value),T P (Op.equalIn d t x y):=by
 intro d
 induction d with
 | zero=>intro t x y;exact T.unsupported _
 | succ d ih =>
   intro t x y;unfold Op.equalIn
   repeat' (first
    | assumption
    | exact T.unsupported _
    | (with_reducible first | exact T.pure _ | exact T.stuck _ | exact T.program | exact T.choose _ | exact T.typeInfo _ | exact T.underlying _ | exact T.sizeOf _ | exact T.part _ _ _ | exact T.runtimePanic _ | exact T.behindNumber _ | exact T.byteOf _ | exact T.sameAddr _ _ | exact T.samePointer _ _ | exact T.typeStr _)
    | (with_reducible refine T.forA (λ_ _=>?_) _ _)
    | (with_reducible refine T.forR (λ_ _=>?_) _ _)
    | exact ih _ _ _
       | (with_reducible refine T.bind ?_ λ_=>?_)
      | (with_reducible refine T.ite (λ_=>?_) (λ_=>?_))
    | intro _
    | split
    | dsimp only)
theorem T.eqGuardIn:∀ (d:Nat) (t:TypeId) (x y:Value),T P (Op.eqGuardIn d t x y):=by
 intro d
 induction d with
 | zero=>intro t x y;exact T.unsupported _
 | succ d ih =>
   intro t x y;unfold Op.eqGuardIn
   repeat' (first
    | assumption
    | exact T.unsupported _
    | (with_reducible first | exact T.pure _ | exact T.underlying _ | exact T.sizeOf _ | exact T.part _ _ _)
    | (with_reducible refine T.forA (λ_ _=>?_) _ _)
    | (with_reducible refine T.forR (λ_ _=>?_) _ _)
    | exact ih _ _ _
       | (with_reducible refine T.bind ?_ λ_=>?_)
      | (with_reducible refine T.ite (λ_=>?_) (λ_=>?_))
    | intro _
    | split
    | dsimp only)
theorem T.equal (t:TypeId) (x y:Value):T P (Op.equal t x y):=by
 unfold Op.equal;exact tq
theorem T.eqGuard (o:BinOp) (t:TypeId) (x y:Operand) (a b:Value):T P (Go.eqGuard o t x y a b):=by
 unfold Go.eqGuard;exact tq
theorem T.binOp (o:BinOp) (t:TypeId) (x y:Value):T P (Go.binOp o t x y):=by
 unfold Go.binOp;exact tq
theorem T.typeAssert (x:Value) (t u:TypeId) (b:Bool):T P (Instr.typeAssert x t u b):=by
 unfold Instr.typeAssert;exact tq
theorem T.panicnil:T P Instr.panicnil:=by
 unfold Instr.panicnil;refine T.bind (R.env λ_=>R.pure _) λr=>?_
 split
 ·exact T.bind T.program λ_=>T.pure _
 ·exact T.stuck _
theorem T.panic (x:Value):T P (Instr.panic x):=by
 unfold Instr.panic
 repeat' (first
  | assumption
  | (with_reducible first | exact T.stuck _ | exact T.goPanic _ | exact T.runtimePanic _)
  | exact T.panicnil
  | (with_reducible refine T.bind ?_ λ_=>?_)
  | (with_reducible refine T.ite (λ_=>?_) (λ_=>?_))
  | intro _
  | split
  | dsimp only)
theorem T.append (ts:Array TypeId) (t:TypeId) (vs:Array Value):T P (Builtin.append_ ts t vs):=by
 unfold Builtin.append_
 split
 ·refine T.bind (T.underlying _) λd=>?_
  split
  ·split
   ·refine T.bind (T.sizeOf _) λsize=>?_
    extract_lets jp0 jp
    have h0:∀ z,jp0 z=(.halt (.unsupported (.resourceLimit "append: a slice or a string whose bytes no memory bears"))):=λ_=>rfl
    clear_value jp0
    have h1:∀ z,T P (jp z):=by
     intro zeros
     dsimp -zeta only [jp]
     extract_lets jp2
     have h2:∀ n,T P (jp2 n):=by
      intro n
      dsimp -zeta only [jp2]
      extract_lets app need
      have h3:T P app:=by
       dsimp only[app]
       repeat' (first | assumption | exact T.unsupported _ |(with_reducible first | exact T.pure _ | exact R.pure _ | exact T.stuck _ | exact T.goPanic _ | exact T.program | exact T.load _ _ | exact T.store _ _ _ | exact T.shape _ | exact T.choose _ | exact T.noRoom | exact T.markExtern _ | exact T.typeInfo _ | exact T.underlying _ | exact T.zeroValue _ | exact T.sizeOf _ | exact T.isAgg _ | exact T.loadCellsFrom _ _ _ _ | exact T.storeCells _ _ _ | exact T.loadCells _ _ | exact T.loadVar _ _ | exact T.storeVar _ _ _ | exact T.newRow _ _ | exact T.asNumber _ _ | exact T.newVar _ _ | exact T.elemOf _ | exact T.part _ _ _ | exact T.runtimePanic _ | exact T.boundsPanic _ _ _ _ | exact T.asIntOf _ | exact T.asInt _ | exact T.asBool _ | exact T.asString _ | exact T.asAgg _ | exact T.asAddr _ | exact T.askRoom _ | exact T.viewAt _ | exact T.numberAt _ | exact T.behindNumber _ | exact T.noView _ | exact T.byteOf _ | exact T.partAt _ _ _ | exact T.fieldPlace _ _ | exact T.alloc _ _ _ | exact T.box _ _ | exact T.sureAddr _ | exact T.loadAt _ _ | exact T.storeAt _ _ _ | exact T.fieldAt _ _ _ | exact T.indexAt _ _ _ | exact T.sliceBound _ _ _ | exact T.sliceBounds _ _ _ _ _ _ | exact T.slice _ _ _ _ _ | exact T.sliceAt _ _ _ _ _ | exact T.makeInterface _ _ | exact T.makeFunc _ _ _ | exact T.makeSlice _ _ _ | exact T.field _ _ _ | exact T.index _ _ _ | exact T.extract _ _ | exact T.buildSlice _ _ _ | exact T.build _ _ | exact T.intArith _ _ _ _ | exact T.intDiv _ _ _ _ | exact T.intBits _ _ _ _ | exact T.shift _ _ _ _ _ | exact T.intCmp _ _ _ | exact T.stringOp _ _ _ | exact T.unary _ _ | exact T.floatArith _ _ _ _ | exact T.floatCmp _ _ _ _ | exact T.floatToInt _ _ _ | exact T.floatToFloat _ _ _ | exact T.cArith _ _ _ _ | exact T.cCmp _ _ _ _ | exact T.cConv _ _ _ | exact T.cadd _ _ | exact T.csub _ _ | exact T.cmul _ _ | exact T.cquo _ _ | exact T.cProduct _ _ _ _ | exact T.cCorrected _ _ _ _ _ | exact T.cQuotient _ _ _ _ | exact T.complexOp _ _ _ _ _ _ | exact T.twoPlaces _ _ | exact T.addrSub _ _ _ | exact T.addrCmp _ _ _ | exact T.addrMod _ _ _ | exact T.unsafeAdd _ _ _ _ | exact T.movedNumber _ _ _ | exact T.movedPointer _ _ _ | exact T.intToInt _ _ | exact T.len _ _ _ | exact T.cap _ _ _ | exact T.max2 _ _ | exact T.min2 _ _ | exact T.max _ _ _ | exact T.min _ _ _ | exact T.lenOf _ | exact T.firstCells _ _ _ | exact T.copy _ _ _ | exact T.holdsCells _ _ | exact T.sameAddr _ _ | exact T.samePointer _ _ | exact T.typeStr _ | exact T.equalIn _ _ _ _ | exact T.eqGuardIn _ _ _ _ | exact T.equal _ _ _ | exact T.eqGuard _ _ _ _ _ _ | exact T.binOp _ _ _ _ | exact T.typeAssert _ _ _ _ | exact T.panic _) |(with_reducible refine T.getObjBind (λ_=>?_) (λ_ _=>?_)) |(rename_i ho;cases ‹Obj› <;> first | exact False.elim ho | exact R.pure _ | exact R.cut (h:=.stuck _) trivial) |(with_reducible refine T.bind ?_ λ_=>?_) |(with_reducible refine T.map ?_) |(with_reducible refine T.ite (λ_=>?_) (λ_=>?_)) | intro _ | split | dsimp only) 
      clear_value app need
      repeat' (first | assumption | exact T.unsupported _ |(with_reducible first | exact T.pure _ | exact R.pure _ | exact T.stuck _ | exact T.goPanic _ | exact T.program | exact T.load _ _ | exact T.store _ _ _ | exact T.shape _ | exact T.choose _ | exact T.noRoom | exact T.markExtern _ | exact T.typeInfo _ | exact T.underlying _ | exact T.zeroValue _ | exact T.sizeOf _ | exact T.isAgg _ | exact T.loadCellsFrom _ _ _ _ | exact T.storeCells _ _ _ | exact T.loadCells _ _ | exact T.loadVar _ _ | exact T.storeVar _ _ _ | exact T.newRow _ _ | exact T.asNumber _ _ | exact T.newVar _ _ | exact T.elemOf _ | exact T.part _ _ _ | exact T.runtimePanic _ | exact T.boundsPanic _ _ _ _ | exact T.asIntOf _ | exact T.asInt _ | exact T.asBool _ | exact T.asString _ | exact T.asAgg _ | exact T.asAddr _ | exact T.askRoom _ | exact T.viewAt _ | exact T.numberAt _ | exact T.behindNumber _ | exact T.noView _ | exact T.byteOf _ | exact T.partAt _ _ _ | exact T.fieldPlace _ _ | exact T.alloc _ _ _ | exact T.box _ _ | exact T.sureAddr _ | exact T.loadAt _ _ | exact T.storeAt _ _ _ | exact T.fieldAt _ _ _ | exact T.indexAt _ _ _ | exact T.sliceBound _ _ _ | exact T.sliceBounds _ _ _ _ _ _ | exact T.slice _ _ _ _ _ | exact T.sliceAt _ _ _ _ _ | exact T.makeInterface _ _ | exact T.makeFunc _ _ _ | exact T.makeSlice _ _ _ | exact T.field _ _ _ | exact T.index _ _ _ | exact T.extract _ _ | exact T.buildSlice _ _ _ | exact T.build _ _ | exact T.intArith _ _ _ _ | exact T.intDiv _ _ _ _ | exact T.intBits _ _ _ _ | exact T.shift _ _ _ _ _ | exact T.intCmp _ _ _ | exact T.stringOp _ _ _ | exact T.unary _ _ | exact T.floatArith _ _ _ _ | exact T.floatCmp _ _ _ _ | exact T.floatToInt _ _ _ | exact T.floatToFloat _ _ _ | exact T.cArith _ _ _ _ | exact T.cCmp _ _ _ _ | exact T.cConv _ _ _ | exact T.cadd _ _ | exact T.csub _ _ | exact T.cmul _ _ | exact T.cquo _ _ | exact T.cProduct _ _ _ _ | exact T.cCorrected _ _ _ _ _ | exact T.cQuotient _ _ _ _ | exact T.complexOp _ _ _ _ _ _ | exact T.twoPlaces _ _ | exact T.addrSub _ _ _ | exact T.addrCmp _ _ _ | exact T.addrMod _ _ _ | exact T.unsafeAdd _ _ _ _ | exact T.movedNumber _ _ _ | exact T.movedPointer _ _ _ | exact T.intToInt _ _ | exact T.len _ _ _ | exact T.cap _ _ _ | exact T.max2 _ _ | exact T.min2 _ _ | exact T.max _ _ _ | exact T.min _ _ _ | exact T.lenOf _ | exact T.firstCells _ _ _ | exact T.copy _ _ _ | exact T.holdsCells _ _ | exact T.sameAddr _ _ | exact T.samePointer _ _ | exact T.typeStr _ | exact T.equalIn _ _ _ _ | exact T.eqGuardIn _ _ _ _ | exact T.equal _ _ _ | exact T.eqGuard _ _ _ _ _ _ | exact T.binOp _ _ _ _ | exact T.typeAssert _ _ _ _ | exact T.panic _) |(refine Rd.both (Rd.mayShare _ _ _ _ _) (Rd.mayShare _ _ _ _ _) (λa b=>?_);simp only[h0];cases a <;> cases b <;> first | exact R.skip (R.cut (h:=.unsupported _) trivial) | exact R.cut (h:=.unsupported _) trivial) |(with_reducible refine T.getObjBind (λ_=>?_) (λ_ _=>?_)) |(rename_i ho;cases ‹Obj› <;> first | exact False.elim ho | exact R.pure _ | exact R.cut (h:=.stuck _) trivial) |(with_reducible refine T.bind ?_ λ_=>?_) |(with_reducible refine T.map ?_) |(with_reducible refine T.ite (λ_=>?_) (λ_=>?_)) | intro _ | split | dsimp only) 
     clear_value jp2
     repeat' (first | assumption | exact T.unsupported _ |(with_reducible first | exact T.pure _ | exact R.pure _ | exact T.stuck _ | exact T.goPanic _ | exact T.program | exact T.load _ _ | exact T.store _ _ _ | exact T.shape _ | exact T.choose _ | exact T.noRoom | exact T.markExtern _ | exact T.typeInfo _ | exact T.underlying _ | exact T.zeroValue _ | exact T.sizeOf _ | exact T.isAgg _ | exact T.loadCellsFrom _ _ _ _ | exact T.storeCells _ _ _ | exact T.loadCells _ _ | exact T.loadVar _ _ | exact T.storeVar _ _ _ | exact T.newRow _ _ | exact T.asNumber _ _ | exact T.newVar _ _ | exact T.elemOf _ | exact T.part _ _ _ | exact T.runtimePanic _ | exact T.boundsPanic _ _ _ _ | exact T.asIntOf _ | exact T.asInt _ | exact T.asBool _ | exact T.asString _ | exact T.asAgg _ | exact T.asAddr _ | exact T.askRoom _ | exact T.viewAt _ | exact T.numberAt _ | exact T.behindNumber _ | exact T.noView _ | exact T.byteOf _ | exact T.partAt _ _ _ | exact T.fieldPlace _ _ | exact T.alloc _ _ _ | exact T.box _ _ | exact T.sureAddr _ | exact T.loadAt _ _ | exact T.storeAt _ _ _ | exact T.fieldAt _ _ _ | exact T.indexAt _ _ _ | exact T.sliceBound _ _ _ | exact T.sliceBounds _ _ _ _ _ _ | exact T.slice _ _ _ _ _ | exact T.sliceAt _ _ _ _ _ | exact T.makeInterface _ _ | exact T.makeFunc _ _ _ | exact T.makeSlice _ _ _ | exact T.field _ _ _ | exact T.index _ _ _ | exact T.extract _ _ | exact T.buildSlice _ _ _ | exact T.build _ _ | exact T.intArith _ _ _ _ | exact T.intDiv _ _ _ _ | exact T.intBits _ _ _ _ | exact T.shift _ _ _ _ _ | exact T.intCmp _ _ _ | exact T.stringOp _ _ _ | exact T.unary _ _ | exact T.floatArith _ _ _ _ | exact T.floatCmp _ _ _ _ | exact T.floatToInt _ _ _ | exact T.floatToFloat _ _ _ | exact T.cArith _ _ _ _ | exact T.cCmp _ _ _ _ | exact T.cConv _ _ _ | exact T.cadd _ _ | exact T.csub _ _ | exact T.cmul _ _ | exact T.cquo _ _ | exact T.cProduct _ _ _ _ | exact T.cCorrected _ _ _ _ _ | exact T.cQuotient _ _ _ _ | exact T.complexOp _ _ _ _ _ _ | exact T.twoPlaces _ _ | exact T.addrSub _ _ _ | exact T.addrCmp _ _ _ | exact T.addrMod _ _ _ | exact T.unsafeAdd _ _ _ _ | exact T.movedNumber _ _ _ | exact T.movedPointer _ _ _ | exact T.intToInt _ _ | exact T.len _ _ _ | exact T.cap _ _ _ | exact T.max2 _ _ | exact T.min2 _ _ | exact T.max _ _ _ | exact T.min _ _ _ | exact T.lenOf _ | exact T.firstCells _ _ _ | exact T.copy _ _ _ | exact T.holdsCells _ _ | exact T.sameAddr _ _ | exact T.samePointer _ _ | exact T.typeStr _ | exact T.equalIn _ _ _ _ | exact T.eqGuardIn _ _ _ _ | exact T.equal _ _ _ | exact T.eqGuard _ _ _ _ _ _ | exact T.binOp _ _ _ _ | exact T.typeAssert _ _ _ _ | exact T.panic _) | exact h2 _ |(with_reducible refine T.getObjBind (λ_=>?_) (λ_ _=>?_)) |(rename_i ho;cases ‹Obj› <;> first | exact False.elim ho | exact R.pure _ | exact R.cut (h:=.stuck _) trivial) |(with_reducible refine T.bind ?_ λ_=>?_) |(with_reducible refine T.map ?_) |(with_reducible refine T.ite (λ_=>?_) (λ_=>?_)) | intro _ | split | dsimp only) 
    clear_value jp
    repeat' (first | assumption | exact T.unsupported _ |(with_reducible first | exact T.pure _ | exact R.pure _ | exact T.stuck _ | exact T.goPanic _ | exact T.program | exact T.load _ _ | exact T.store _ _ _ | exact T.shape _ | exact T.choose _ | exact T.noRoom | exact T.markExtern _ | exact T.typeInfo _ | exact T.underlying _ | exact T.zeroValue _ | exact T.sizeOf _ | exact T.isAgg _ | exact T.loadCellsFrom _ _ _ _ | exact T.storeCells _ _ _ | exact T.loadCells _ _ | exact T.loadVar _ _ | exact T.storeVar _ _ _ | exact T.newRow _ _ | exact T.asNumber _ _ | exact T.newVar _ _ | exact T.elemOf _ | exact T.part _ _ _ | exact T.runtimePanic _ | exact T.boundsPanic _ _ _ _ | exact T.asIntOf _ | exact T.asInt _ | exact T.asBool _ | exact T.asString _ | exact T.asAgg _ | exact T.asAddr _ | exact T.askRoom _ | exact T.viewAt _ | exact T.numberAt _ | exact T.behindNumber _ | exact T.noView _ | exact T.byteOf _ | exact T.partAt _ _ _ | exact T.fieldPlace _ _ | exact T.alloc _ _ _ | exact T.box _ _ | exact T.sureAddr _ | exact T.loadAt _ _ | exact T.storeAt _ _ _ | exact T.fieldAt _ _ _ | exact T.indexAt _ _ _ | exact T.sliceBound _ _ _ | exact T.sliceBounds _ _ _ _ _ _ | exact T.slice _ _ _ _ _ | exact T.sliceAt _ _ _ _ _ | exact T.makeInterface _ _ | exact T.makeFunc _ _ _ | exact T.makeSlice _ _ _ | exact T.field _ _ _ | exact T.index _ _ _ | exact T.extract _ _ | exact T.buildSlice _ _ _ | exact T.build _ _ | exact T.intArith _ _ _ _ | exact T.intDiv _ _ _ _ | exact T.intBits _ _ _ _ | exact T.shift _ _ _ _ _ | exact T.intCmp _ _ _ | exact T.stringOp _ _ _ | exact T.unary _ _ | exact T.floatArith _ _ _ _ | exact T.floatCmp _ _ _ _ | exact T.floatToInt _ _ _ | exact T.floatToFloat _ _ _ | exact T.cArith _ _ _ _ | exact T.cCmp _ _ _ _ | exact T.cConv _ _ _ | exact T.cadd _ _ | exact T.csub _ _ | exact T.cmul _ _ | exact T.cquo _ _ | exact T.cProduct _ _ _ _ | exact T.cCorrected _ _ _ _ _ | exact T.cQuotient _ _ _ _ | exact T.complexOp _ _ _ _ _ _ | exact T.twoPlaces _ _ | exact T.addrSub _ _ _ | exact T.addrCmp _ _ _ | exact T.addrMod _ _ _ | exact T.unsafeAdd _ _ _ _ | exact T.movedNumber _ _ _ | exact T.movedPointer _ _ _ | exact T.intToInt _ _ | exact T.len _ _ _ | exact T.cap _ _ _ | exact T.max2 _ _ | exact T.min2 _ _ | exact T.max _ _ _ | exact T.min _ _ _ | exact T.lenOf _ | exact T.firstCells _ _ _ | exact T.copy _ _ _ | exact T.holdsCells _ _ | exact T.sameAddr _ _ | exact T.samePointer _ _ | exact T.typeStr _ | exact T.equalIn _ _ _ _ | exact T.eqGuardIn _ _ _ _ | exact T.equal _ _ _ | exact T.eqGuard _ _ _ _ _ _ | exact T.binOp _ _ _ _ | exact T.typeAssert _ _ _ _ | exact T.panic _) | exact h1 _ |(with_reducible refine T.getObjBind (λ_=>?_) (λ_ _=>?_)) |(rename_i ho;cases ‹Obj› <;> first | exact False.elim ho | exact R.pure _ | exact R.cut (h:=.stuck _) trivial) |(with_reducible refine T.bind ?_ λ_=>?_) |(with_reducible refine T.map ?_) |(with_reducible refine T.ite (λ_=>?_) (λ_=>?_)) | intro _ | split | dsimp only) 
   ·exact T.stuck _
  ·exact T.stuck _
 ·exact T.stuck _
theorem T.follow:∀ (l:List FieldStep) (t:TypeId) (x:Place),T P (Go.follow l t x):=by
 intro l
 induction l with
 | nil=>intro t x;exact T.pure _
 | cons s l ih =>
   intro t x
   have hg:∀ t x,T P (Place.get t x):=by
    intro t x;cases x
    ·exact T.pure _
    ·exact T.loadVar _ _
   unfold Go.follow
   repeat' (first
    | assumption
      | (with_reducible first | exact T.pure _ | exact T.stuck _ | exact T.underlying _ | exact T.loadVar _ _ | exact T.part _ _ _ | exact T.asAddr _ | exact T.fieldPlace _ _)
    | exact ih _ _
    | exact hg _ _
       | (with_reducible refine T.bind ?_ λ_=>?_)
      | (with_reducible refine T.ite (λ_=>?_) (λ_=>?_))
    | intro _
    | split
    | dsimp only)
theorem T.get (t:TypeId) (x:Place):T P (Place.get t x):=by
 cases x
 ·exact T.pure _
 ·exact T.loadVar _ _
theorem T.ssaWrapNilChk (t:TypeId) (v:Value) (a b:String):T P (Builtin.ssaWrapNilChk_ #[t] t #[v,strVal a,strVal b]):=by
 cases v
 case pointer p =>
  cases p with
  | some a=>exact T.pure _
  | none =>
    refine T.bind (T.choose _) λn=>?_
    repeat' (first
     | assumption
     | exact T.unsupported _
     | (with_reducible first | exact T.pure _ | exact T.stuck _ | exact T.choose _ | exact T.typeInfo _ | exact T.underlying _ | exact T.runtimePanic _)
     | exact T.typeInfo _
             | (with_reducible refine T.bind ?_ λ_=>?_)
        | (with_reducible refine T.ite (λ_=>?_) (λ_=>?_))
     | intro _
     | split
     | dsimp only)
 all_goals exact T.stuck _
theorem T.receiverAt (t:TypeId) (x:Place) (b:Bool) (s:Option String):T P (Go.receiverAt t x b s):=by
 unfold Go.receiverAt;exact tq
theorem T.receiverVia (t:TypeId) (v:Value) (p:Array FieldStep) (b:Bool):T P (Go.receiverVia t v p b):=by
 unfold Go.receiverVia;exact tq
theorem T.method:∀ (n:Nat) (t:TypeId) (v:Value) (s:String),T P (Go.method n t v s):=by
 intro n
 induction n with
 | zero=>intro t v s;exact T.unsupported _
 | succ n ih =>
   intro t v s;unfold Go.method
   repeat' (first
    | assumption
    | exact T.unsupported _
    | (with_reducible first | exact T.pure _ | exact T.stuck _ | exact T.typeInfo _ | exact T.runtimePanic _ | exact T.follow _ _ _ | exact T.get _ _ | exact T.receiverAt _ _ _ _)
    | exact ih _ _ _
       | (with_reducible refine T.bind ?_ λ_=>?_)
       | intro _
    | split
    | dsimp only)
theorem T.followBlind:∀ (l:List FieldStep) (t:TypeId) (x:Option Value),T P (Go.followBlind l t x):=by
 intro l
 induction l with
 | nil=>intro t x;exact T.pure _
 | cons s l ih =>
   intro t x;unfold Go.followBlind
   repeat' (first
    | assumption
      | (with_reducible first | exact T.pure _ | exact T.stuck _ | exact T.underlying _ | exact T.part _ _ _)
    | exact ih _ _
       | (with_reducible refine T.bind ?_ λ_=>?_)
       | intro _
    | split
    | dsimp only)
theorem T.nilAhead:∀ (n:Nat) (t:TypeId) (v:Value) (s:String),T P (Go.nilAhead n t v s):=by
 intro n
 induction n with
 | zero=>intro t v s;exact T.pure _
 | succ n ih =>
   intro t v s;unfold Go.nilAhead
   repeat' (first
    | assumption
      | (with_reducible first | exact T.pure _ | exact T.stuck _ | exact T.typeInfo _ | exact T.underlying _)
    | exact ih _ _ _
    | exact T.followBlind _ _ _
       | (with_reducible refine T.bind ?_ λ_=>?_)
       | intro _
    | split
    | dsimp only)
end
end Go.Tame
