/- DERIVED. Who holds the writers back (package gate) among threads: Set. -/
import Derived.Test.YtlhbonnminlnlaaGj
import Derived.Test.YtlhbonnminlnlaaGi
import Derived.Test.YtlhbonnminlnlaaGh
import Derived.Laws.LoneSync
import Derived.Lib.Builder
import Derived.LaidEql
set_option linter.unusedVariables false
set_option linter.unusedSectionVars false
set_option linter.unusedSimpArgs false
namespace Go.Proofs.Ytlhbonnminlnlaa
open Go.RowKit Go.Turn Go.Tame Go.Conc
open Go.ConcN (upd upd_ne upd_same)
structure RdS where
 cursor : Int
 seen : Int
 st : Nat→Int
 va : Nat→Int
 mem : Option (List Int)
 num : Nat→Int
 rj : Nat→Bool
 rn : Nat→Int
 fn : Nat→Int
inductive Wh where
 | wo | mu | rg | sl | cu | se | ga | lr | lf | rd (j : Nat) | fo (j : Nat)
 deriving DecidableEq
structure RIds where
 M : MIds
 wb : Nat
 gt : Nat
 lr : Nat
 lf : Nat
 rd : Nat→Nat
 fo : Nat→Nat
 k : Nat
 rA : Option Addr
 rc : Nat
 fA : Option Addr
 fc : Nat
def RIds.blk (I : RIds) : Wh→Nat
 | .wo=>I.wb
 | .mu=>I.M.mb
 | .rg=>I.M.rb
 | .sl=>I.M.gb
 | .cu=>I.M.cb
 | .se=>I.M.eb
 | .ga=>I.gt
 | .lr=>I.lr
 | .lf=>I.lf
 | .rd j=>I.rd j
 | .fo j=>I.fo j
def RIds.val (I : RIds) : Wh→Prop
 | .lr=>0 < I.k
 | .lf=>0 < I.k
 | .rd j=>j < I.k
 | .fo j=>j < I.k
 | _=>True
open Classical in
noncomputable def RIds.what (I : RIds) (b : Nat) : Option Wh:=if h : ∃ x,I.val x∧I.blk x = b then some h.choose else none
structure RIds.Ok (I : RIds) : Prop where
 n0 : 0 < I.M.n
 n2 : I.M.n≤65536
 f0 : 0≤I.M.first
 f1 : I.M.first < 4611686018427387904
 k64 : I.k≤64
 rAk : 0 < I.k→I.rA = some ⟨I.lr,0,none⟩∧I.fA = some ⟨I.lf,0,none⟩
 caps : I.k≤I.rc∧I.rc≤maxLen∧I.k≤I.fc∧I.fc≤maxLen
 inj : ∀ x y,I.val x→I.val y→I.blk x = I.blk y→x = y
theorem RIds.what_blk {I : RIds} (h : I.Ok) {x : Wh} (hv : I.val x) : I.what (I.blk x) = some x:=by
 have he : ∃ y,I.val y∧I.blk y = I.blk x:=⟨x,hv,rfl⟩
 unfold RIds.what
 rw [dif_pos he]
 exact congrArg some (h.inj _ _ he.choose_spec.1 hv he.choose_spec.2)
theorem RIds.what_some {I : RIds} {b : Nat} {x : Wh} (h : I.what b = some x) : I.val x∧I.blk x = b:=by
 unfold RIds.what at h
 split at h
 ·rename_i he
  cases h
  exact he.choose_spec
 ·cases h
def cellR (I : RIds) (S : RdS) (x : Wh) (o : Nat) : Option Value:=match x with
 | .wo=>match o with
   | 0=>some (.pointer (some ⟨I.M.mb,0,none⟩))
   | 1=>some (.pointer (some ⟨I.gt,0,none⟩))
   | 2=>some (.slice I.rA I.k I.rc)
   | 3=>some (.slice I.fA I.k I.fc)
   | _=>none
 | .mu=>match o with
   | 0=>some (.pointer (some ⟨I.M.rb,0,none⟩))
   | 1=>some (.int .i64 I.M.first)
   | 2=>some (.pointer (some ⟨I.M.cb,0,none⟩))
   | 3=>some (.pointer (some ⟨I.M.eb,0,none⟩))
   | _=>none
 | .rg=>match o with
   | 0=>some (.slice (some ⟨I.M.gb,0,none⟩) I.M.n I.M.n)
   | _=>none
 | .sl=>if o < 2 * I.M.n then some (.int .i64 (if o % 2 = 0 then S.st (o / 2) else S.va (o / 2))) else none
 | .cu=>match o with
   | 0=>some (.int .i64 S.cursor)
   | _=>none
 | .se=>match o with
   | 0=>some (.int .i64 S.seen)
   | _=>none
 | .ga=>match o with
   | 0=>match S.mem with
     | none=>some (.pointer none)
     | some _=>none
   | o + 1=>if o < 64 then some (.int .i64 (S.num o)) else none
 | .lr=>if o < I.k then some (.pointer (some ⟨I.rd o,0,none⟩)) else none
 | .lf=>if o < I.k then some (.pointer (some ⟨I.fo o,0,none⟩)) else none
 | .rd j=>match o with
   | 0=>some (.pointer (some ⟨I.M.mb,0,none⟩))
   | 1=>some (.pointer (some ⟨I.gt,0,none⟩))
   | 2=>some (.int .i64 j)
   | 3=>some (.bool (S.rj j))
   | 4=>some (.int .i64 (S.rn j))
   | _=>none
 | .fo j=>match o with
   | 0=>some (.pointer (some ⟨I.M.mb,0,none⟩))
   | 1=>some (.int .i64 (S.fn j))
   | _=>none
noncomputable def layR (I : RIds) (S : RdS) (b o : Nat) : Option Value:=match I.what b with
 | some x=>cellR I S x o
 | none=>none
structure RdOk (S : RdS) : Prop where
 c0 : -1≤S.cursor
 c1 : S.cursor < 4611686018427387904
 rn : ∀ i,0≤S.rn i∧S.rn i≤4611686018427387904
 fn : ∀ i,0≤S.fn i∧S.fn i≤4611686018427387904
def BoxR (ga : Nat) (S : RdS) (G : Nat→Prop) (w : World) : Prop:=match S.mem with
 | none=>∀ b,¬ G b
 | some l=>∃ p q c cs,w.cell? ⟨ga,0,none⟩ = some (.pointer (some ⟨p,0,none⟩))∧Blk w p 162 #[.slice (some ⟨q,0,none⟩) l.length c,.int .i64 0]∧Blk w q 3 cs∧(l.length≤c∧l.length≤64)∧c≤maxLen∧(∀ i (h : i < l.length),cs[i]? = some (.int .i64 l[i]))∧∀ b,G b ↔ b = p∨b = q
theorem BoxR.same {ga : Nat} {S S' : RdS} {G : Nat→Prop} {w w' : World} (h : BoxR ga S G w) (hm : S'.mem = S.mem) (hc : w'.cell? ⟨ga,0,none⟩ = w.cell? ⟨ga,0,none⟩) (hs : ∀ b,G b→w'.heap[b]? = w.heap[b]?) : BoxR ga S' G w':=by
 unfold BoxR at h ⊢
 rw [hm]
 cases hS : S.mem with
 | none=>rw [hS] at h; exact h
 | some l =>
   rw [hS] at h
   obtain ⟨p,q,c,cs,h1,h2,h3,h4,h5,h6,h7⟩:=h
   exact ⟨p,q,c,cs,hc.trans h1,(hs p ((h7 p).2 (.inl rfl))).trans h2,(hs q ((h7 q).2 (.inr rfl))).trans h3,h4,h5,h6,h7⟩
noncomputable def readY (I : RIds) : Lay where
 A:=RdS
 cell:=layR I
 BI:=fun b=>∃ x,I.val x∧I.blk x = b
 ok:=RdOk
 dom:=fun S b o v h=>by
  unfold layR at h
  split at h
  ·rename_i x hx
   exact ⟨x,RIds.what_some hx⟩
  ·cases h
 Box:=BoxR I.gt
 box_:=fun a G w w' h hs=>h.same rfl (World.cell?_of_block (w:=w) (hs I.gt (.inr ⟨.ga,trivial,rfl⟩))) fun b hb=>hs b (.inl hb)
section
variable {I : RIds} (hI : I.Ok)
include hI
theorem layR_at {x : Wh} (hv : I.val x) (S : RdS) (o : Nat) : layR I S (I.blk x) o = cellR I S x o:=by
 unfold layR
 rw [RIds.what_blk hI hv]
theorem r_turns {S S' : RdS} {x : Wh} (hv : I.val x) {o : Nat} {v : Value} (hex : ∃ u,cellR I S x o = some u) (hc : ∀ y o',cellR I S' y o' = if y = x∧o' = o then some v else cellR I S y o') : (readY I).Turns S S' (I.blk x) o v:=by
 obtain ⟨u0,hu0⟩:=hex
 refine ⟨⟨u0,(layR_at hI hv S o).trans hu0⟩,fun b' o' u (hu : layR I S' b' o' = some u)=>?_⟩
 show _∨_∧layR I S b' o' = some u
 unfold layR at hu ⊢
 cases hy : I.what b' with
 | none=>rw [hy] at hu; cases hu
 | some y =>
   rw [hy] at hu
   obtain ⟨hvy,rfl⟩:=RIds.what_some hy
   simp only [hc] at hu
   split at hu
   ·rename_i e
    obtain ⟨rfl,rfl⟩:=e
    cases hu
    exact .inl ⟨rfl,rfl,rfl⟩
   ·rename_i e
    refine .inr ⟨?_,hu⟩
    by_cases h1 : y = x
    ·exact .inr fun z=>e ⟨h1,z⟩
    ·exact .inl fun z=>h1 (hI.inj _ _ hvy hv z)
def rcl : WLens RdS:=⟨fun S=>S.cursor,fun x S=>{ S with cursor:=x },fun x=>-1≤x∧x < 4611686018427387904⟩
def rel : WLens RdS:=⟨fun S=>S.seen,fun x S=>{ S with seen:=x },fun _=>True⟩
def rrl : RLens RdS:=⟨fun S=>(S.st,S.va),fun r S=>{ S with st:=r.1,va:=r.2 }⟩
omit hI in
theorem box_set {S S' : RdS} {b o : Nat} {v : Value} {w : World} (hm : S'.mem = S.mem) (hne : ¬ (b = I.gt∧o = 0)) (G : Nat→Prop) (hG : ¬ G b) (h : (readY I).Box S G w) : (readY I).Box S' G (w.setCell ⟨b,o,none⟩ v):=
 BoxR.same (show BoxR I.gt S G w from h) hm (World.cell?_setCell_other _ _ _ _ (by intro e; injection e with e1 e2; first | exact hne ⟨e1.symm,e2.symm⟩ | exact hne ⟨e1,e2⟩)) fun b' hb'=>Below.heap_setCell _ _ _ _ (fun e=>hG ((show b' = b from e) ▸ hb'))
theorem blk_ne' {x y : Wh} (hx : I.val x) (hy : I.val y) (h : x≠y) : I.blk x≠I.blk y:=fun e=>h (hI.inj _ _ hx hy e)
theorem r_cur : WordLay (readY I) rcl I.M.cb where
 at_:=fun S=>layR_at hI (x:=.cu) trivial S 0
 turns:=fun S x=>r_turns hI (x:=.cu) trivial ⟨_,rfl⟩ fun y o'=>by
  by_cases hy : y = .cu
  ·subst hy
   cases o' with
   | zero=>rw [if_pos ⟨rfl,rfl⟩]; rfl
   | succ o'=>rw [if_neg (by omega)]; rfl
  ·rw [if_neg (fun z=>hy z.1)]
   rcases y with _ | _ | _ | _ | _ | _ | _ | _ | _ | j' | j' <;> first | exact absurd rfl hy | rfl
 ok:=fun S x h hx=>⟨hx.1,hx.2,h.rn,h.fn⟩
 box:=fun S x w G hG h=>box_set rfl (fun z=>blk_ne' hI (x:=.cu) (y:=.ga) trivial trivial (by simp) z.1) G hG h
theorem r_seen : WordLay (readY I) rel I.M.eb where
 at_:=fun S=>layR_at hI (x:=.se) trivial S 0
 turns:=fun S x=>r_turns hI (x:=.se) trivial ⟨_,rfl⟩ fun y o'=>by
  by_cases hy : y = .se
  ·subst hy
   cases o' with
   | zero=>rw [if_pos ⟨rfl,rfl⟩]; rfl
   | succ o'=>rw [if_neg (by omega)]; rfl
  ·rw [if_neg (fun z=>hy z.1)]
   rcases y with _ | _ | _ | _ | _ | _ | _ | _ | _ | j' | j' <;> first | exact absurd rfl hy | rfl
 ok:=fun S x h hx=>⟨h.c0,h.c1,h.rn,h.fn⟩
 box:=fun S x w G hG h=>box_set rfl (fun z=>blk_ne' hI (x:=.se) (y:=.ga) trivial trivial (by simp) z.1) G hG h
theorem r_ring : RingLay (readY I) rrl I.M.rb I.M.gb I.M.n where
 ring:=fun S=>layR_at hI (x:=.rg) trivial S 0
 stamp:=fun S i hi=>(layR_at hI (x:=.sl) trivial S (i * 2)).trans (by
  show (if i * 2 < 2 * I.M.n then _ else _) = _
  rw [if_pos (by omega),if_pos (by omega),show i * 2 / 2 = i by omega]; rfl)
 value:=fun S i hi=>(layR_at hI (x:=.sl) trivial S (i * 2 + 1)).trans (by
  show (if i * 2 + 1 < 2 * I.M.n then _ else _) = _
  rw [if_pos (by omega),if_neg (by omega),show (i * 2 + 1) / 2 = i by omega]; rfl)
 tst:=fun S i hi x=>r_turns hI (x:=.sl) trivial ⟨_,by show (if i * 2 < 2 * I.M.n then _ else _) = some _; rw [if_pos (by omega)]⟩ fun y o'=>by
  by_cases hy : y = .sl
  ·subst hy
   by_cases e : o' = i * 2
   ·subst e
    rw [if_pos ⟨rfl,rfl⟩]
    show (if i * 2 < 2 * I.M.n then some (Value.int .i64 (if (i * 2) % 2 = 0 then upd S.st i x ((i * 2) / 2) else S.va ((i * 2) / 2))) else none) = _
    rw [if_pos (by omega),if_pos (by omega),show (i * 2) / 2 = i by omega,upd_same]
   ·rw [if_neg (fun z=>e z.2)]
    show (if o' < 2 * I.M.n then some (Value.int .i64 (if o' % 2 = 0 then upd S.st i x (o' / 2) else S.va (o' / 2))) else none) = if o' < 2 * I.M.n then some (Value.int .i64 (if o' % 2 = 0 then S.st (o' / 2) else S.va (o' / 2))) else none
    by_cases h2 : o' % 2 = 0
    ·rw [if_pos h2,if_pos h2,upd_ne _ _ (by omega)]
    ·rw [if_neg h2,if_neg h2]
  ·rw [if_neg (fun z=>hy z.1)]
   rcases y with _ | _ | _ | _ | _ | _ | _ | _ | _ | j' | j' <;> first | exact absurd rfl hy | rfl
 tva:=fun S i hi x=>r_turns hI (x:=.sl) trivial ⟨_,by show (if i * 2 + 1 < 2 * I.M.n then _ else _) = some _; rw [if_pos (by omega)]⟩ fun y o'=>by
  by_cases hy : y = .sl
  ·subst hy
   by_cases e : o' = i * 2 + 1
   ·subst e
    rw [if_pos ⟨rfl,rfl⟩]
    show (if i * 2 + 1 < 2 * I.M.n then some (Value.int .i64 (if (i * 2 + 1) % 2 = 0 then S.st ((i * 2 + 1) / 2) else upd S.va i x ((i * 2 + 1) / 2))) else none) = _
    rw [if_pos (by omega),if_neg (by omega),show (i * 2 + 1) / 2 = i by omega,upd_same]
   ·rw [if_neg (fun z=>e z.2)]
    show (if o' < 2 * I.M.n then some (Value.int .i64 (if o' % 2 = 0 then S.st (o' / 2) else upd S.va i x (o' / 2))) else none) = if o' < 2 * I.M.n then some (Value.int .i64 (if o' % 2 = 0 then S.st (o' / 2) else S.va (o' / 2))) else none
    by_cases h2 : o' % 2 = 0
    ·rw [if_pos h2,if_pos h2]
    ·rw [if_neg h2,if_neg h2,upd_ne _ _ (by omega)]
  ·rw [if_neg (fun z=>hy z.1)]
   rcases y with _ | _ | _ | _ | _ | _ | _ | _ | _ | j' | j' <;> first | exact absurd rfl hy | rfl
 ok:=fun S r h=>⟨h.c0,h.c1,h.rn,h.fn⟩
 pos:=hI.n0
 most:=hI.n2
 ne:=blk_ne' hI (x:=.rg) (y:=.sl) trivial trivial (by simp)
 box:=fun S r o v w G hG h=>box_set rfl (fun z=>blk_ne' hI (x:=.sl) (y:=.ga) trivial trivial (by simp) z.1) G hG h
theorem t_num {j : Nat} (hj : j < 64) (S : RdS) (x : Int) : (readY I).Turns S { S with num:=upd S.num j x } I.gt (1 + j) (.int .i64 x):=
 r_turns hI (x:=.ga) trivial ⟨.int .i64 (S.num j),by rw [Nat.add_comm]; show (if j < 64 then _ else _) = _; rw [if_pos hj]⟩ fun y o'=>by
  by_cases hy : y = .ga
  ·subst hy
   cases o' with
   | zero=>rw [if_neg (by omega)]; rfl
   | succ o' =>
     by_cases e : o' = j
     ·subst e
      rw [if_pos ⟨rfl,by omega⟩]
      show (if o' < 64 then some (Value.int .i64 (upd S.num o' x o')) else none) = _
      rw [if_pos hj,upd_same]
     ·rw [if_neg (fun z=>e (by have:=z.2; omega))]
      show (if o' < 64 then some (Value.int .i64 (upd S.num j x o')) else none) = if o' < 64 then some (Value.int .i64 (S.num o')) else none
      rw [upd_ne _ _ e]
  ·rw [if_neg (fun z=>hy z.1)]
   rcases y with _ | _ | _ | _ | _ | _ | _ | _ | _ | j' | j' <;> first | exact absurd rfl hy | rfl
theorem t_rj {j : Nat} (hj : j < I.k) (S : RdS) (x : Bool) : (readY I).Turns S { S with rj:=fun i=>if i = j then x else S.rj i } (I.rd j) 3 (.bool x):=
 r_turns hI (x:=.rd j) hj ⟨_,rfl⟩ fun y o'=>by
  by_cases hy : y = .rd j
  ·subst hy
   rcases o' with _ | _ | _ | _ | _ | o' <;> simp [cellR]
  ·rw [if_neg (fun z=>hy z.1)]
   rcases y with _ | _ | _ | _ | _ | _ | _ | _ | _ | j' | j' <;> first | exact absurd rfl hy | rfl | skip
   have hjj : j'≠j:=fun e=>hy (by rw [e])
   rcases o' with _ | _ | _ | _ | _ | o' <;> simp [cellR,hjj]
theorem t_rn {j : Nat} (hj : j < I.k) (S : RdS) (x : Int) : (readY I).Turns S { S with rn:=upd S.rn j x } (I.rd j) 4 (.int .i64 x):=
  r_turns hI (x:=.rd j) hj ⟨_,rfl⟩ fun y o'=>by
   by_cases hy : y = .rd j
   ·subst hy
    rcases o' with _ | _ | _ | _ | _ | o' <;> simp [cellR,upd_same]
   ·rw [if_neg (fun z=>hy z.1)]
    rcases y with _ | _ | _ | _ | _ | _ | _ | _ | _ | j' | j' <;> first | exact absurd rfl hy | rfl | skip
    have hjj : j'≠j:=fun e=>hy (by rw [e])
    rcases o' with _ | _ | _ | _ | _ | o' <;> simp [cellR,upd_ne _ _ hjj]
theorem t_fn {j : Nat} (hj : j < I.k) (S : RdS) (x : Int) : (readY I).Turns S { S with fn:=upd S.fn j x } (I.fo j) 1 (.int .i64 x):=
  r_turns hI (x:=.fo j) hj ⟨_,rfl⟩ fun y o'=>by
   by_cases hy : y = .fo j
   ·subst hy
    rcases o' with _ | _ | _ | _ | _ | o' <;> simp [cellR,upd_same]
   ·rw [if_neg (fun z=>hy z.1)]
    rcases y with _ | _ | _ | _ | _ | _ | _ | _ | _ | j' | j' <;> first | exact absurd rfl hy | rfl | skip
    have hjj : j'≠j:=fun e=>hy (by rw [e])
    rcases o' with _ | _ | _ | _ | _ | o' <;> simp [cellR,upd_ne _ _ hjj]
end
end Go.Proofs.Ytlhbonnminlnlaa
namespace Go.Proofs.Ytlhbonnminlnlaa
open Go.RowKit
section
variable {P : Program} {f : FuncId} {fn : Func}
theorem run_call_loadp (hf : P.funcs[f]? = some fn) (hname : (fn.name == "runtime.NumGoroutine") = false) (hb : fn.body.isNone = true) (hn : Extern.findNext fn = none)
  (he : Extern.find fn = some (Extern.Atomic.loadT .ptr)) {a : Addr} {x : Option Addr} {w : World} (hc : w.cell? a = some (.pointer x)) :
  (callFunc f #[.pointer (some a)]).run P w = .ok (.value (.pointer x)) w:=by
 rw [run_callFunc_extern hf hname hb hn he]
 change (Sem.run P (do Extern.Atomic.read .ptr (← asAddr (.pointer (some a)))) w).andThen _ = _
 simp [Extern.Atomic.read,asAddr,hc,Result.andThen]
theorem run_call_casp (hf : P.funcs[f]? = some fn) (hname : (fn.name == "runtime.NumGoroutine") = false) (hb : fn.body.isNone = true) (hn : Extern.findNext fn = none)
  (he : Extern.find fn = some (Extern.Atomic.casT .ptr)) {a : Addr} {x y : Option Addr} {w : World} (hx : (samePointer x x).run P w = .ok true w) (hc : w.cell? a = some (.pointer x)) (hz : w.frozen? a = false) :
  (callFunc f #[.pointer (some a),.pointer x,.pointer y]).run P w = .ok (.value (.bool true)) (w.setCell a (.pointer y)):=by
 rw [run_callFunc_extern hf hname hb hn he]
 change (Sem.run P (do
  let a' ← asAddr (.pointer (some a))
  if ← Extern.Atomic.touchesFrozen a' then unsupported (.unsafePointer "a write to bytes that a string shares")
  let eq ← match Extern.Atomic.T.ptr,← Extern.Atomic.read .ptr a',Value.pointer x with
   | _,.int _ x,.int _ y=>pure (x == y)
   | .ptr,.pointer x,.pointer y=>samePointer x y
   | .int _,.pointer (some _),.int _ 0 | .int _,.int _ 0,.pointer (some _)=>pure false
   | .int _,.pointer (some _),_ | .int _,_,.pointer (some _)=>unsupported .addressObserved
   | _,_,_=>stuck "atomic.CompareAndSwap: old is no T"
  if eq then store a' (.pointer y) .atomic
  pure (Value.bool eq)) w).andThen _ = _
 simp [Extern.Atomic.touchesFrozen,Extern.Atomic.read,asAddr,viewAt,World.shape?_isSome_of_cell? hc,hc,hz,hx,run_store P w a (.pointer y) .atomic rfl,Result.andThen]
end
theorem cstep_nil (w : World) : Calls Try.prog 75 #[.nilIface] w fun e w'=>e = .returned (.tuple #[])∧w = w':=by
 go_enter Try.func75,Try.ntmps75
 go_wp2
 go_end0
 exact ⟨rfl,rfl⟩
theorem word_load (a : Addr) (v : Int) (w : World) (h : w.cell? a = some (.int .i64 v)) : Calls Try.prog 47 #[.pointer (some a),.nilIface] w fun e w'=>e = .returned (.int .i64 v)∧w = w':=by
 go_enter Try.func47,Try.ntmps47
 go_wp2_with (first | (go_at_call 75; refine (cstep_nil _).mono ?_; rintro e w' ⟨rfl,rfl⟩) | (go_at_call 52; refine (atomic_load _ _ _ h).mono ?_; rintro e w' ⟨rfl,rfl⟩))
 go_ret
 exact ⟨rfl,rfl⟩
def HeldP (t : TypeId) (p : Option Addr) (w : World) : Prop:=p = none∨∃ K a b,p = some ⟨K,0,none⟩∧Blk w K t #[a,b]
theorem HeldP.kept {t : TypeId} {p : Option Addr} {w w' : World} (h : HeldP t p w) (k : Kept (fun _=>False) w w') : HeldP t p w':=by
 rcases h with h | ⟨K,a,b,h1,h2⟩
 ·exact .inl h
 ·exact .inr ⟨K,a,b,h1,h2.kept k id⟩
theorem from_mb (p : Option Addr) (w : World) (h : HeldP 162 p w) : (convert 78 74 (.pointer p)).run Try.prog w = .ok (.pointer p) w:=by
 rcases h with rfl | ⟨K,a,b,rfl,h⟩
 ·simp [convert,run_underlying Try.underlying78,run_underlying Try.underlying74,Conv.unsafePointer]
 ·obtain ⟨j,hj⟩ : ∃ j,Try.prog.info? 162 = some j:=Option.isSome_iff_exists.1 (by kernel_rfl)
  have hb : w.heap[K]? = some (.cells #[a,b] 162 (0,0)):=h
  exact Lib.run_from_unsafe (j:=j) (e:=162) (cells:=2) w ⟨K,0,none⟩ Try.underlying78 Try.underlying74 hj (by simp [World.shape?,hb]) (by kernel_rfl)
theorem to_mb (p : Option Addr) (w : World) (h : HeldP 162 p w) : (convert 74 78 (.pointer p)).run Try.prog w = .ok (.pointer p) w:=by
 rcases h with rfl | ⟨K,a,b,rfl,h⟩
 ·simp [convert,run_underlying Try.underlying78,run_underlying Try.underlying74,Conv.unsafePointer]
 ·have hb : w.heap[K]? = some (.cells #[a,b] 162 (0,0)):=h
  exact run_convert_to_unsafe Try.underlying74 Try.underlying78 (by kernel_rfl) (cell_of_row w K 0 _ _ (0,0) hb)
theorem ptr_load_mb (a : Addr) (p : Option Addr) (w : World) (h : w.cell? a = some (.pointer p)) (hp : HeldP 162 p w) : Calls Try.prog 77 #[.pointer (some a)] w fun e w'=>e = .returned (.pointer p)∧w = w':=by
 have hld:=run_call_loadp (P:=Try.prog) Try.func88 (by kernel_rfl) (by kernel_rfl) (by kernel_rfl) (by kernel_rfl) h
 have hcv:=from_mb p w hp
 go_enter Try.func77,Try.ntmps77
 go_wp2
 go_ret
 exact ⟨rfl,rfl⟩
end Go.Proofs.Ytlhbonnminlnlaa
namespace Go.Proofs.Ytlhbonnminlnlaa
open Go.RowKit
theorem same_self {P : Program} (x : Option Addr) (w : World) : (samePointer x x).run P w = .ok true w:=by
 cases x with
 | none=>rfl
 | some a=>exact Go.run_sameAddr_same w a
theorem eql_ptr_same {P : Program} {t e : TypeId} {j : TypeInfo} (a : Addr) (hp : P.underlying t = some (.pointer e)) (he : P.info? e = some j) (w : World) : (binOp .eql t (.pointer (some a)) (.pointer (some a))).run P w = .ok (.bool true) w:=by
 have h : ∀ d,(Op.equalIn (d + 1) t (.pointer (some a)) (.pointer (some a))).run P w = .ok true w:=fun d=>by
  by_cases hz : j.size = 0
  ·simp [Op.equalIn,run_underlying hp,sizeOf,typeInfo,he,hz]
  ·simp [Op.equalIn,run_underlying hp,sizeOf,typeInfo,he,Go.run_sameAddr_same]
 simp only [binOp]
 simp [Op.equal,Op.maxDepth,h 9999]
theorem cell_lt {w : World} {a : Addr} {v : Value} (h : w.cell? a = some v) : a.block < w.heap.size:=by
 unfold World.cell? at h
 rcases Nat.lt_or_ge a.block w.heap.size with z | z
 ·exact z
 ·rw [Array.getElem?_eq_none z] at h; cases h
theorem cell_keep {S : Nat→Prop} {w w' : World} {a : Addr} {v : Value} (h : w.cell? a = some v) (k : Kept S w w') (hs : ¬ S a.block) : w'.cell? a = some v:=(World.cell?_of_block (w:=w) (k.block a.block (cell_lt h) hs)).trans h
theorem froz_keep {S : Nat→Prop} {w w' : World} {a : Addr} {v : Value} (h : w.frozen? a = false) (hc : w.cell? a = some v) (k : Kept S w w') (hs : ¬ S a.block) : w'.frozen? a = false:=by
 have:=k.block a.block (cell_lt hc) hs
 unfold World.frozen? at h ⊢
 rw [this]
 exact h
def BoxV (t : TypeId) (p : Option Addr) (v : Value) (w : World) : Prop:=(p = none∧v = .slice none 0 0)∨∃ K b,p = some ⟨K,0,none⟩∧Blk w K t #[v,b]
theorem BoxV.held {t : TypeId} {p : Option Addr} {v : Value} {w : World} (h : BoxV t p v w) : HeldP t p w:=by
 rcases h with ⟨h,_⟩ | ⟨K,b,h1,h2⟩
 ·exact .inl h
 ·exact .inr ⟨K,v,b,h1,h2⟩
theorem BoxV.kept {t : TypeId} {p : Option Addr} {v : Value} {w w' : World} (h : BoxV t p v w) (k : Kept (fun _=>False) w w') : BoxV t p v w':=by
 rcases h with h | ⟨K,b,h1,h2⟩
 ·exact .inl h
 ·exact .inr ⟨K,b,h1,h2.kept k id⟩
theorem box_load_mb (a : Addr) (p : Option Addr) (w : World) (h : w.cell? a = some (.pointer p)) (hp : HeldP 162 p w) : Calls Try.prog 54 #[.pointer (some a),.nilIface] w fun e w'=>e = .returned (.agg #[.pointer p,.pointer (some a)])∧Kept (fun _=>False) w w':=by
 have hk : Kept (fun _=>False) w (w.alloc (.cells #[.pointer none,.pointer none] 133)):=Kept.alloc _ _
 have h2:=cell_keep h hk id
 have hp2:=hp.kept hk
 clear hk h hp
 go_enter Try.func54,Try.ntmps54
 go_wp2_with (first | (go_at_call 75; refine (cstep_nil _).mono ?_; rintro e w' ⟨rfl,rfl⟩) | (go_at_call 77; refine (ptr_load_mb _ p _ h2 hp2).mono ?_; rintro e w' ⟨rfl,rfl⟩))
 have c0:=(Blk.new w 133 #[.pointer p,.pointer (some a)]).cell 0
 have c1:=(Blk.new w 133 #[.pointer p,.pointer (some a)]).cell 1
 refine bodyPost_ret (v:=.agg #[.pointer p,.pointer (some a)]) ?_ rfl ⟨rfl,Kept.alloc _ _⟩
 simp only [List.getElem?_toArray,List.getElem?_cons_zero,List.getElem?_cons_succ] at c0 c1
 simp [results,Try.f54,go_sem,c0,c1]
theorem held_value_mb (a : Option Addr) (p : Option Addr) (v : Value) (w : World) (h : BoxV 162 p v w) : Calls Try.prog 56 #[.agg #[.pointer p,.pointer a]] w fun e w'=>e = .returned v∧Kept (fun _=>False) w w':=by
 have hk : Kept (fun _=>False) w (w.alloc (.cells #[.pointer p,.pointer a] 133)):=Kept.alloc _ _
 have h2:=h.kept hk
 rcases h2 with ⟨rfl,rfl⟩ | ⟨K,b,rfl,hb⟩
 ·go_enter Try.func56,Try.ntmps56
  go_wp2
  go_ret
  exact ⟨rfl,Kept.alloc _ _⟩
 ·have hc : (w.alloc (.cells #[.pointer (some ⟨K,0,none⟩),.pointer a] 133)).cell? ⟨K,0,none⟩ = some v:=hb.cell 0
  clear h hk hb
  go_enter Try.func56,Try.ntmps56
  go_wp2
  go_ret
  exact ⟨rfl,Kept.alloc _ _⟩
theorem ptr_cas_mb (a : Addr) (x y : Option Addr) (w : World) (h : w.cell? a = some (.pointer x)) (hz : w.frozen? a = false) (hx : HeldP 162 x w) (hy : HeldP 162 y w) : Calls Try.prog 79 #[.pointer (some a),.pointer x,.pointer y] w fun e w'=>e = .returned (.bool true)∧w.setCell a (.pointer y) = w':=by
 have hcas:=run_call_casp (P:=Try.prog) Try.func89 (by kernel_rfl) (by kernel_rfl) (by kernel_rfl) (by kernel_rfl) (y:=y) (same_self x w) h hz
 have e1:=to_mb x w hx
 have e2:=to_mb y w hy
 clear hx hy
 go_enter Try.func79,Try.ntmps79
 go_wp2
 go_ret
 exact ⟨rfl,rfl⟩
set_option maxRecDepth 100000 in
theorem box_cas_mb (a : Addr) (p : Option Addr) (v : Value) (n c : Nat) (A : Option Addr) (w : World) (h : w.cell? a = some (.pointer p)) (hz : w.frozen? a = false) (hp : HeldP 162 p w) (hv : v = .slice A n c) : Calls Try.prog 57 #[.pointer (some a),.nilIface,.agg #[.pointer p,.pointer (some a)],v] w fun e w'=>e = .returned (.bool true)∧Kept (fun b=>b = a.block) w w' ∧
  ∃ K,w.heap.size≤K∧Blk w' K 162 #[v,.int .i64 0]∧∃ w1,Kept (fun _=>False) w w1∧K < w1.heap.size∧w' = w1.setCell a (.pointer (some ⟨K,0,none⟩)):=by
 obtain ⟨j,hj⟩ : ∃ j,Try.prog.info? 82 = some j:=Option.isSome_iff_exists.1 (by kernel_rfl)
 have heq:=eql_ptr_same (t:=131) a Try.underlying131 hj
 clear hj
 subst hv
 go_enter Try.func57,Try.ntmps57
 have hk0 : Kept (fun _=>False) w (w.alloc (.cells #[.pointer p,.pointer (some a)] 133)):=Kept.alloc _ _
 have h2:=cell_keep h hk0 id
 have z2:=froz_keep hz h hk0 id
 have hp2:=hp.kept hk0
 have hb6:=Blk.new w 133 #[.pointer p,.pointer (some a)]
 have HS:=Lib.hid (And.intro h2 (And.intro z2 (And.intro hp2 (And.intro hb6 hk0))))
 have hlt:=cell_lt h
 have hne : w.heap.size≠a.block:=by omega
 clear h hz hp hk0 h2 z2 hp2 hb6 hlt
 go_wp2_with (go_at_call 75; refine (cstep_nil _).mono ?_; rintro e w' ⟨rfl,rfl⟩)
 generalize hw0 : w.alloc (.cells #[.pointer p,.pointer (some a)] 133) = u at *
 obtain ⟨b6,hb6⟩ : ∃ b6,w.heap.size = b6:=⟨_,rfl⟩
 rw [hb6] at HS hne ⊢
 rename_i K0 hK0
 refine strictL ?_
 refine wp_region_held (S:=Kept (fun b=>b = a.block) u) (by kernel_rfl) ?_
 simp only [List.size_toArray,List.length_cons,List.length_nil,Nat.reduceAdd]
 have HW1 : Hid (Kept (fun b=>b = a.block) u { u with drawn:=u.drawn + 1 }):=Lib.hid (Kept.drew u)
 iterate 12
  first
  | refine rdL 0 15 13 ?_
  | refine rdL 1 14 14 ?_
  | refine rdL 2 13 15 ?_
  | refine rdL 3 12 16 ?_
  | refine rdL 4 11 17 ?_
  | refine rdL 5 10 18 ?_
  | refine rdL 6 9 19 ?_
  | refine rdL 7 8 20 ?_
  | refine rdL 8 7 21 ?_
  | refine rdL 9 6 22 ?_
  | refine rdL 10 5 23 ?_
  | refine rdL 11 4 24 ?_
  refine ⟨_,rfl,rfl,by kernel_rfl,by kernel_rfl,by kernel_rfl,(fun c a w h=>by cases h.1),rfl,HW1.out,?_⟩
  apply Exists.intro
  refine ⟨fun wq hw=>?_,?_⟩
  ·have hb:=HS.out.2.2.2.1.kept hw hne
   have c0 : wq.cell? ⟨b6,0,none⟩ = some (.pointer p):=hb.cell 0
   have c1 : wq.cell? ⟨b6,1,none⟩ = some (.pointer (some a)):=hb.cell 1
   clear hb
   go_simp
   rfl
  simp only [Act.put,List.setIfInBounds_toArray,List.set_cons_zero,List.set_cons_succ]
 refine oneL (i:=12) (fuel:=3) (by kernel_rfl) rfl rfl fun K hK'=>?_
 unfold Oper.wp
 go_simp
 have hk1 : Kept (fun _=>False) u (u.drew.alloc (.cells #[.slice A n c,.int .i64 0] 162)):=(Kept.drew u).trans (Kept.alloc _ _)
 have hbK:=Blk.new u.drew 162 #[.slice A n c,.int .i64 0]
 refine hK' _ _ (hk1.mono fun _ _ z=>z.elim) ?_
 clear hK' K
 refine oneL (i:=13) (fuel:=2) (by kernel_rfl) rfl rfl fun K hK'=>?_
 unfold Oper.wp
 go_simp
 refine (ptr_cas_mb a p (some ⟨u.heap.size,0,none⟩) _ (cell_keep HS.out.1 hk1 id) (froz_keep HS.out.2.1 HS.out.1 hk1 id) (HS.out.2.2.1.kept hk1) (.inr ⟨_,_,_,rfl,hbK⟩)).mono ?_
 rintro e w' ⟨rfl,rfl⟩
 dsimp only
 have hk2 : Kept (fun b=>b = a.block) u ((u.drew.alloc (.cells #[.slice A n c,.int .i64 0] 162)).setCell a (.pointer (some ⟨u.heap.size,0,none⟩))):=(hk1.mono fun _ _ z=>z.elim).trans (Kept.setCell _ (by rfl) _)
 refine hK' _ _ hk2 ?_
 clear hK' K
 refine rdL 14 1 27 ?_
 refine ⟨_,rfl,rfl,by kernel_rfl,by kernel_rfl,by kernel_rfl,(fun c a w h=>by cases h.1),rfl,hk2,?_⟩
 apply Exists.intro
 refine ⟨fun wq hw=>?_,?_⟩
 ·go_simp
  rfl
 simp only [Act.put,List.setIfInBounds_toArray,List.set_cons_zero,List.set_cons_succ]
 refine oneL (i:=15) (fuel:=0) (by kernel_rfl) rfl rfl fun K hK'=>?_
 unfold Oper.wp
 go_simp
 have HF:=Lib.hid (And.intro hk1 hbK)
 have HF2:=Lib.hid hk2
 have hla : a.block < u.heap.size:=cell_lt HS.out.1
 clear hk1 hbK hk2
 refine hK' _ _ HF2.out ?_
 clear hK' K
 refine wpAnyH_done (by kernel_rfl) ⟨rfl,?_⟩ _
 refine hK0 _ _ ?_
 go_wp2
 go_ret
 have hwu:=HS.out.2.2.2.2
 exact ⟨rfl,(hwu.mono fun _ _ z=>z.elim).trans HF2.out,u.heap.size,hwu.size,HF.out.2.far (by simp; omega) _,_,hwu.trans HF.out.1,by simp,rfl⟩
end Go.Proofs.Ytlhbonnminlnlaa
namespace Go.Proofs.Ytlhbonnminlnlaa
open Go.RowKit
structure GateAt (w : World) (G : Nat) (p : Option Addr) (f : Nat→Int) : Prop where
 hd : w.cell? ⟨G,0,none⟩ = some (.pointer p)
 num : ∀ i,i < 64→w.cell? ⟨G,1 + i,none⟩ = some (.int .i64 (f i))
 fz : ∀ i,w.frozen? ⟨G,i,none⟩ = false
theorem GateAt.lt {w : World} {G : Nat} {p : Option Addr} {f : Nat→Int} (h : GateAt w G p f) : G < w.heap.size:=lt_of_cell h.hd
theorem GateAt.kept {S : Nat→Prop} {w w' : World} {G : Nat} {p : Option Addr} {f : Nat→Int} (h : GateAt w G p f) (k : Kept S w w') (hG : ¬ S G) : GateAt w' G p f where
 hd:=cell_keep h.hd k hG
 num i hi:=cell_keep (h.num i hi) k hG
 fz i:=by
  have e:=k.block G h.lt hG
  have:=h.fz i
  unfold World.frozen? at this ⊢
  rw [e]
  exact this
theorem GateAt.setNum {w : World} {G : Nat} {p : Option Addr} {f : Nat→Int} (h : GateAt w G p f) {i : Nat} (hi : i < 64) (x : Int) : GateAt (w.setCell ⟨G,1 + i,none⟩ (.int .i64 x)) G p (upd f i x) where
 hd:=by rw [World.cell?_setCell_other _ _ _ _ (by simp)]; exact h.hd
 num j hj:=by
  by_cases e : j = i
  ·subst e
   rw [upd_same,World.cell?_setCell_same _ _ _ (by rw [h.num j hj])]
  ·rw [upd_ne _ _ e,World.cell?_setCell_other _ _ _ _ (by simp)]
   exact h.num j hj
 fz j:=by simp [h.fz j]
theorem gate_zero : Try.zeroCells88 = #[.pointer none] ++ Array.replicate 64 (.int .i64 0):=by kernel_rfl
theorem gate_newN (w : World) : Calls Try.prog 8 #[] w fun e w'=>e = .returned (.pointer (some ⟨w.heap.size,0,none⟩))∧GateAt w' w.heap.size none (fun _=>-1)∧Kept (fun _=>False) w w'∧w'.heap.size = w.heap.size + 1∧NearB w' w.heap.size:=by
 go_enter Try.func8,Try.ntmps8
 go_wp2
 go_loopw [5] (fun q wr=>∃ i : Nat,i≤64∧q = .int .i64 i∧GateAt wr w.heap.size none (fun j=>if j < i then -1 else 0)∧Kept (fun _=>False) w wr∧wr.heap.size = w.heap.size + 1∧NearB wr w.heap.size) (fun q _=>64 - (intOf q).toNat)
 case atStart =>
  refine ⟨0,by omega,rfl,⟨?_,fun i hi=>?_,fun i=>?_⟩,Kept.alloc _ _,by simp,⟨_,_,Blk.new w 88 _⟩⟩
  ·exact ((Blk.new w 88 _).cell 0).trans (by kernel_rfl)
  ·refine ((Blk.new w 88 _).cell (1 + i)).trans ?_
   rw [gate_zero,Array.getElem?_append_right (by simp)]
   simp [hi]
  ·exact (Blk.new w 88 _).frozen i
 case round =>
  obtain ⟨i,hi,rfl,hG,hk,hz⟩:=hrel
  by_cases hlt : i < 64
  ·have c:=hG.num i hlt
   rw [if_neg (by omega)] at c
   have z:=hG.fz (1 + i)
   go_wp2_with (go_at_call 27; refine (atomic_store _ (-1) 0 _ c z).mono ?_; rintro e w' ⟨rfl,rfl⟩)
   have HH:=Lib.hid (And.intro hG (And.intro hk hz))
   clear hG hk hz c z
   go_roundw
   case rel =>
    refine ⟨i + 1,by omega,by go_num,?_,?_,by simpa using HH.out.2.2.1,HH.out.2.2.2.set_⟩
    ·rw [fill_succ]
     exact HH.out.1.setNum hlt (-1)
    ·exact HH.out.2.1.later (Kept.setCell (S:=fun b=>b = w.heap.size) _ (by rfl) _) (fun b e=>Nat.le_of_eq e.symm)
   case measure=>simp [intOf]; omega
  ·have ei : i = 64:=by omega
   subst ei
   have HH:=Lib.hid (And.intro hG (And.intro hk hz))
   clear hG hk hz
   go_wp2
   go_ret
   refine ⟨rfl,⟨HH.out.1.hd,fun j hj=>?_,HH.out.1.fz⟩,HH.out.2.1,HH.out.2.2⟩
   have:=HH.out.1.num j hj
   rwa [if_pos hj] at this
end Go.Proofs.Ytlhbonnminlnlaa
namespace Go.Proofs.Ytlhbonnminlnlaa
open Go.RowKit
theorem Try.infoI : (Try.prog.info? 3).map (fun i=>(i.zero,i.size,i.bytes)) = some (some (.int .i64 0),1,8):=by kernel_rfl
theorem gstep_nil (w : World) : Calls Try.prog 59 #[.nilIface] w fun e w'=>e = .returned (.tuple #[])∧w = w':=by
 go_enter Try.func59,Try.ntmps59
 go_wp2
 go_end0
 exact ⟨rfl,rfl⟩
theorem refused_no (G : Addr) (i : Nat) (w : World) (hi : i < 64) : Calls Try.prog 53 #[.pointer (some G),.int .i64 i] w fun e w'=>e = .returned (.int .i64 0)∧w = w':=by
 have h0 : ¬ (i : Int) < 0:=by omega
 have h1 : ¬ (64 : Int)≤i:=by omega
 go_enter Try.func53,Try.ntmps53
 go_wp2
 go_ret
 exact ⟨rfl,rfl⟩
theorem gate_set (G i : Nat) (p : Option Addr) (f : Nat→Int) (x : Int) (w : World) (h : GateAt w G p f) (hi : i < 64) : Calls Try.prog 33 #[.pointer (some ⟨G,0,none⟩),.nilIface,.int .i64 i,.int .i64 x] w fun e w'=>e = .returned (.int .i64 0)∧w.setCell ⟨G,1 + i,none⟩ (.int .i64 x) = w':=by
 have c:=h.num i hi
 have z:=h.fz (1 + i)
 have h0 : (0 : Int)≤i:=by omega
 have h1 : (i : Int) < 64:=by omega
 clear h
 go_enter Try.func33,Try.ntmps33
 go_wp2_with (first | (go_at_call 53; refine (refused_no _ i _ hi).mono ?_; rintro e w' ⟨rfl,rfl⟩) | (go_at_call 59; refine (gstep_nil _).mono ?_; rintro e w' ⟨rfl,rfl⟩) | (go_at_call 27; refine (atomic_store _ x _ _ c z).mono ?_; rintro e w' ⟨rfl,rfl⟩))
 go_ret
 exact ⟨rfl,rfl⟩
def MembersAt (w : World) (v : Value) (l : List Int) : Prop:=∃ A c,v = .slice A l.length c∧l.length≤c∧c≤maxLen∧(A = none→c = 0)∧∀ i (h : i < l.length),∃ L,A = some ⟨L,0,none⟩∧w.cell? ⟨L,i,none⟩ = some (.int .i64 l[i])
theorem MembersAt.kept {w w' : World} {v : Value} {l : List Int} (h : MembersAt w v l) (k : Kept (fun _=>False) w w') : MembersAt w' v l:=by
 obtain ⟨A,c,h1,h2,h3,h4,h5⟩:=h
 exact ⟨A,c,h1,h2,h3,h4,fun i hi=>by obtain ⟨L,k1,k2⟩:=h5 i hi; exact ⟨L,k1,cell_keep k2 k id⟩⟩
theorem index_no (v : Value) (l : List Int) (x : Int) (w : World) (h : MembersAt w v l) (hx : x ∉ l) : Calls Try.prog 61 #[v,.int .i64 x] w fun e w'=>e = .returned (.int .i64 (-1))∧w = w':=by
 obtain ⟨A,c,rfl,h2,h3,-,h5⟩:=h
 unfold maxLen at h3
 have HX:=Lib.hid (And.intro h5 hx)
 clear h5 hx
 go_enter Try.func61,Try.ntmps61
 go_wp2
 go_loopw [8] (fun q wr=>∃ j : Nat,j≤l.length∧q = .int .i64 j∧wr = w) (fun q _=>l.length - (intOf q).toNat)
 case atStart=>exact ⟨0,Nat.zero_le _,rfl,rfl⟩
 case round =>
  obtain ⟨j,hj,rfl,rfl⟩:=hrel
  by_cases hlt : j < l.length
  ·obtain ⟨L,rfl,c1⟩:=HX.out.1 j hlt
   have hb : (x == l[j]) = false:=by
    have:=HX.out.2
    simp only [beq_eq_false_iff_ne]
    exact fun e=>this (e ▸ List.getElem_mem hlt)
   generalize l[j] = y at c1 hb
   have b1 : (j : Int) < l.length:=by omega
   go_wp2
   go_roundw
   case rel=>exact ⟨j + 1,by omega,by go_num,trivial⟩
   case measure=>simp [intOf]; omega
  ·have ej : j = l.length:=by omega
   subst ej
   go_wp2
   go_ret
   exact ⟨rfl,rfl⟩
theorem contains_no (v : Value) (l : List Int) (x : Int) (w : World) (h : MembersAt w v l) (hx : x ∉ l) : Calls Try.prog 55 #[v,.int .i64 x] w fun e w'=>e = .returned (.bool false)∧w = w':=by
 obtain ⟨A,c,rfl,-⟩:=id h
 go_enter Try.func55,Try.ntmps55
 go_wp2_with (go_at_call 61; refine (index_no _ l x _ h hx).mono ?_; rintro e w' ⟨rfl,rfl⟩)
 go_ret
 exact ⟨rfl,rfl⟩
theorem eql_slice_nil (A : Option Addr) (n c : Nat) (w : World) (hA : A = none→c = 0) (hn : n≤c) : (binOp .eql 49 (.slice A n c) (.slice none 0 0)).run Try.prog w = .ok (.bool A.isNone) w:=by
 have h : ∀ d,(Op.equalIn (d + 1) 49 (.slice A n c) (.slice none 0 0)).run Try.prog w = .ok A.isNone w:=fun d=>by
  cases A with
  | none =>
    obtain rfl:=hA rfl
    obtain rfl : n = 0:=by omega
    simp [Op.equalIn,run_underlying Try.underlying49]
  | some a=>simp [Op.equalIn,run_underlying Try.underlying49]
 simp only [binOp]
 simp [Op.equal,Op.maxDepth,h 9999]
set_option maxRecDepth 100000 in
theorem clone_ok (v : Value) (l : List Int) (w : World) (h : MembersAt w v l) (hl : l.length≤64) : Calls Try.prog 58 #[v] w fun e w'=>∃ v',e = .returned v'∧Kept (fun _=>False) w w'∧w'.ownsRow w.heap.size 3 1 v' l.length (l.map (Value.int .i64)):=by
 obtain ⟨A,c,rfl,h2,h3,h4,h5⟩:=h
 cases A with
 | none =>
   obtain rfl:=h4 rfl
   have hl0 : l = []:=List.eq_nil_of_length_eq_zero (by omega)
   subst hl0
   have he : ∀ w,(binOp .eql 49 (.slice none 0 0) (.slice none 0 0)).run Try.prog w = .ok (.bool true) w:=fun w=>eql_slice_nil none 0 0 w (fun _=>rfl) (Nat.le_refl _)
   go_enter Try.func58,Try.ntmps58
   go_wp2
   go_ret
   exact ⟨_,rfl,Kept.refl _ _,World.ownsRow_nil _ _ _ _⟩
 | some a =>
   obtain ⟨i0,hi0,hz0,hz1,hz2⟩:=info_parts Try.infoI
   have HA:=Lib.hid (World.ownsRow_lit (base:=w.heap.size) (size:=1) (e:=3) w #[] 0 (Nat.le_refl _) (Nat.zero_le _) rfl)
   have HX:=Lib.hid h5
   have hc1 : Hid (∀ a',some a = some a'→∀ (j : Nat) (u : Value),(l.map (Value.int .i64))[j]? = some u→(w.alloc (.cells #[] 3)).cell? (a'.add j) = some u):=Lib.hid fun a' ha j u hu=>by
    cases ha
    rw [List.getElem?_map] at hu
    have hj : j < l.length:=by
     rcases Nat.lt_or_ge j l.length with hlt | hge
     ·exact hlt
     ·rw [List.getElem?_eq_none hge] at hu; cases hu
    rw [List.getElem?_eq_getElem hj] at hu
    simp only [Option.map_some,Option.some.injEq] at hu
    obtain ⟨L,k1,k2⟩:=HX.out j hj
    cases k1
    rw [show (⟨L,0,none⟩ : Addr).add j = ⟨L,j,none⟩ from by unfold Addr.add; by_cases h4 : j = 0 <;> simp [h4],← hu]
    exact cell_keep k2 (Kept.alloc (S:=fun _=>False) _ _) id
   have hc2 : Hid (∀ u ∈ l.map (Value.int .i64),u.oneCell' = true):=Lib.hid fun u hu=>by
    obtain ⟨x,_,rfl⟩:=List.mem_map.1 hu
    rfl
   have he : ∀ w,(binOp .eql 49 (.slice (some a) l.length c) (.slice none 0 0)).run Try.prog w = .ok (.bool false) w:=fun w=>eql_slice_nil (some a) _ _ w (fun h=>by cases h) h2
   clear h4 h5
   go_enter Try.func58,Try.ntmps58
   go_wp2_with (at_builtin; refine wpList_app _ rfl _ _ 49 rfl w.heap.size 3 i0 (.int .i64 0) 1 8 Try.underlying49 hi0 hz0 hz1 hz2 rfl (by decide) _ _ _ rfl HA.out (some a) l.length c rfl (fun h=>by cases h) h2 (l.map (.int .i64)) (by simp) hc1.out hc2.out (by unfold maxLen; omega) (by omega) (by simp) ?_)
   intro v1 w1 h1 k1 p1 ob1 ne1
   have HF:=Lib.hid (And.intro h1 ((Kept.alloc (S:=fun _=>False) w _).later k1 fun b hb=>(HA.out.lt b hb).1))
   clear h1 k1 p1 ob1 ne1
   obtain ⟨A1,c1',rfl⟩:=own_slice HF.out.1
   go_wp2
   go_ret
   exact ⟨_,rfl,HF.out.2,HF.out.1⟩
end Go.Proofs.Ytlhbonnminlnlaa
namespace Go.Proofs.Ytlhbonnminlnlaa
open Go.RowKit
theorem own_baseL {w : World} {b b' : Nat} {e : TypeId} {size n : Nat} {v : Value} {xs : List Value} (h : w.ownsRow b e size v n xs) (hb : b'≤b) : w.ownsRow b' e size v n xs:=by
 obtain ⟨h1,h2⟩:=h
 refine ⟨h1,?_⟩
 rcases h2 with h2 | ⟨g,cap,cur,hv,hg,r⟩
 ·exact .inl h2
 ·exact .inr ⟨g,cap,cur,hv,by omega,r⟩
theorem own_succ {w : World} {b0 n c : Nat} {e : TypeId} {A : Option Addr} {xs : List Value} (h : w.ownsRow b0 e 1 (.slice A (n + 1) c) (n + 1) xs) : ∃ L,A = some ⟨L,0,none⟩∧b0≤L∧n + 1≤c∧c≤maxLen∧∀ j u,xs[j]? = some u→w.cell? ⟨L,j,none⟩ = some u:=by
 rcases h.2 with ⟨_,h2⟩ | ⟨g,cap,cur,hv,hb,hg,h3,h4,_,h6⟩
 ·omega
 ·simp only [Value.slice.injEq] at hv
  obtain ⟨rfl,-,rfl⟩:=hv
  refine ⟨g,rfl,hb,h3,h4,fun j u hu=>?_⟩
  have hj : j < (n + 1) * 1:=by
   have h1:=h.1
   rcases Nat.lt_or_ge j xs.length with hlt | hge
   ·omega
   ·rw [List.getElem?_eq_none hge] at hu; cases hu
  exact (h.cellAt j hj).trans hu
theorem GateAt.setHd {w : World} {G : Nat} {p : Option Addr} {f : Nat→Int} (h : GateAt w G p f) (q : Option Addr) : GateAt (w.setCell ⟨G,0,none⟩ (.pointer q)) G q f where
 hd:=World.cell?_setCell_same _ _ _ (by rw [h.hd])
 num j hj:=by
  rw [World.cell?_setCell_other _ _ _ _ (by simp)]
  exact h.num j hj
 fz j:=by simp [h.fz j]
set_option maxHeartbeats 4000000 in
set_option maxRecDepth 100000 in
theorem gate_join (G i : Nat) (gp : Option Addr) (mv : Value) (ml : List Int) (f : Nat→Int) (x : Int) (w : World) (hg : GateAt w G gp f) (hb : BoxV 162 gp mv w) (hm : MembersAt w mv ml) (hi : i < 64) (hni : (i : Int) ∉ ml) (hml : ml.length≤64)
  (hgne : ∀ K,gp = some ⟨K,0,none⟩→K≠G) (hmne : ∀ A n c,mv = .slice (some A) n c→A.block≠G) :
  Calls Try.prog 32 #[.pointer (some ⟨G,0,none⟩),.nilIface,.int .i64 i,.int .i64 x] w fun e w'=>e = .returned (.int .i64 0)∧Kept (fun b=>b = G) w w'∧∃ K L c,w.heap.size≤K∧w.heap.size≤L∧GateAt w' G (some ⟨K,0,none⟩) (upd f i x) ∧
   Blk w' K 162 #[.slice (some ⟨L,0,none⟩) (ml.length + 1) c,.int .i64 0]∧ml.length + 1≤c∧c≤maxLen∧∀ j (h : j < (ml ++ [(i : Int)]).length),w'.cell? ⟨L,j,none⟩ = some (.int .i64 (ml ++ [(i : Int)])[j]):=by
 have HG:=Lib.hid hg
 have HM0:=Lib.hid (And.intro hb hm)
 have HN:=Lib.hid (And.intro hgne hmne)
 clear hg hb hm hgne hmne
 go_enter Try.func32,Try.ntmps32
 go_wp2_with (go_at_call 53; refine (refused_no _ i _ hi).mono ?_; rintro e w' ⟨rfl,rfl⟩)
 go_loopw [10] (fun _ wr=>wr = w) (fun _ _=>0)
 case atStart=>rfl
 case round =>
  subst hrel
  go_wp2_with fail
  refine (box_load_mb ⟨G,0,none⟩ gp _ HG.out.hd HM0.out.1.held).mono ?_
  rintro e w5 ⟨rfl,k5⟩
  have H5:=Lib.hid k5
  have k5z:=Lib.hid k5.size
  clear k5
  go_wp2_with fail
  have ha : Kept (fun _=>False) w5 (w5.alloc (.cells #[.pointer gp,.pointer (some ⟨G,0,none⟩)] 133)):=Kept.alloc _ _
  have hb14:=Blk.new w5 133 #[.pointer gp,.pointer (some ⟨G,0,none⟩)]
  generalize w5.alloc (.cells #[.pointer gp,.pointer (some ⟨G,0,none⟩)] 133) = w6 at *
  obtain ⟨b14,hb⟩ : ∃ x,w5.heap.size = x:=⟨_,rfl⟩
  rw [hb] at hb14 ⊢
  have H6:=Lib.hid (And.intro (H5.out.trans ha) (And.intro hb14 (And.intro hb H5.out.size)))
  clear ha hb14 hb H5
  refine (held_value_mb (some ⟨G,0,none⟩) gp mv _ (HM0.out.1.kept H6.out.1)).mono ?_
  rintro e w7 ⟨rfl,k7⟩
  have H7:=Lib.hid (H6.out.1.trans k7)
  have H67:=Lib.hid k7
  clear k7
  go_wp2_with fail
  refine (contains_no mv ml i _ (HM0.out.2.kept H7.out) hni).mono ?_
  rintro e w8 ⟨rfl,rfl⟩
  go_wp2_with fail
  refine (gate_set G i gp f x _ (HG.out.kept H7.out id) hi).mono ?_
  rintro e w8 ⟨rfl,hw8⟩
  have hGlt:=HG.out.lt
  obtain ⟨q1,q2,q3,q4⟩:=H6.out
  have hne : b14≠G:=by have:=q1.size; have:=k5z.out; omega
  have kG7 : Kept (fun b=>b = G) w7 w8:=hw8 ▸ Kept.setCell (S:=fun b=>b = G) w7 (p:=⟨G,1 + i,none⟩) (by rfl) _
  have hG8 : GateAt w8 G gp (upd f i x):=hw8 ▸ (HG.out.kept H7.out id).setNum hi x
  have hb8:=(q2.kept H67.out id).kept kG7 hne
  have hB8 : BoxV 162 gp mv w8:=by
   rcases HM0.out.1.kept H7.out with hx | ⟨K,b,h1,h2⟩
   ·exact .inl hx
   ·exact .inr ⟨K,b,h1,h2.kept kG7 (HN.out.1 K h1)⟩
  have hM8 : MembersAt w8 mv ml:=by
   obtain ⟨A,c,h1,h2,h3,h4,h5⟩:=HM0.out.2.kept H7.out
   exact ⟨A,c,h1,h2,h3,h4,fun j hj=>by
    obtain ⟨L,k1,k2⟩:=h5 j hj
    exact ⟨L,k1,cell_keep k2 kG7 (HN.out.2 ⟨L,0,none⟩ _ _ (by rw [h1,k1]))⟩⟩
  have HM:=Lib.hid (And.intro hB8 hM8)
  have HG8:=Lib.hid hG8
  have HB8:=Lib.hid hb8
  have HK8:=Lib.hid ((H7.out.mono fun _ _ z=>z.elim).trans kG7)
  clear q1 q2 q3 q4 kG7 hG8 hb8 hB8 hM8 hw8 H6 H7 H67 hGlt
  go_wp2_with fail
  rename_i K0 hK0
  refine strictL ?_
  refine wp_region_held (S:=Kept (fun b=>b = G) w8) (by kernel_rfl) ?_
  simp only [List.size_toArray,List.length_cons,List.length_nil,Nat.reduceAdd]
  have HW1 : Hid (Kept (fun b=>b = G) w8 { w8 with drawn:=w8.drawn + 1 }):=Lib.hid (Kept.drew w8)
  iterate 7
   first
   | refine rdL 0 11 31 ?_
   | refine rdL 1 10 32 ?_
   | refine rdL 2 9 33 ?_
   | refine rdL 3 8 34 ?_
   | refine rdL 4 7 35 ?_
   | refine rdL 5 6 36 ?_
   | refine rdL 8 5 39 ?_
   refine ⟨_,rfl,rfl,by kernel_rfl,by kernel_rfl,by kernel_rfl,(fun c a w h=>by cases h.1),rfl,HW1.out,?_⟩
   apply Exists.intro
   refine ⟨fun wq hw=>?_,?_⟩
   ·have hb:=HB8.out.kept hw hne
    have c0 : wq.cell? ⟨b14,0,none⟩ = some (.pointer gp):=hb.cell 0
    have c1 : wq.cell? ⟨b14,1,none⟩ = some (.pointer (some ⟨G,0,none⟩)):=hb.cell 1
    clear hb
    go_simp
    rfl
   simp only [Act.put,List.setIfInBounds_toArray,List.set_cons_zero,List.set_cons_succ]
  have hkd : Kept (fun _=>False) w8 { w8 with drawn:=w8.drawn + 1 }:=Kept.drew w8
  clear HW1
  generalize ({ w8 with drawn:=w8.drawn + 1 } : World) = wd at hkd ⊢
  have HY0:=Lib.hid hkd
  clear hkd
  refine wpAnyH_all (rs:=[6,9]) (fuel:=4) (by kernel_rfl) (by simp) fun i hi=>?_
  simp only [List.mem_cons,List.not_mem_nil,or_false] at hi
  rcases hi with rfl | rfl
  ·refine opL rfl rfl ?_
   unfold Oper.wp
   go_simp
   refine (held_value_mb (some ⟨G,0,none⟩) gp mv _ (HM.out.1.kept HY0.out)).mono ?_
   rintro e wa1 ⟨rfl,k6⟩
   dsimp only
   have HY1:=Lib.hid (HY0.out.trans k6)
   have HK6:=Lib.hid k6
   clear k6
   refine ⟨HY1.out.mono fun _ _ z=>z.elim,?_⟩
   refine wpAnyH_all (rs:=[7,9]) (fuel:=3) (by kernel_rfl) (by simp) fun i hi=>?_
   simp only [List.mem_cons,List.not_mem_nil,or_false] at hi
   rcases hi with rfl | rfl
   ·refine opL rfl rfl ?_
    unfold Oper.wp
    go_simp
    refine (clone_ok mv ml _ (HM.out.2.kept HY1.out) hml).mono ?_
    rintro e wb ⟨v7,rfl,k7,o7⟩
    obtain ⟨vA,vc,rfl⟩:=own_slice o7
    dsimp only
    have HO:=Lib.hid (own_baseL o7 HY1.out.size)
    have HY2:=Lib.hid (HY1.out.trans k7)
    have HK7:=Lib.hid k7
    clear k7 o7
    refine ⟨HY2.out.mono fun _ _ z=>z.elim,?_⟩
    refine wpAnyH_all (rs:=[9]) (fuel:=2) (by kernel_rfl) (by simp) fun i hi=>?_
    simp only [List.mem_cons,List.not_mem_nil,or_false] at hi
    subst hi
    refine opL rfl rfl ?_
    unfold Oper.wp
    go_simp
    have hal:=Kept.alloc (S:=fun _=>False) wb (.cells #[.int .i64 i] 3)
    have hbx:=Blk.new wb 3 #[.int .i64 (i : Int)]
    generalize wb.alloc (.cells #[.int .i64 i] 3) = wc at hal hbx ⊢
    obtain ⟨xa,hxa⟩ : ∃ xa,xa = wb.heap.size:=⟨_,rfl⟩
    rw [← hxa] at hbx ⊢
    clear hxa
    have HY3:=Lib.hid (HY2.out.trans hal)
    have HAL:=Lib.hid hal
    have HX:=Lib.hid hbx
    clear hal hbx
    refine ⟨HY3.out.mono fun _ _ z=>z.elim,?_⟩
    have hxc : wc.cell? ⟨xa,0,none⟩ = some (.int .i64 i):=HX.out.cell 0
    have HY:=HY3
    have hO:=(own_kept HO.out HAL.out (fun _ _ z=>z))
    generalize wc = y at hxc HY hO ⊢
    obtain ⟨i0,hi0,hz0,hz1,hz2⟩:=info_parts Try.infoI
    have hY:=HY.out
    refine oneL (i:=10) (fuel:=1) (by kernel_rfl) rfl rfl fun K hK'=>?_
    refine wp_append_own y _ _ 49 rfl w8.heap.size 3 i0 (.int .i64 0) 1 8 Try.underlying49 hi0 hz0 hz1 hz2 rfl (by decide) (.slice vA ml.length vc) ml.length (ml.map (.int .i64)) rfl hO ⟨xa,0,none⟩ 1 1 [.int .i64 i] rfl rfl ?_ (by simp [Value.oneCell']) (by unfold maxLen; omega) (by omega) hY.size fun v' u1 h1 h2 h3=>?_
    ·intro j u hu
     cases j with
     | zero=>simp at hu; subst hu; simpa [Addr.add] using hxc
     | succ j=>simp at hu
    have hu : Kept (fun _=>False) w8 u1:=hY.later (Kept.grown (S:=fun b=>(Value.slice vA ml.length vc).ownBlock = some b) h2 (fun k hk=>hk)) (fun b hb=>(hO.lt b hb).1)
    obtain ⟨A',c',rfl⟩:=own_slice h1
    refine hK' _ _ (hu.mono fun _ _ z=>z.elim) ?_
    clear hK' K
    have HF:=Lib.hid (And.intro hu h1)
    have hGu:=HG8.out.kept hu id
    have hPu:=HM.out.1.held.kept hu
    have HGU:=Lib.hid hGu
    clear h2 h3 hxc hi0 hz0 hz1 hz2 h1 hO hu hY
    refine oneL (i:=11) (fuel:=0) (by kernel_rfl) rfl rfl fun K hK'=>?_
    unfold Oper.wp
    go_simp
    refine (box_cas_mb ⟨G,0,none⟩ gp _ (ml.length + 1) c' A' u1 HGU.out.hd (HGU.out.fz 0) hPu rfl).mono ?_
    rintro e u2 ⟨rfl,kc,K1,hK1,bK1,u3,k3,hlt3,hu2⟩
    dsimp only
    have kc' : Kept (fun b=>b = G) u1 u2:=kc
    have HC:=Lib.hid (And.intro kc' (And.intro bK1 (And.intro k3 hu2)))
    refine hK' _ _ ((HF.out.1.mono fun _ _ z=>z.elim).trans kc') ?_
    clear hK' K kc kc' bK1 k3 hu2 hGu hPu
    refine wpAnyH_done (by kernel_rfl) ⟨rfl,?_⟩ _
    refine hK0 _ _ ?_
    go_wp2
    go_ret
    obtain ⟨kc,bK1,k3,hu2⟩:=HC.out
    obtain ⟨hu,h1⟩:=HF.out
    have hsz8:=HK8.out.size
    have hszu:=hu.size
    obtain ⟨L,hL,hL8,hc1,hc2,hcell⟩:=own_succ h1
    have hGlt:=HG.out.lt
    subst hL
    refine ⟨rfl,(HK8.out.trans (hu.mono fun _ _ z=>z.elim)).trans kc,K1,L,c',by omega,by omega,?_,bK1,hc1,hc2,fun j hj=>?_⟩
    ·rw [hu2]
     exact (HGU.out.kept k3 id).setHd _
    ·refine cell_keep (hcell j _ ?_) kc (fun e=>by have e : L = G:=e; omega)
     rw [show ml.map (Value.int .i64) ++ [Value.int .i64 (i : Int)] = (ml ++ [(i : Int)]).map (Value.int .i64) from by simp,List.getElem?_map,List.getElem?_eq_getElem hj]
     rfl
   ·refine opL rfl rfl ?_
    unfold Oper.wp
    go_simp
    have hal:=Kept.alloc (S:=fun _=>False) wa1 (.cells #[.int .i64 i] 3)
    have hbx:=Blk.new wa1 3 #[.int .i64 (i : Int)]
    generalize wa1.alloc (.cells #[.int .i64 i] 3) = wc at hal hbx ⊢
    obtain ⟨xa,hxa⟩ : ∃ xa,xa = wa1.heap.size:=⟨_,rfl⟩
    rw [← hxa] at hbx ⊢
    clear hxa
    have HY2:=Lib.hid (HY1.out.trans hal)
    have HAL:=Lib.hid hal
    have HX:=Lib.hid hbx
    clear hal hbx
    refine ⟨HY2.out.mono fun _ _ z=>z.elim,?_⟩
    refine wpAnyH_all (rs:=[7]) (fuel:=2) (by kernel_rfl) (by simp) fun i hi=>?_
    simp only [List.mem_cons,List.not_mem_nil,or_false] at hi
    subst hi
    refine opL rfl rfl ?_
    unfold Oper.wp
    go_simp
    refine (clone_ok mv ml _ (HM.out.2.kept HY2.out) hml).mono ?_
    rintro e wb ⟨v7,rfl,k7,o7⟩
    obtain ⟨vA,vc,rfl⟩:=own_slice o7
    dsimp only
    have HO:=Lib.hid (own_baseL o7 HY2.out.size)
    have HY3:=Lib.hid (HY2.out.trans k7)
    have HK7:=Lib.hid k7
    clear k7 o7
    refine ⟨HY3.out.mono fun _ _ z=>z.elim,?_⟩
    have hxc : wb.cell? ⟨xa,0,none⟩ = some (.int .i64 i):=(HX.out.kept HK7.out id).cell 0
    have HY:=HY3
    have hO:=HO.out
    generalize wb = y at hxc HY hO ⊢
    obtain ⟨i0,hi0,hz0,hz1,hz2⟩:=info_parts Try.infoI
    have hY:=HY.out
    refine oneL (i:=10) (fuel:=1) (by kernel_rfl) rfl rfl fun K hK'=>?_
    refine wp_append_own y _ _ 49 rfl w8.heap.size 3 i0 (.int .i64 0) 1 8 Try.underlying49 hi0 hz0 hz1 hz2 rfl (by decide) (.slice vA ml.length vc) ml.length (ml.map (.int .i64)) rfl hO ⟨xa,0,none⟩ 1 1 [.int .i64 i] rfl rfl ?_ (by simp [Value.oneCell']) (by unfold maxLen; omega) (by omega) hY.size fun v' u1 h1 h2 h3=>?_
    ·intro j u hu
     cases j with
     | zero=>simp at hu; subst hu; simpa [Addr.add] using hxc
     | succ j=>simp at hu
    have hu : Kept (fun _=>False) w8 u1:=hY.later (Kept.grown (S:=fun b=>(Value.slice vA ml.length vc).ownBlock = some b) h2 (fun k hk=>hk)) (fun b hb=>(hO.lt b hb).1)
    obtain ⟨A',c',rfl⟩:=own_slice h1
    refine hK' _ _ (hu.mono fun _ _ z=>z.elim) ?_
    clear hK' K
    have HF:=Lib.hid (And.intro hu h1)
    have hGu:=HG8.out.kept hu id
    have hPu:=HM.out.1.held.kept hu
    have HGU:=Lib.hid hGu
    clear h2 h3 hxc hi0 hz0 hz1 hz2 h1 hO hu hY
    refine oneL (i:=11) (fuel:=0) (by kernel_rfl) rfl rfl fun K hK'=>?_
    unfold Oper.wp
    go_simp
    refine (box_cas_mb ⟨G,0,none⟩ gp _ (ml.length + 1) c' A' u1 HGU.out.hd (HGU.out.fz 0) hPu rfl).mono ?_
    rintro e u2 ⟨rfl,kc,K1,hK1,bK1,u3,k3,hlt3,hu2⟩
    dsimp only
    have kc' : Kept (fun b=>b = G) u1 u2:=kc
    have HC:=Lib.hid (And.intro kc' (And.intro bK1 (And.intro k3 hu2)))
    refine hK' _ _ ((HF.out.1.mono fun _ _ z=>z.elim).trans kc') ?_
    clear hK' K kc kc' bK1 k3 hu2 hGu hPu
    refine wpAnyH_done (by kernel_rfl) ⟨rfl,?_⟩ _
    refine hK0 _ _ ?_
    go_wp2
    go_ret
    obtain ⟨kc,bK1,k3,hu2⟩:=HC.out
    obtain ⟨hu,h1⟩:=HF.out
    have hsz8:=HK8.out.size
    have hszu:=hu.size
    obtain ⟨L,hL,hL8,hc1,hc2,hcell⟩:=own_succ h1
    have hGlt:=HG.out.lt
    subst hL
    refine ⟨rfl,(HK8.out.trans (hu.mono fun _ _ z=>z.elim)).trans kc,K1,L,c',by omega,by omega,?_,bK1,hc1,hc2,fun j hj=>?_⟩
    ·rw [hu2]
     exact (HGU.out.kept k3 id).setHd _
    ·refine cell_keep (hcell j _ ?_) kc (fun e=>by have e : L = G:=e; omega)
     rw [show ml.map (Value.int .i64) ++ [Value.int .i64 (i : Int)] = (ml ++ [(i : Int)]).map (Value.int .i64) from by simp,List.getElem?_map,List.getElem?_eq_getElem hj]
     rfl
  ·refine opL rfl rfl ?_
   unfold Oper.wp
   go_simp
   have hal:=Kept.alloc (S:=fun _=>False) wd (.cells #[.int .i64 i] 3)
   have hbx:=Blk.new wd 3 #[.int .i64 (i : Int)]
   generalize wd.alloc (.cells #[.int .i64 i] 3) = wc at hal hbx ⊢
   obtain ⟨xa,hxa⟩ : ∃ xa,xa = wd.heap.size:=⟨_,rfl⟩
   rw [← hxa] at hbx ⊢
   clear hxa
   have HY1:=Lib.hid (HY0.out.trans hal)
   have HAL:=Lib.hid hal
   have HX:=Lib.hid hbx
   clear hal hbx
   refine ⟨HY1.out.mono fun _ _ z=>z.elim,?_⟩
   refine wpAnyH_all (rs:=[6]) (fuel:=3) (by kernel_rfl) (by simp) fun i hi=>?_
   simp only [List.mem_cons,List.not_mem_nil,or_false] at hi
   subst hi
   refine opL rfl rfl ?_
   unfold Oper.wp
   go_simp
   refine (held_value_mb (some ⟨G,0,none⟩) gp mv _ (HM.out.1.kept HY1.out)).mono ?_
   rintro e wa1 ⟨rfl,k6⟩
   dsimp only
   have HY2:=Lib.hid (HY1.out.trans k6)
   have HK6:=Lib.hid k6
   clear k6
   refine ⟨HY2.out.mono fun _ _ z=>z.elim,?_⟩
   refine wpAnyH_all (rs:=[7]) (fuel:=2) (by kernel_rfl) (by simp) fun i hi=>?_
   simp only [List.mem_cons,List.not_mem_nil,or_false] at hi
   subst hi
   refine opL rfl rfl ?_
   unfold Oper.wp
   go_simp
   refine (clone_ok mv ml _ (HM.out.2.kept HY2.out) hml).mono ?_
   rintro e wb ⟨v7,rfl,k7,o7⟩
   obtain ⟨vA,vc,rfl⟩:=own_slice o7
   dsimp only
   have HO:=Lib.hid (own_baseL o7 HY2.out.size)
   have HY3:=Lib.hid (HY2.out.trans k7)
   have HK7:=Lib.hid k7
   clear k7 o7
   refine ⟨HY3.out.mono fun _ _ z=>z.elim,?_⟩
   have hxc : wb.cell? ⟨xa,0,none⟩ = some (.int .i64 i):=((HX.out.kept HK6.out id).kept HK7.out id).cell 0
   have HY:=HY3
   have hO:=HO.out
   generalize wb = y at hxc HY hO ⊢
   obtain ⟨i0,hi0,hz0,hz1,hz2⟩:=info_parts Try.infoI
   have hY:=HY.out
   refine oneL (i:=10) (fuel:=1) (by kernel_rfl) rfl rfl fun K hK'=>?_
   refine wp_append_own y _ _ 49 rfl w8.heap.size 3 i0 (.int .i64 0) 1 8 Try.underlying49 hi0 hz0 hz1 hz2 rfl (by decide) (.slice vA ml.length vc) ml.length (ml.map (.int .i64)) rfl hO ⟨xa,0,none⟩ 1 1 [.int .i64 i] rfl rfl ?_ (by simp [Value.oneCell']) (by unfold maxLen; omega) (by omega) hY.size fun v' u1 h1 h2 h3=>?_
   ·intro j u hu
    cases j with
    | zero=>simp at hu; subst hu; simpa [Addr.add] using hxc
    | succ j=>simp at hu
   have hu : Kept (fun _=>False) w8 u1:=hY.later (Kept.grown (S:=fun b=>(Value.slice vA ml.length vc).ownBlock = some b) h2 (fun k hk=>hk)) (fun b hb=>(hO.lt b hb).1)
   obtain ⟨A',c',rfl⟩:=own_slice h1
   refine hK' _ _ (hu.mono fun _ _ z=>z.elim) ?_
   clear hK' K
   have HF:=Lib.hid (And.intro hu h1)
   have hGu:=HG8.out.kept hu id
   have hPu:=HM.out.1.held.kept hu
   have HGU:=Lib.hid hGu
   clear h2 h3 hxc hi0 hz0 hz1 hz2 h1 hO hu hY
   refine oneL (i:=11) (fuel:=0) (by kernel_rfl) rfl rfl fun K hK'=>?_
   unfold Oper.wp
   go_simp
   refine (box_cas_mb ⟨G,0,none⟩ gp _ (ml.length + 1) c' A' u1 HGU.out.hd (HGU.out.fz 0) hPu rfl).mono ?_
   rintro e u2 ⟨rfl,kc,K1,hK1,bK1,u3,k3,hlt3,hu2⟩
   dsimp only
   have kc' : Kept (fun b=>b = G) u1 u2:=kc
   have HC:=Lib.hid (And.intro kc' (And.intro bK1 (And.intro k3 hu2)))
   refine hK' _ _ ((HF.out.1.mono fun _ _ z=>z.elim).trans kc') ?_
   clear hK' K kc kc' bK1 k3 hu2 hGu hPu
   refine wpAnyH_done (by kernel_rfl) ⟨rfl,?_⟩ _
   refine hK0 _ _ ?_
   go_wp2
   go_ret
   obtain ⟨kc,bK1,k3,hu2⟩:=HC.out
   obtain ⟨hu,h1⟩:=HF.out
   have hsz8:=HK8.out.size
   have hszu:=hu.size
   obtain ⟨L,hL,hL8,hc1,hc2,hcell⟩:=own_succ h1
   have hGlt:=HG.out.lt
   subst hL
   refine ⟨rfl,(HK8.out.trans (hu.mono fun _ _ z=>z.elim)).trans kc,K1,L,c',by omega,by omega,?_,bK1,hc1,hc2,fun j hj=>?_⟩
   ·rw [hu2]
    exact (HGU.out.kept k3 id).setHd _
   ·refine cell_keep (hcell j _ ?_) kc (fun e=>by have e : L = G:=e; omega)
    rw [show ml.map (Value.int .i64) ++ [Value.int .i64 (i : Int)] = (ml ++ [(i : Int)]).map (Value.int .i64) from by simp,List.getElem?_map,List.getElem?_eq_getElem hj]
    rfl
end Go.Proofs.Ytlhbonnminlnlaa
namespace Go.Proofs.Ytlhbonnminlnlaa
open Go.RowKit Go.Turn Go.Tame Go.Conc
abbrev RSS : Type:=RdS × (Nat→List Ans)
set_option maxRecDepth 100000 in
theorem gate_step {D : OpsD} {L : Lg Try.prog (Tree D.St D.St)} {Cap : (Nat→Prop)→World→Prop} {sb : Nat} (hre : ∀ H w τ n,Cap H w→Cap H (w.re τ n)) (hcap : ∀ H w H' w',Cap H w→Held H w H' w'→Cap H' w') (hS : StepO D L Cap sb) (s : D.St) (H : Nat→Prop) (k : D.St→Tree D.St D.St) (w : World) (hr : RepO D s H w) (hc : Cap H w) :
  Ccalls L 59 #[.iface 171 (.pointer (some ⟨sb,0,none⟩))] (.yield s k) w fun u t' w'=>u = .tuple #[]∧∃ s' H',t' = k s'∧(RepO D s' H' w'∧Cap H' w')∧Held H w H' w':=by
 intro c mid hR
 rw [show Frame.enter Try.prog 59 #[.iface 171 (.pointer (some ⟨sb,0,none⟩))] .normal = Frame.at { (default : Frame) with fn:=59,kind:=.normal } ⟨#[.iface 171 (.pointer (some ⟨sb,0,none⟩))] ++ Array.replicate (Try.f59.ntmps - 1) undef,[]⟩ [.code (Try.f59.body.getD .skip)] from by simp [Frame.enter,Frame.at,Try.func59]; rfl]
 simp only [Try.f59,Option.getD_some,Nat.reduceSub,Array.replicate_succ,Array.replicate_zero,List.push_toArray,List.append_toArray,List.nil_append,List.cons_append]
 refine Lg.move _ (fun _ _=>step_seq) (fun h=>h) ?_
 have HR:=Lib.hid hR
 have Hr:=Lib.hid hr
 clear hR hr
 refine Lg.code fun K hK y τ n hy=>?_
 go_wp2
 refine hK _ _ (fun _=>rfl) ?_
 clear hK K
 subst hy
 refine Lg.move _ (fun _ _=>step_cond rfl) (fun h=>h) ?_
 refine Lg.move _ (fun _ _=>step_region) (fun h=>h) ?_
 refine Lg.pre 0 1 1 (by simp) fun K hK z τ3 n3 hz=>?_
 subst hz
 have hr : RepO D s H z:=Hr.out.re.re
 have hc : Cap H z:=hcap _ _ _ _ hc (re_held.2 (re_held.2 (Held.refl _ _)))
 have hm:=fun wx=>method_stand 307 ⟨sb,0,none⟩ wx
 go_wp2
 refine hK _ _ (fun _=>rfl) ?_
 clear hK K
 refine Lg.call (i:=1) (rest:=[]) (f:=113) (args:=#[.pointer (some ⟨sb,0,none⟩)]) rfl rfl (fun y=>?_) (hS s H k z hr hc) ?_
 ·go_simp
 rintro vv t' w' ⟨rfl,s',H',rfl,⟨hr',hc'⟩,hh⟩
 rw [Frame.finish_at]
 walk_nrm
 refine Lg.move _ (fun _ _=>step_region_end) (fun h=>h) ?_
 refine Lg.move _ (fun _ _=>step_end) (fun h=>h) ?_
 exact Lg.leave rfl Try.func59 rfl (fun _ _ _ _=>by simp [results,Try.f59]) (HR.out _ _ _ ⟨rfl,s',H',rfl,⟨hr',hc'⟩,re_held.2 (re_held.2 hh)⟩)
theorem gate_sstep {D : OpsD} {L : Lg Try.prog (Tree D.St D.St)} {Cap : (Nat→Prop)→World→Prop} {sb : Nat} (hre : ∀ H w τ n,Cap H w→Cap H (w.re τ n)) (hcap : CapK Cap) (hS : StepO D L Cap sb) : SStep D L Cap 59 (.iface 171 (.pointer (some ⟨sb,0,none⟩))):=
 fun H0 w0 s H k w h=>(gate_step hre hcap hS s H k w h.rep (hcap _ _ _ _ h.cap0 h.held)).mono fun v t' w' ⟨e,s',H',e2,h2,h3⟩=>⟨e,s',H',e2,h2.1,h.cap0,h.held.trans h3⟩
def gsetT (i : Nat) (x : Int) (s : RSS) (k : RSS→Tree RSS RSS) : Tree RSS RSS:=.yield s fun s=>k ({ s.1 with num:=upd s.1.num i x },s.2)
section
variable {I : RIds} (hI : I.Ok)
include hI
theorem Lay.At.num {S : RdS} {w : World} (h : (readY I).At S w) {i : Nat} (hi : i < 64) : w.cell? ⟨I.gt,1 + i,none⟩ = some (.int .i64 (S.num i)):=
 h.cell I.gt (1 + i) _ ((layR_at hI (x:=.ga) trivial S (1 + i)).trans (by rw [Nat.add_comm]; show (if i < 64 then _ else _) = _; rw [if_pos hi]))
theorem Lay.At.gz {S : RdS} {w : World} (h : (readY I).At S w) (o : Nat) : w.frozen? ⟨I.gt,o,none⟩ = false:=h.free ⟨.ga,trivial,rfl⟩ o
theorem r_num {B : OpsB} {good : OpI→Prop} {s : RSS} {H : Nat→Prop} {w : World} (h : RepO (B.on (readY I).inner good) s H w) {i : Nat} (hi : i < 64) (x : Int) :
  RepO (B.on (readY I).inner good) ({ s.1 with num:=upd s.1.num i x },s.2) H (w.setCell ⟨I.gt,1 + i,none⟩ (.int .i64 x))∧Held H w H (w.setCell ⟨I.gt,1 + i,none⟩ (.int .i64 x)):=by
 have ha : (readY I).At s.1 w:=h.at_
 exact lay_set h (t_num hI hi s.1 x) ⟨ha.ok.c0,ha.ok.c1,ha.ok.rn,ha.ok.fn⟩ fun G hG hb=>box_set rfl (fun z=>by have:=z.2; omega) G hG hb
end
set_option maxRecDepth 100000 in
theorem gate_setT {I : RIds} (hI : I.Ok) {B : OpsB} {good : OpI→Prop} {L : Lg Try.prog (Tree RSS RSS)} {Cap : (Nat→Prop)→World→Prop} {V : Value} (hk : CapK Cap) (hS : SStep (B.on (readY I).inner good) L Cap 59 V) (H0 : Nat→Prop) (w0 : World) (s : RSS) (H : Nat→Prop) (w : World) (hn : Now (B.on (readY I).inner good) Cap H0 w0 s H w) (i : Nat) (hi : i < 64) (x : Int) (k : RSS→Tree RSS RSS) :
  Ccalls L 33 #[.pointer (some ⟨I.gt,0,none⟩),V,.int .i64 i,.int .i64 x] (gsetT i x s k) w fun u t' w'=>∃ s' H',u = .int .i64 0∧t' = k s'∧Now (B.on (readY I).inner good) Cap H0 w0 s' H' w':=by
 have h0 : (0 : Int)≤i:=by omega
 have h1 : (i : Int) < 64:=by omega
 intro c mid hR
 have HR:=Lib.hid hR
 have HN:=Lib.hid hn
 clear hR hn
 rw [show Frame.enter Try.prog 33 #[.pointer (some ⟨I.gt,0,none⟩),V,.int .i64 i,.int .i64 x] .normal = Frame.at { (default : Frame) with fn:=33,kind:=.normal } ⟨#[.pointer (some ⟨I.gt,0,none⟩),V,.int .i64 i,.int .i64 x] ++ Array.replicate (Try.f33.ntmps - 4) undef,[]⟩ [.code (Try.f33.body.getD .skip)] from by simp [Frame.enter,Frame.at,Try.func33]; rfl]
 simp only [Try.f33,Option.getD_some,Nat.reduceSub,Array.replicate_succ,Array.replicate_zero,List.push_toArray,List.append_toArray,List.nil_append,List.cons_append]
 unfold gsetT
 repeat (first
  | with_reducible refine Lg.mv_seq _ ?_
  | with_reducible refine Lg.mv_skip _ ?_
  | with_reducible refine Lg.mv_block _ ?_
  | with_reducible refine Lg.mv_inBlock _ ?_
  | with_reducible refine Lg.mv_end _ ?_
  | ((with_reducible refine Lg.mv_condT _ ?_ ?_); exact rfl)
  | ((with_reducible refine Lg.mv_condF _ ?_ ?_); exact rfl)
  | ((with_reducible apply Lg.mv_exit); exact rfl)
  | (with_reducible refine Lg.mv_reg _ ?_
     intro K hK y τ n' hy
     subst hy
     have hn:=HN.out.re hk
     clear HN
     have HN:=Lib.hid hn
     clear hn
     go_wp2_with (go_at_call 53; refine (refused_no _ i _ hi).mono ?_; rintro e w' ⟨rfl,hw'⟩; subst hw')
     refine hK _ _ (fun _=>rfl) ?_
     clear hK K))
 with_reducible refine Lg.mv_region _ ?_
 refine Lg.pre 0 1 1 (by simp) fun K hK z τ n' hz=>?_
 subst hz
 go_wp2
 refine hK _ _ (fun _=>rfl) ?_
 clear hK K
 refine Lg.call (i:=1) (rest:=[]) (f:=59) (args:=#[V]) rfl rfl (fun y=>by go_simp) (hS _ _ _ _ _ _ (HN.out.re hk)) ?_
 rintro vv t' w' ⟨rfl,s,H,rfl,hn⟩
 clear HN
 rw [Frame.finish_at]
 walk_nrm
 with_reducible refine Lg.mv_end _ ?_
 have HN:=Lib.hid hn
 clear hn
 with_reducible refine Lg.mv_seq _ ?_
 with_reducible refine Lg.mv_reg _ ?_
 intro K hK y τ n' hy
 subst hy
 have hn:=HN.out.re hk
 clear HN
 have HN:=Lib.hid hn
 clear hn
 have hat : (readY I).At s.1 y:=HN.out.rep.at_
 have c0:=hat.num hI hi
 have z0:=hat.gz hI (1 + i)
 have HS:=Lib.hid (r_num hI HN.out.rep hi x)
 clear hat
 go_wp2_with (go_at_call 27; refine (atomic_store _ x _ _ c0 z0).mono ?_; rintro e w' ⟨rfl,rfl⟩)
 refine hK _ _ (fun _=>rfl) ?_
 clear hK K c0 z0
 have hn:=HN.out.to hk HS.out
 clear HS HN
 generalize World.setCell _ _ _ = y' at hn ⊢
 have HN:=Lib.hid hn
 clear hn
 repeat (first
  | with_reducible refine Lg.mv_seq _ ?_
  | with_reducible refine Lg.mv_skip _ ?_
  | with_reducible refine Lg.mv_block _ ?_
  | with_reducible refine Lg.mv_inBlock _ ?_
  | with_reducible refine Lg.mv_end _ ?_
  | ((with_reducible refine Lg.mv_condT _ ?_ ?_); exact rfl)
  | ((with_reducible refine Lg.mv_condF _ ?_ ?_); exact rfl)
  | ((with_reducible apply Lg.mv_exit); exact rfl)
  | (with_reducible refine Lg.mv_reg _ ?_
     intro K hK y τ n' hy
     subst hy
     have hn:=HN.out.re hk
     clear HN
     have HN:=Lib.hid hn
     clear hn
     go_wp2_with (go_at_call 53; refine (refused_no _ i _ hi).mono ?_; rintro e w' ⟨rfl,hw'⟩; subst hw')
     refine hK _ _ (fun _=>rfl) ?_
     clear hK K))
 with_reducible refine Lg.mv_ret _ ?_
 exact Lg.leave rfl Try.func33 rfl (v:=.int .i64 0) (fun _ _ _ _=>by simp [results,Try.f33]) (HR.out _ _ _ ⟨_,H,rfl,rfl,HN.out⟩)
end Go.Proofs.Ytlhbonnminlnlaa
