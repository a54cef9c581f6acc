/- DERIVED. Who holds the writers back (package gate) among threads: Set. -/
import Derived.Test.YtlhbonnminlnlaaGj
import Derived.Test.YtlhbonnminlnlaaGi
import Derived.Test.YtlhbonnminlnlaaGh
import Derived.Laws.LoneSync
import Derived.Lib.Builder
import Derived.LaidEql
set_option linter.unusedVariables false
set_option linter.unusedSectionVars false
set_option linter.unusedSimpArgs false
namespace Go.Proofs.Ytlhbonnminlnlaa
open Go.RowKit Go.Turn Go.Tame Go.Conc
open Go.ConcN (upd upd_ne upd_same)
structure RdS where
  cursor : Int
  seen : Int
  st : Nat→Int
  va : Nat→Int
  mem : Option (List Int)
  num : Nat→Int
  rj : Nat→Bool
  rn : Nat→Int
  fn : Nat→Int
inductive Wh where
  | wo | mu | rg | sl | cu | se | ga | lr | lf | rd (j : Nat) | fo (j : Nat)
  deriving DecidableEq
structure RIds where
  M : MIds
  wb : Nat
  gt : Nat
  lr : Nat
  lf : Nat
  rd : Nat→Nat
  fo : Nat→Nat
  k : Nat
  rA : Option Addr
  rc : Nat
  fA : Option Addr
  fc : Nat
def RIds.blk (I : RIds) : Wh→Nat
  | .wo=>I.wb
  | .mu=>I.M.mb
  | .rg=>I.M.rb
  | .sl=>I.M.gb
  | .cu=>I.M.cb
  | .se=>I.M.eb
  | .ga=>I.gt
  | .lr=>I.lr
  | .lf=>I.lf
  | .rd j=>I.rd j
  | .fo j=>I.fo j
def RIds.val (I : RIds) : Wh→Prop
  | .lr=>0 < I.k
  | .lf=>0 < I.k
  | .rd j=>j < I.k
  | .fo j=>j < I.k
  | _=>True
open Classical in
noncomputable def RIds.what (I : RIds) (b : Nat) : Option Wh:=if h : ∃ x,I.val x∧I.blk x = b then some h.choose else none
structure RIds.Ok (I : RIds) : Prop where
  n0 : 0 < I.M.n
  n2 : I.M.n≤65536
  f0 : 0≤I.M.first
  f1 : I.M.first < 4611686018427387904
  k64 : I.k≤64
  rAk : 0 < I.k→I.rA = some ⟨I.lr,0,none⟩∧I.fA = some ⟨I.lf,0,none⟩
  caps : I.k≤I.rc∧I.rc≤maxLen∧I.k≤I.fc∧I.fc≤maxLen
  inj : ∀ x y,I.val x→I.val y→I.blk x = I.blk y→x = y
theorem RIds.what_blk {I : RIds} (h : I.Ok) {x : Wh} (hv : I.val x) : I.what (I.blk x) = some x:=by
  have he : ∃ y,I.val y∧I.blk y = I.blk x:=⟨x,hv,rfl⟩
  unfold RIds.what
  rw [dif_pos he]
  exact congrArg some (h.inj _ _ he.choose_spec.1 hv he.choose_spec.2)
theorem RIds.what_some {I : RIds} {b : Nat} {x : Wh} (h : I.what b = some x) : I.val x∧I.blk x = b:=by
  unfold RIds.what at h
  split at h
  · rename_i he
    cases h
    exact he.choose_spec
  · cases h
def cellR (I : RIds) (S : RdS) (x : Wh) (o : Nat) : Option Value:=match x with
  | .wo=>match o with
    | 0=>some (.pointer (some ⟨I.M.mb,0,none⟩))
    | 1=>some (.pointer (some ⟨I.gt,0,none⟩))
    | 2=>some (.slice I.rA I.k I.rc)
    | 3=>some (.slice I.fA I.k I.fc)
    | _=>none
  | .mu=>match o with
    | 0=>some (.pointer (some ⟨I.M.rb,0,none⟩))
    | 1=>some (.int .i64 I.M.first)
    | 2=>some (.pointer (some ⟨I.M.cb,0,none⟩))
    | 3=>some (.pointer (some ⟨I.M.eb,0,none⟩))
    | _=>none
  | .rg=>match o with
    | 0=>some (.slice (some ⟨I.M.gb,0,none⟩) I.M.n I.M.n)
    | _=>none
  | .sl=>if o < 2 * I.M.n then some (.int .i64 (if o % 2 = 0 then S.st (o / 2) else S.va (o / 2))) else none
  | .cu=>match o with
    | 0=>some (.int .i64 S.cursor)
    | _=>none
  | .se=>match o with
    | 0=>some (.int .i64 S.seen)
    | _=>none
  | .ga=>match o with
    | 0=>match S.mem with
      | none=>some (.pointer none)
      | some _=>none
    | o + 1=>if o < 64 then some (.int .i64 (S.num o)) else none
  | .lr=>if o < I.k then some (.pointer (some ⟨I.rd o,0,none⟩)) else none
  | .lf=>if o < I.k then some (.pointer (some ⟨I.fo o,0,none⟩)) else none
  | .rd j=>match o with
    | 0=>some (.pointer (some ⟨I.M.mb,0,none⟩))
    | 1=>some (.pointer (some ⟨I.gt,0,none⟩))
    | 2=>some (.int .i64 j)
    | 3=>some (.bool (S.rj j))
    | 4=>some (.int .i64 (S.rn j))
    | _=>none
  | .fo j=>match o with
    | 0=>some (.pointer (some ⟨I.M.mb,0,none⟩))
    | 1=>some (.int .i64 (S.fn j))
    | _=>none
noncomputable def layR (I : RIds) (S : RdS) (b o : Nat) : Option Value:=match I.what b with
  | some x=>cellR I S x o
  | none=>none
structure RdOk (S : RdS) : Prop where
  c0 : -1≤S.cursor
  c1 : S.cursor < 4611686018427387904
  rn : ∀ i,0≤S.rn i∧S.rn i≤4611686018427387904
  fn : ∀ i,0≤S.fn i∧S.fn i≤4611686018427387904
def BoxR (ga : Nat) (S : RdS) (G : Nat→Prop) (w : World) : Prop:=match S.mem with
  | none=>∀ b,¬ G b
  | some l=>∃ p q c cs,w.cell? ⟨ga,0,none⟩ = some (.pointer (some ⟨p,0,none⟩))∧Blk w p 162 #[.slice (some ⟨q,0,none⟩) l.length c,.int .i64 0]∧Blk w q 3 cs∧(l.length≤c∧l.length≤64)∧c≤maxLen∧(∀ i (h : i < l.length),cs[i]? = some (.int .i64 l[i]))∧∀ b,G b ↔ b = p∨b = q
theorem BoxR.same {ga : Nat} {S S' : RdS} {G : Nat→Prop} {w w' : World} (h : BoxR ga S G w) (hm : S'.mem = S.mem) (hc : w'.cell? ⟨ga,0,none⟩ = w.cell? ⟨ga,0,none⟩) (hs : ∀ b,G b→w'.heap[b]? = w.heap[b]?) : BoxR ga S' G w':=by
  unfold BoxR at h ⊢
  rw [hm]
  cases hS : S.mem with
  | none=>rw [hS] at h; exact h
  | some l =>
    rw [hS] at h
    obtain ⟨p,q,c,cs,h1,h2,h3,h4,h5,h6,h7⟩:=h
    exact ⟨p,q,c,cs,hc.trans h1,(hs p ((h7 p).2 (.inl rfl))).trans h2,(hs q ((h7 q).2 (.inr rfl))).trans h3,h4,h5,h6,h7⟩
noncomputable def readY (I : RIds) : Lay where
  A:=RdS
  cell:=layR I
  BI:=fun b=>∃ x,I.val x∧I.blk x = b
  ok:=RdOk
  dom:=fun S b o v h=>by
    unfold layR at h
    split at h
    · rename_i x hx
      exact ⟨x,RIds.what_some hx⟩
    · cases h
  Box:=BoxR I.gt
  box_:=fun a G w w' h hs=>h.same rfl (World.cell?_of_block (w:=w) (hs I.gt (.inr ⟨.ga,trivial,rfl⟩))) fun b hb=>hs b (.inl hb)
section
variable {I : RIds} (hI : I.Ok)
include hI
theorem layR_at {x : Wh} (hv : I.val x) (S : RdS) (o : Nat) : layR I S (I.blk x) o = cellR I S x o:=by
  unfold layR
  rw [RIds.what_blk hI hv]
theorem r_turns {S S' : RdS} {x : Wh} (hv : I.val x) {o : Nat} {v : Value} (hex : ∃ u,cellR I S x o = some u) (hc : ∀ y o',cellR I S' y o' = if y = x∧o' = o then some v else cellR I S y o') : (readY I).Turns S S' (I.blk x) o v:=by
  obtain ⟨u0,hu0⟩:=hex
  refine ⟨⟨u0,(layR_at hI hv S o).trans hu0⟩,fun b' o' u (hu : layR I S' b' o' = some u)=>?_⟩
  show _∨_∧layR I S b' o' = some u
  unfold layR at hu ⊢
  cases hy : I.what b' with
  | none=>rw [hy] at hu; cases hu
  | some y =>
    rw [hy] at hu
    obtain ⟨hvy,rfl⟩:=RIds.what_some hy
    simp only [hc] at hu
    split at hu
    · rename_i e
      obtain ⟨rfl,rfl⟩:=e
      cases hu
      exact .inl ⟨rfl,rfl,rfl⟩
    · rename_i e
      refine .inr ⟨?_,hu⟩
      by_cases h1 : y = x
      · exact .inr fun z=>e ⟨h1,z⟩
      · exact .inl fun z=>h1 (hI.inj _ _ hvy hv z)
def rcl : WLens RdS:=⟨fun S=>S.cursor,fun x S=>{ S with cursor:=x },fun x=>-1≤x∧x < 4611686018427387904⟩
def rel : WLens RdS:=⟨fun S=>S.seen,fun x S=>{ S with seen:=x },fun _=>True⟩
def rrl : RLens RdS:=⟨fun S=>(S.st,S.va),fun r S=>{ S with st:=r.1,va:=r.2 }⟩
omit hI in
theorem box_set {S S' : RdS} {b o : Nat} {v : Value} {w : World} (hm : S'.mem = S.mem) (hne : ¬ (b = I.gt∧o = 0)) (G : Nat→Prop) (hG : ¬ G b) (h : (readY I).Box S G w) : (readY I).Box S' G (w.setCell ⟨b,o,none⟩ v):=
  BoxR.same (show BoxR I.gt S G w from h) hm (World.cell?_setCell_other _ _ _ _ (by intro e; injection e with e1 e2; first | exact hne ⟨e1.symm,e2.symm⟩ | exact hne ⟨e1,e2⟩)) fun b' hb'=>Below.heap_setCell _ _ _ _ (fun e=>hG ((show b' = b from e) ▸ hb'))
theorem blk_ne' {x y : Wh} (hx : I.val x) (hy : I.val y) (h : x≠y) : I.blk x≠I.blk y:=fun e=>h (hI.inj _ _ hx hy e)
theorem r_cur : WordLay (readY I) rcl I.M.cb where
  at_:=fun S=>layR_at hI (x:=.cu) trivial S 0
  turns:=fun S x=>r_turns hI (x:=.cu) trivial ⟨_,rfl⟩ fun y o'=>by
    by_cases hy : y = .cu
    · subst hy
      cases o' with
      | zero=>rw [if_pos ⟨rfl,rfl⟩]; rfl
      | succ o'=>rw [if_neg (by omega)]; rfl
    · rw [if_neg (fun z=>hy z.1)]
      rcases y with _ | _ | _ | _ | _ | _ | _ | _ | _ | j' | j' <;> first | exact absurd rfl hy | rfl
  ok:=fun S x h hx=>⟨hx.1,hx.2,h.rn,h.fn⟩
  box:=fun S x w G hG h=>box_set rfl (fun z=>blk_ne' hI (x:=.cu) (y:=.ga) trivial trivial (by simp) z.1) G hG h
theorem r_seen : WordLay (readY I) rel I.M.eb where
  at_:=fun S=>layR_at hI (x:=.se) trivial S 0
  turns:=fun S x=>r_turns hI (x:=.se) trivial ⟨_,rfl⟩ fun y o'=>by
    by_cases hy : y = .se
    · subst hy
      cases o' with
      | zero=>rw [if_pos ⟨rfl,rfl⟩]; rfl
      | succ o'=>rw [if_neg (by omega)]; rfl
    · rw [if_neg (fun z=>hy z.1)]
      rcases y with _ | _ | _ | _ | _ | _ | _ | _ | _ | j' | j' <;> first | exact absurd rfl hy | rfl
  ok:=fun S x h hx=>⟨h.c0,h.c1,h.rn,h.fn⟩
  box:=fun S x w G hG h=>box_set rfl (fun z=>blk_ne' hI (x:=.se) (y:=.ga) trivial trivial (by simp) z.1) G hG h
theorem r_ring : RingLay (readY I) rrl I.M.rb I.M.gb I.M.n where
  ring:=fun S=>layR_at hI (x:=.rg) trivial S 0
  stamp:=fun S i hi=>(layR_at hI (x:=.sl) trivial S (i * 2)).trans (by
    show (if i * 2 < 2 * I.M.n then _ else _) = _
    rw [if_pos (by omega),if_pos (by omega),show i * 2 / 2 = i by omega]; rfl)
  value:=fun S i hi=>(layR_at hI (x:=.sl) trivial S (i * 2 + 1)).trans (by
    show (if i * 2 + 1 < 2 * I.M.n then _ else _) = _
    rw [if_pos (by omega),if_neg (by omega),show (i * 2 + 1) / 2 = i by omega]; rfl)
  tst:=fun S i hi x=>r_turns hI (x:=.sl) trivial ⟨_,by show (if i * 2 < 2 * I.M.n then _ else _) = some _; rw [if_pos (by omega)]⟩ fun y o'=>by
    by_cases hy : y = .sl
    · subst hy
      by_cases e : o' = i * 2
      · subst e
        rw [if_pos ⟨rfl,rfl⟩]
        show (if i * 2 < 2 * I.M.n then some (Value.int .i64 (if (i * 2) % 2 = 0 then upd S.st i x ((i * 2) / 2) else S.va ((i * 2) / 2))) else none) = _
        rw [if_pos (by omega),if_pos (by omega),show (i * 2) / 2 = i by omega,upd_same]
      · rw [if_neg (fun z=>e z.2)]
        show (if o' < 2 * I.M.n then some (Value.int .i64 (if o' % 2 = 0 then upd S.st i x (o' / 2) else S.va (o' / 2))) else none) = if o' < 2 * I.M.n then some (Value.int .i64 (if o' % 2 = 0 then S.st (o' / 2) else S.va (o' / 2))) else none
        by_cases h2 : o' % 2 = 0
        · rw [if_pos h2,if_pos h2,upd_ne _ _ (by omega)]
        · rw [if_neg h2,if_neg h2]
    · rw [if_neg (fun z=>hy z.1)]
      rcases y with _ | _ | _ | _ | _ | _ | _ | _ | _ | j' | j' <;> first | exact absurd rfl hy | rfl
  tva:=fun S i hi x=>r_turns hI (x:=.sl) trivial ⟨_,by show (if i * 2 + 1 < 2 * I.M.n then _ else _) = some _; rw [if_pos (by omega)]⟩ fun y o'=>by
    by_cases hy : y = .sl
    · subst hy
      by_cases e : o' = i * 2 + 1
      · subst e
        rw [if_pos ⟨rfl,rfl⟩]
        show (if i * 2 + 1 < 2 * I.M.n then some (Value.int .i64 (if (i * 2 + 1) % 2 = 0 then S.st ((i * 2 + 1) / 2) else upd S.va i x ((i * 2 + 1) / 2))) else none) = _
        rw [if_pos (by omega),if_neg (by omega),show (i * 2 + 1) / 2 = i by omega,upd_same]
      · rw [if_neg (fun z=>e z.2)]
        show (if o' < 2 * I.M.n then some (Value.int .i64 (if o' % 2 = 0 then S.st (o' / 2) else upd S.va i x (o' / 2))) else none) = if o' < 2 * I.M.n then some (Value.int .i64 (if o' % 2 = 0 then S.st (o' / 2) else S.va (o' / 2))) else none
        by_cases h2 : o' % 2 = 0
        · rw [if_pos h2,if_pos h2]
        · rw [if_neg h2,if_neg h2,upd_ne _ _ (by omega)]
    · rw [if_neg (fun z=>hy z.1)]
      rcases y with _ | _ | _ | _ | _ | _ | _ | _ | _ | j' | j' <;> first | exact absurd rfl hy | rfl
  ok:=fun S r h=>⟨h.c0,h.c1,h.rn,h.fn⟩
  pos:=hI.n0
  most:=hI.n2
  ne:=blk_ne' hI (x:=.rg) (y:=.sl) trivial trivial (by simp)
  box:=fun S r o v w G hG h=>box_set rfl (fun z=>blk_ne' hI (x:=.sl) (y:=.ga) trivial trivial (by simp) z.1) G hG h
theorem t_num {j : Nat} (hj : j < 64) (S : RdS) (x : Int) : (readY I).Turns S { S with num:=upd S.num j x } I.gt (1 + j) (.int .i64 x):=
  r_turns hI (x:=.ga) trivial ⟨.int .i64 (S.num j),by rw [Nat.add_comm]; show (if j < 64 then _ else _) = _; rw [if_pos hj]⟩ fun y o'=>by
    by_cases hy : y = .ga
    · subst hy
      cases o' with
      | zero=>rw [if_neg (by omega)]; rfl
      | succ o' =>
        by_cases e : o' = j
        · subst e
          rw [if_pos ⟨rfl,by omega⟩]
          show (if o' < 64 then some (Value.int .i64 (upd S.num o' x o')) else none) = _
          rw [if_pos hj,upd_same]
        · rw [if_neg (fun z=>e (by have:=z.2; omega))]
          show (if o' < 64 then some (Value.int .i64 (upd S.num j x o')) else none) = if o' < 64 then some (Value.int .i64 (S.num o')) else none
          rw [upd_ne _ _ e]
    · rw [if_neg (fun z=>hy z.1)]
      rcases y with _ | _ | _ | _ | _ | _ | _ | _ | _ | j' | j' <;> first | exact absurd rfl hy | rfl
theorem t_rj {j : Nat} (hj : j < I.k) (S : RdS) (x : Bool) : (readY I).Turns S { S with rj:=fun i=>if i = j then x else S.rj i } (I.rd j) 3 (.bool x):=
  r_turns hI (x:=.rd j) hj ⟨_,rfl⟩ fun y o'=>by
    by_cases hy : y = .rd j
    · subst hy
      rcases o' with _ | _ | _ | _ | _ | o' <;> simp [cellR]
    · rw [if_neg (fun z=>hy z.1)]
      rcases y with _ | _ | _ | _ | _ | _ | _ | _ | _ | j' | j' <;> first | exact absurd rfl hy | rfl | skip
      have hjj : j'≠j:=fun e=>hy (by rw [e])
      rcases o' with _ | _ | _ | _ | _ | o' <;> simp [cellR,hjj]
theorem t_rn {j : Nat} (hj : j < I.k) (S : RdS) (x : Int) : (readY I).Turns S { S with rn:=upd S.rn j x } (I.rd j) 4 (.int .i64 x):=
    r_turns hI (x:=.rd j) hj ⟨_,rfl⟩ fun y o'=>by
      by_cases hy : y = .rd j
      · subst hy
        rcases o' with _ | _ | _ | _ | _ | o' <;> simp [cellR,upd_same]
      · rw [if_neg (fun z=>hy z.1)]
        rcases y with _ | _ | _ | _ | _ | _ | _ | _ | _ | j' | j' <;> first | exact absurd rfl hy | rfl | skip
        have hjj : j'≠j:=fun e=>hy (by rw [e])
        rcases o' with _ | _ | _ | _ | _ | o' <;> simp [cellR,upd_ne _ _ hjj]
theorem t_fn {j : Nat} (hj : j < I.k) (S : RdS) (x : Int) : (readY I).Turns S { S with fn:=upd S.fn j x } (I.fo j) 1 (.int .i64 x):=
    r_turns hI (x:=.fo j) hj ⟨_,rfl⟩ fun y o'=>by
      by_cases hy : y = .fo j
      · subst hy
        rcases o' with _ | _ | _ | _ | _ | o' <;> simp [cellR,upd_same]
      · rw [if_neg (fun z=>hy z.1)]
        rcases y with _ | _ | _ | _ | _ | _ | _ | _ | _ | j' | j' <;> first | exact absurd rfl hy | rfl | skip
        have hjj : j'≠j:=fun e=>hy (by rw [e])
        rcases o' with _ | _ | _ | _ | _ | o' <;> simp [cellR,upd_ne _ _ hjj]
end
end Go.Proofs.Ytlhbonnminlnlaa
namespace Go.Proofs.Ytlhbonnminlnlaa
open Go.RowKit
section
variable {P : Program} {f : FuncId} {fn : Func}
theorem run_call_loadp (hf : P.funcs[f]? = some fn) (hname : (fn.name == "runtime.NumGoroutine") = false) (hb : fn.body.isNone = true) (hn : Extern.findNext fn = none)
    (he : Extern.find fn = some (Extern.Atomic.loadT .ptr)) {a : Addr} {x : Option Addr} {w : World} (hc : w.cell? a = some (.pointer x)) :
    (callFunc f #[.pointer (some a)]).run P w = .ok (.value (.pointer x)) w:=by
  rw [run_callFunc_extern hf hname hb hn he]
  change (Sem.run P (do Extern.Atomic.read .ptr (← asAddr (.pointer (some a)))) w).andThen _ = _
  simp [Extern.Atomic.read,asAddr,hc,Result.andThen]
theorem run_call_casp (hf : P.funcs[f]? = some fn) (hname : (fn.name == "runtime.NumGoroutine") = false) (hb : fn.body.isNone = true) (hn : Extern.findNext fn = none)
    (he : Extern.find fn = some (Extern.Atomic.casT .ptr)) {a : Addr} {x y : Option Addr} {w : World} (hx : (samePointer x x).run P w = .ok true w) (hc : w.cell? a = some (.pointer x)) (hz : w.frozen? a = false) :
    (callFunc f #[.pointer (some a),.pointer x,.pointer y]).run P w = .ok (.value (.bool true)) (w.setCell a (.pointer y)):=by
  rw [run_callFunc_extern hf hname hb hn he]
  change (Sem.run P (do
    let a' ← asAddr (.pointer (some a))
    if ← Extern.Atomic.touchesFrozen a' then unsupported (.unsafePointer "a write to bytes that a string shares")
    let eq ← match Extern.Atomic.T.ptr,← Extern.Atomic.read .ptr a',Value.pointer x with
      | _,.int _ x,.int _ y=>pure (x == y)
      | .ptr,.pointer x,.pointer y=>samePointer x y
      | .int _,.pointer (some _),.int _ 0 | .int _,.int _ 0,.pointer (some _)=>pure false
      | .int _,.pointer (some _),_ | .int _,_,.pointer (some _)=>unsupported .addressObserved
      | _,_,_=>stuck "atomic.CompareAndSwap: old is no T"
    if eq then store a' (.pointer y) .atomic
    pure (Value.bool eq)) w).andThen _ = _
  simp [Extern.Atomic.touchesFrozen,Extern.Atomic.read,asAddr,viewAt,World.shape?_isSome_of_cell? hc,hc,hz,hx,run_store P w a (.pointer y) .atomic rfl,Result.andThen]
end
theorem cstep_nil (w : World) : Calls Try.prog 75 #[.nilIface] w fun e w'=>e = .returned (.tuple #[])∧w = w':=by
  go_enter Try.func75,Try.ntmps75
  go_wp2
  go_end0
  exact ⟨rfl,rfl⟩
theorem word_load (a : Addr) (v : Int) (w : World) (h : w.cell? a = some (.int .i64 v)) : Calls Try.prog 47 #[.pointer (some a),.nilIface] w fun e w'=>e = .returned (.int .i64 v)∧w = w':=by
  go_enter Try.func47,Try.ntmps47
  go_wp2_with (first | (go_at_call 75; refine (cstep_nil _).mono ?_; rintro e w' ⟨rfl,rfl⟩) | (go_at_call 52; refine (atomic_load _ _ _ h).mono ?_; rintro e w' ⟨rfl,rfl⟩))
  go_ret
  exact ⟨rfl,rfl⟩
def HeldP (t : TypeId) (p : Option Addr) (w : World) : Prop:=p = none∨∃ K a b,p = some ⟨K,0,none⟩∧Blk w K t #[a,b]
theorem HeldP.kept {t : TypeId} {p : Option Addr} {w w' : World} (h : HeldP t p w) (k : Kept (fun _=>False) w w') : HeldP t p w':=by
  rcases h with h | ⟨K,a,b,h1,h2⟩
  · exact .inl h
  · exact .inr ⟨K,a,b,h1,h2.kept k id⟩
theorem from_mb (p : Option Addr) (w : World) (h : HeldP 162 p w) : (convert 78 74 (.pointer p)).run Try.prog w = .ok (.pointer p) w:=by
  rcases h with rfl | ⟨K,a,b,rfl,h⟩
  · simp [convert,run_underlying Try.underlying78,run_underlying Try.underlying74,Conv.unsafePointer]
  · obtain ⟨j,hj⟩ : ∃ j,Try.prog.info? 162 = some j:=Option.isSome_iff_exists.1 (by kernel_rfl)
    have hb : w.heap[K]? = some (.cells #[a,b] 162 (0,0)):=h
    exact Lib.run_from_unsafe (j:=j) (e:=162) (cells:=2) w ⟨K,0,none⟩ Try.underlying78 Try.underlying74 hj (by simp [World.shape?,hb]) (by kernel_rfl)
theorem to_mb (p : Option Addr) (w : World) (h : HeldP 162 p w) : (convert 74 78 (.pointer p)).run Try.prog w = .ok (.pointer p) w:=by
  rcases h with rfl | ⟨K,a,b,rfl,h⟩
  · simp [convert,run_underlying Try.underlying78,run_underlying Try.underlying74,Conv.unsafePointer]
  · have hb : w.heap[K]? = some (.cells #[a,b] 162 (0,0)):=h
    exact run_convert_to_unsafe Try.underlying74 Try.underlying78 (by kernel_rfl) (cell_of_row w K 0 _ _ (0,0) hb)
theorem ptr_load_mb (a : Addr) (p : Option Addr) (w : World) (h : w.cell? a = some (.pointer p)) (hp : HeldP 162 p w) : Calls Try.prog 77 #[.pointer (some a)] w fun e w'=>e = .returned (.pointer p)∧w = w':=by
  have hld:=run_call_loadp (P:=Try.prog) Try.func88 (by kernel_rfl) (by kernel_rfl) (by kernel_rfl) (by kernel_rfl) h
  have hcv:=from_mb p w hp
  go_enter Try.func77,Try.ntmps77
  go_wp2
  go_ret
  exact ⟨rfl,rfl⟩
end Go.Proofs.Ytlhbonnminlnlaa
namespace Go.Proofs.Ytlhbonnminlnlaa
open Go.RowKit
theorem same_self {P : Program} (x : Option Addr) (w : World) : (samePointer x x).run P w = .ok true w:=by
  cases x with
  | none=>rfl
  | some a=>exact Go.run_sameAddr_same w a
theorem eql_ptr_same {P : Program} {t e : TypeId} {j : TypeInfo} (a : Addr) (hp : P.underlying t = some (.pointer e)) (he : P.info? e = some j) (w : World) : (binOp .eql t (.pointer (some a)) (.pointer (some a))).run P w = .ok (.bool true) w:=by
  have h : ∀ d,(Op.equalIn (d + 1) t (.pointer (some a)) (.pointer (some a))).run P w = .ok true w:=fun d=>by
    by_cases hz : j.size = 0
    · simp [Op.equalIn,run_underlying hp,sizeOf,typeInfo,he,hz]
    · simp [Op.equalIn,run_underlying hp,sizeOf,typeInfo,he,Go.run_sameAddr_same]
  simp only [binOp]
  simp [Op.equal,Op.maxDepth,h 9999]
theorem cell_lt {w : World} {a : Addr} {v : Value} (h : w.cell? a = some v) : a.block < w.heap.size:=by
  unfold World.cell? at h
  rcases Nat.lt_or_ge a.block w.heap.size with z | z
  · exact z
  · rw [Array.getElem?_eq_none z] at h; cases h
theorem cell_keep {S : Nat→Prop} {w w' : World} {a : Addr} {v : Value} (h : w.cell? a = some v) (k : Kept S w w') (hs : ¬ S a.block) : w'.cell? a = some v:=(World.cell?_of_block (w:=w) (k.block a.block (cell_lt h) hs)).trans h
theorem froz_keep {S : Nat→Prop} {w w' : World} {a : Addr} {v : Value} (h : w.frozen? a = false) (hc : w.cell? a = some v) (k : Kept S w w') (hs : ¬ S a.block) : w'.frozen? a = false:=by
  have:=k.block a.block (cell_lt hc) hs
  unfold World.frozen? at h ⊢
  rw [this]
  exact h
def BoxV (t : TypeId) (p : Option Addr) (v : Value) (w : World) : Prop:=(p = none∧v = .slice none 0 0)∨∃ K b,p = some ⟨K,0,none⟩∧Blk w K t #[v,b]
theorem BoxV.held {t : TypeId} {p : Option Addr} {v : Value} {w : World} (h : BoxV t p v w) : HeldP t p w:=by
  rcases h with ⟨h,_⟩ | ⟨K,b,h1,h2⟩
  · exact .inl h
  · exact .inr ⟨K,v,b,h1,h2⟩
theorem BoxV.kept {t : TypeId} {p : Option Addr} {v : Value} {w w' : World} (h : BoxV t p v w) (k : Kept (fun _=>False) w w') : BoxV t p v w':=by
  rcases h with h | ⟨K,b,h1,h2⟩
  · exact .inl h
  · exact .inr ⟨K,b,h1,h2.kept k id⟩
theorem box_load_mb (a : Addr) (p : Option Addr) (w : World) (h : w.cell? a = some (.pointer p)) (hp : HeldP 162 p w) : Calls Try.prog 54 #[.pointer (some a),.nilIface] w fun e w'=>e = .returned (.agg #[.pointer p,.pointer (some a)])∧Kept (fun _=>False) w w':=by
  have hk : Kept (fun _=>False) w (w.alloc (.cells #[.pointer none,.pointer none] 133)):=Kept.alloc _ _
  have h2:=cell_keep h hk id
  have hp2:=hp.kept hk
  clear hk h hp
  go_enter Try.func54,Try.ntmps54
  go_wp2_with (first | (go_at_call 75; refine (cstep_nil _).mono ?_; rintro e w' ⟨rfl,rfl⟩) | (go_at_call 77; refine (ptr_load_mb _ p _ h2 hp2).mono ?_; rintro e w' ⟨rfl,rfl⟩))
  have c0:=(Blk.new w 133 #[.pointer p,.pointer (some a)]).cell 0
  have c1:=(Blk.new w 133 #[.pointer p,.pointer (some a)]).cell 1
  refine bodyPost_ret (v:=.agg #[.pointer p,.pointer (some a)]) ?_ rfl ⟨rfl,Kept.alloc _ _⟩
  simp only [List.getElem?_toArray,List.getElem?_cons_zero,List.getElem?_cons_succ] at c0 c1
  simp [results,Try.f54,go_sem,c0,c1]
theorem held_value_mb (a : Option Addr) (p : Option Addr) (v : Value) (w : World) (h : BoxV 162 p v w) : Calls Try.prog 56 #[.agg #[.pointer p,.pointer a]] w fun e w'=>e = .returned v∧Kept (fun _=>False) w w':=by
  have hk : Kept (fun _=>False) w (w.alloc (.cells #[.pointer p,.pointer a] 133)):=Kept.alloc _ _
  have h2:=h.kept hk
  rcases h2 with ⟨rfl,rfl⟩ | ⟨K,b,rfl,hb⟩
  · go_enter Try.func56,Try.ntmps56
    go_wp2
    go_ret
    exact ⟨rfl,Kept.alloc _ _⟩
  · have hc : (w.alloc (.cells #[.pointer (some ⟨K,0,none⟩),.pointer a] 133)).cell? ⟨K,0,none⟩ = some v:=hb.cell 0
    clear h hk hb
    go_enter Try.func56,Try.ntmps56
    go_wp2
    go_ret
    exact ⟨rfl,Kept.alloc _ _⟩
theorem ptr_cas_mb (a : Addr) (x y : Option Addr) (w : World) (h : w.cell? a = some (.pointer x)) (hz : w.frozen? a = false) (hx : HeldP 162 x w) (hy : HeldP 162 y w) : Calls Try.prog 79 #[.pointer (some a),.pointer x,.pointer y] w fun e w'=>e = .returned (.bool true)∧w.setCell a (.pointer y) = w':=by
  have hcas:=run_call_casp (P:=Try.prog) Try.func89 (by kernel_rfl) (by kernel_rfl) (by kernel_rfl) (by kernel_rfl) (y:=y) (same_self x w) h hz
  have e1:=to_mb x w hx
  have e2:=to_mb y w hy
  clear hx hy
  go_enter Try.func79,Try.ntmps79
  go_wp2
  go_ret
  exact ⟨rfl,rfl⟩
end Go.Proofs.Ytlhbonnminlnlaa
namespace Go.Proofs.Ytlhbonnminlnlaa
open Go.RowKit
structure GateAt (w : World) (G : Nat) (p : Option Addr) (f : Nat→Int) : Prop where
  hd : w.cell? ⟨G,0,none⟩ = some (.pointer p)
  num : ∀ i,i < 64→w.cell? ⟨G,1 + i,none⟩ = some (.int .i64 (f i))
  fz : ∀ i,w.frozen? ⟨G,i,none⟩ = false
theorem GateAt.lt {w : World} {G : Nat} {p : Option Addr} {f : Nat→Int} (h : GateAt w G p f) : G < w.heap.size:=lt_of_cell h.hd
theorem GateAt.kept {S : Nat→Prop} {w w' : World} {G : Nat} {p : Option Addr} {f : Nat→Int} (h : GateAt w G p f) (k : Kept S w w') (hG : ¬ S G) : GateAt w' G p f where
  hd:=cell_keep h.hd k hG
  num i hi:=cell_keep (h.num i hi) k hG
  fz i:=by
    have e:=k.block G h.lt hG
    have:=h.fz i
    unfold World.frozen? at this ⊢
    rw [e]
    exact this
theorem GateAt.setNum {w : World} {G : Nat} {p : Option Addr} {f : Nat→Int} (h : GateAt w G p f) {i : Nat} (hi : i < 64) (x : Int) : GateAt (w.setCell ⟨G,1 + i,none⟩ (.int .i64 x)) G p (upd f i x) where
  hd:=by rw [World.cell?_setCell_other _ _ _ _ (by simp)]; exact h.hd
  num j hj:=by
    by_cases e : j = i
    · subst e
      rw [upd_same,World.cell?_setCell_same _ _ _ (by rw [h.num j hj])]
    · rw [upd_ne _ _ e,World.cell?_setCell_other _ _ _ _ (by simp)]
      exact h.num j hj
  fz j:=by simp [h.fz j]
theorem gate_zero : Try.zeroCells88 = #[.pointer none] ++ Array.replicate 64 (.int .i64 0):=by kernel_rfl
theorem gate_newN (w : World) : Calls Try.prog 8 #[] w fun e w'=>e = .returned (.pointer (some ⟨w.heap.size,0,none⟩))∧GateAt w' w.heap.size none (fun _=>-1)∧Kept (fun _=>False) w w'∧w'.heap.size = w.heap.size + 1∧NearB w' w.heap.size:=by
  go_enter Try.func8,Try.ntmps8
  go_wp2
  go_loopw [5] (fun q wr=>∃ i : Nat,i≤64∧q = .int .i64 i∧GateAt wr w.heap.size none (fun j=>if j < i then -1 else 0)∧Kept (fun _=>False) w wr∧wr.heap.size = w.heap.size + 1∧NearB wr w.heap.size) (fun q _=>64 - (intOf q).toNat)
  case atStart =>
    refine ⟨0,by omega,rfl,⟨?_,fun i hi=>?_,fun i=>?_⟩,Kept.alloc _ _,by simp,⟨_,_,Blk.new w 88 _⟩⟩
    · exact ((Blk.new w 88 _).cell 0).trans (by kernel_rfl)
    · refine ((Blk.new w 88 _).cell (1 + i)).trans ?_
      rw [gate_zero,Array.getElem?_append_right (by simp)]
      simp [hi]
    · exact (Blk.new w 88 _).frozen i
  case round =>
    obtain ⟨i,hi,rfl,hG,hk,hz⟩:=hrel
    by_cases hlt : i < 64
    · have c:=hG.num i hlt
      rw [if_neg (by omega)] at c
      have z:=hG.fz (1 + i)
      go_wp2_with (go_at_call 27; refine (atomic_store _ (-1) 0 _ c z).mono ?_; rintro e w' ⟨rfl,rfl⟩)
      have HH:=Lib.hid (And.intro hG (And.intro hk hz))
      clear hG hk hz c z
      go_roundw
      case rel =>
        refine ⟨i + 1,by omega,by go_num,?_,?_,by simpa using HH.out.2.2.1,HH.out.2.2.2.set_⟩
        · rw [fill_succ]
          exact HH.out.1.setNum hlt (-1)
        · exact HH.out.2.1.later (Kept.setCell (S:=fun b=>b = w.heap.size) _ (by rfl) _) (fun b e=>Nat.le_of_eq e.symm)
      case measure=>simp [intOf]; omega
    · have ei : i = 64:=by omega
      subst ei
      have HH:=Lib.hid (And.intro hG (And.intro hk hz))
      clear hG hk hz
      go_wp2
      go_ret
      refine ⟨rfl,⟨HH.out.1.hd,fun j hj=>?_,HH.out.1.fz⟩,HH.out.2.1,HH.out.2.2⟩
      have:=HH.out.1.num j hj
      rwa [if_pos hj] at this
end Go.Proofs.Ytlhbonnminlnlaa
namespace Go.Proofs.Ytlhbonnminlnlaa
open Go.RowKit
theorem Try.infoI : (Try.prog.info? 3).map (fun i=>(i.zero,i.size,i.bytes)) = some (some (.int .i64 0),1,8):=by kernel_rfl
theorem refused_no (G : Addr) (i : Nat) (w : World) (hi : i < 64) : Calls Try.prog 53 #[.pointer (some G),.int .i64 i] w fun e w'=>e = .returned (.int .i64 0)∧w = w':=by
  have h0 : ¬ (i : Int) < 0:=by omega
  have h1 : ¬ (64 : Int)≤i:=by omega
  go_enter Try.func53,Try.ntmps53
  go_wp2
  go_ret
  exact ⟨rfl,rfl⟩
def MembersAt (w : World) (v : Value) (l : List Int) : Prop:=∃ A c,v = .slice A l.length c∧l.length≤c∧c≤maxLen∧(A = none→c = 0)∧∀ i (h : i < l.length),∃ L,A = some ⟨L,0,none⟩∧w.cell? ⟨L,i,none⟩ = some (.int .i64 l[i])
theorem MembersAt.kept {w w' : World} {v : Value} {l : List Int} (h : MembersAt w v l) (k : Kept (fun _=>False) w w') : MembersAt w' v l:=by
  obtain ⟨A,c,h1,h2,h3,h4,h5⟩:=h
  exact ⟨A,c,h1,h2,h3,h4,fun i hi=>by obtain ⟨L,k1,k2⟩:=h5 i hi; exact ⟨L,k1,cell_keep k2 k id⟩⟩
theorem index_no (v : Value) (l : List Int) (x : Int) (w : World) (h : MembersAt w v l) (hx : x ∉ l) : Calls Try.prog 61 #[v,.int .i64 x] w fun e w'=>e = .returned (.int .i64 (-1))∧w = w':=by
  obtain ⟨A,c,rfl,h2,h3,-,h5⟩:=h
  unfold maxLen at h3
  have HX:=Lib.hid (And.intro h5 hx)
  clear h5 hx
  go_enter Try.func61,Try.ntmps61
  go_wp2
  go_loopw [8] (fun q wr=>∃ j : Nat,j≤l.length∧q = .int .i64 j∧wr = w) (fun q _=>l.length - (intOf q).toNat)
  case atStart=>exact ⟨0,Nat.zero_le _,rfl,rfl⟩
  case round =>
    obtain ⟨j,hj,rfl,rfl⟩:=hrel
    by_cases hlt : j < l.length
    · obtain ⟨L,rfl,c1⟩:=HX.out.1 j hlt
      have hb : (x == l[j]) = false:=by
        have:=HX.out.2
        simp only [beq_eq_false_iff_ne]
        exact fun e=>this (e ▸ List.getElem_mem hlt)
      generalize l[j] = y at c1 hb
      have b1 : (j : Int) < l.length:=by omega
      go_wp2
      go_roundw
      case rel=>exact ⟨j + 1,by omega,by go_num,trivial⟩
      case measure=>simp [intOf]; omega
    · have ej : j = l.length:=by omega
      subst ej
      go_wp2
      go_ret
      exact ⟨rfl,rfl⟩
theorem contains_no (v : Value) (l : List Int) (x : Int) (w : World) (h : MembersAt w v l) (hx : x ∉ l) : Calls Try.prog 55 #[v,.int .i64 x] w fun e w'=>e = .returned (.bool false)∧w = w':=by
  obtain ⟨A,c,rfl,-⟩:=id h
  go_enter Try.func55,Try.ntmps55
  go_wp2_with (go_at_call 61; refine (index_no _ l x _ h hx).mono ?_; rintro e w' ⟨rfl,rfl⟩)
  go_ret
  exact ⟨rfl,rfl⟩
theorem eql_slice_nil (A : Option Addr) (n c : Nat) (w : World) (hA : A = none→c = 0) (hn : n≤c) : (binOp .eql 49 (.slice A n c) (.slice none 0 0)).run Try.prog w = .ok (.bool A.isNone) w:=by
  have h : ∀ d,(Op.equalIn (d + 1) 49 (.slice A n c) (.slice none 0 0)).run Try.prog w = .ok A.isNone w:=fun d=>by
    cases A with
    | none =>
      obtain rfl:=hA rfl
      obtain rfl : n = 0:=by omega
      simp [Op.equalIn,run_underlying Try.underlying49]
    | some a=>simp [Op.equalIn,run_underlying Try.underlying49]
  simp only [binOp]
  simp [Op.equal,Op.maxDepth,h 9999]
set_option maxRecDepth 100000 in
theorem clone_ok (v : Value) (l : List Int) (w : World) (h : MembersAt w v l) (hl : l.length≤64) : Calls Try.prog 58 #[v] w fun e w'=>∃ v',e = .returned v'∧Kept (fun _=>False) w w'∧w'.ownsRow w.heap.size 3 1 v' l.length (l.map (Value.int .i64)):=by
  obtain ⟨A,c,rfl,h2,h3,h4,h5⟩:=h
  cases A with
  | none =>
    obtain rfl:=h4 rfl
    have hl0 : l = []:=List.eq_nil_of_length_eq_zero (by omega)
    subst hl0
    have he : ∀ w,(binOp .eql 49 (.slice none 0 0) (.slice none 0 0)).run Try.prog w = .ok (.bool true) w:=fun w=>eql_slice_nil none 0 0 w (fun _=>rfl) (Nat.le_refl _)
    go_enter Try.func58,Try.ntmps58
    go_wp2
    go_ret
    exact ⟨_,rfl,Kept.refl _ _,World.ownsRow_nil _ _ _ _⟩
  | some a =>
    obtain ⟨i0,hi0,hz0,hz1,hz2⟩:=info_parts Try.infoI
    have HA:=Lib.hid (World.ownsRow_lit (base:=w.heap.size) (size:=1) (e:=3) w #[] 0 (Nat.le_refl _) (Nat.zero_le _) rfl)
    have HX:=Lib.hid h5
    have hc1 : Hid (∀ a',some a = some a'→∀ (j : Nat) (u : Value),(l.map (Value.int .i64))[j]? = some u→(w.alloc (.cells #[] 3)).cell? (a'.add j) = some u):=Lib.hid fun a' ha j u hu=>by
      cases ha
      rw [List.getElem?_map] at hu
      have hj : j < l.length:=by
        rcases Nat.lt_or_ge j l.length with hlt | hge
        · exact hlt
        · rw [List.getElem?_eq_none hge] at hu; cases hu
      rw [List.getElem?_eq_getElem hj] at hu
      simp only [Option.map_some,Option.some.injEq] at hu
      obtain ⟨L,k1,k2⟩:=HX.out j hj
      cases k1
      rw [show (⟨L,0,none⟩ : Addr).add j = ⟨L,j,none⟩ from by unfold Addr.add; by_cases h4 : j = 0 <;> simp [h4],← hu]
      exact cell_keep k2 (Kept.alloc (S:=fun _=>False) _ _) id
    have hc2 : Hid (∀ u ∈ l.map (Value.int .i64),u.oneCell' = true):=Lib.hid fun u hu=>by
      obtain ⟨x,_,rfl⟩:=List.mem_map.1 hu
      rfl
    have he : ∀ w,(binOp .eql 49 (.slice (some a) l.length c) (.slice none 0 0)).run Try.prog w = .ok (.bool false) w:=fun w=>eql_slice_nil (some a) _ _ w (fun h=>by cases h) h2
    clear h4 h5
    go_enter Try.func58,Try.ntmps58
    go_wp2_with (at_builtin; refine wpList_app _ rfl _ _ 49 rfl w.heap.size 3 i0 (.int .i64 0) 1 8 Try.underlying49 hi0 hz0 hz1 hz2 rfl (by decide) _ _ _ rfl HA.out (some a) l.length c rfl (fun h=>by cases h) h2 (l.map (.int .i64)) (by simp) hc1.out hc2.out (by unfold maxLen; omega) (by omega) (by simp) ?_)
    intro v1 w1 h1 k1 p1 ob1 ne1
    have HF:=Lib.hid (And.intro h1 ((Kept.alloc (S:=fun _=>False) w _).later k1 fun b hb=>(HA.out.lt b hb).1))
    clear h1 k1 p1 ob1 ne1
    obtain ⟨A1,c1',rfl⟩:=own_slice HF.out.1
    go_wp2
    go_ret
    exact ⟨_,rfl,HF.out.2,HF.out.1⟩
end Go.Proofs.Ytlhbonnminlnlaa
namespace Go.Proofs.Ytlhbonnminlnlaa
open Go.RowKit
theorem own_baseL {w : World} {b b' : Nat} {e : TypeId} {size n : Nat} {v : Value} {xs : List Value} (h : w.ownsRow b e size v n xs) (hb : b'≤b) : w.ownsRow b' e size v n xs:=by
  obtain ⟨h1,h2⟩:=h
  refine ⟨h1,?_⟩
  rcases h2 with h2 | ⟨g,cap,cur,hv,hg,r⟩
  · exact .inl h2
  · exact .inr ⟨g,cap,cur,hv,by omega,r⟩
end Go.Proofs.Ytlhbonnminlnlaa
namespace Go.Proofs.Ytlhbonnminlnlaa
open Go.RowKit Go.Turn Go.Tame Go.Conc
abbrev RSS : Type:=RdS × (Nat→List Ans)
set_option maxRecDepth 100000 in
theorem gate_step {D : OpsD} {L : Lg Try.prog (Tree D.St D.St)} {Cap : (Nat→Prop)→World→Prop} {sb : Nat} (hre : ∀ H w τ n,Cap H w→Cap H (w.re τ n)) (hcap : ∀ H w H' w',Cap H w→Held H w H' w'→Cap H' w') (hS : StepO D L Cap sb) (s : D.St) (H : Nat→Prop) (k : D.St→Tree D.St D.St) (w : World) (hr : RepO D s H w) (hc : Cap H w) :
    Ccalls L 59 #[.iface 171 (.pointer (some ⟨sb,0,none⟩))] (.yield s k) w fun u t' w'=>u = .tuple #[]∧∃ s' H',t' = k s'∧(RepO D s' H' w'∧Cap H' w')∧Held H w H' w':=by
  intro c mid hR
  rw [show Frame.enter Try.prog 59 #[.iface 171 (.pointer (some ⟨sb,0,none⟩))] .normal = Frame.at { (default : Frame) with fn:=59,kind:=.normal } ⟨#[.iface 171 (.pointer (some ⟨sb,0,none⟩))] ++ Array.replicate (Try.f59.ntmps - 1) undef,[]⟩ [.code (Try.f59.body.getD .skip)] from by simp [Frame.enter,Frame.at,Try.func59]; rfl]
  simp only [Try.f59,Option.getD_some,Nat.reduceSub,Array.replicate_succ,Array.replicate_zero,List.push_toArray,List.append_toArray,List.nil_append,List.cons_append]
  refine Lg.move _ (fun _ _=>step_seq) (fun h=>h) ?_
  have HR:=Lib.hid hR
  have Hr:=Lib.hid hr
  clear hR hr
  refine Lg.code fun K hK y τ n hy=>?_
  go_wp2
  refine hK _ _ (fun _=>rfl) ?_
  clear hK K
  subst hy
  refine Lg.move _ (fun _ _=>step_cond rfl) (fun h=>h) ?_
  refine Lg.move _ (fun _ _=>step_region) (fun h=>h) ?_
  refine Lg.pre 0 1 1 (by simp) fun K hK z τ3 n3 hz=>?_
  subst hz
  have hr : RepO D s H z:=Hr.out.re.re
  have hc : Cap H z:=hcap _ _ _ _ hc (re_held.2 (re_held.2 (Held.refl _ _)))
  have hm:=fun wx=>method_stand 307 ⟨sb,0,none⟩ wx
  go_wp2
  refine hK _ _ (fun _=>rfl) ?_
  clear hK K
  refine Lg.call (i:=1) (rest:=[]) (f:=113) (args:=#[.pointer (some ⟨sb,0,none⟩)]) rfl rfl (fun y=>?_) (hS s H k z hr hc) ?_
  · go_simp
  rintro vv t' w' ⟨rfl,s',H',rfl,⟨hr',hc'⟩,hh⟩
  rw [Frame.finish_at]
  walk_nrm
  refine Lg.move _ (fun _ _=>step_region_end) (fun h=>h) ?_
  refine Lg.move _ (fun _ _=>step_end) (fun h=>h) ?_
  exact Lg.leave rfl Try.func59 rfl (fun _ _ _ _=>by simp [results,Try.f59]) (HR.out _ _ _ ⟨rfl,s',H',rfl,⟨hr',hc'⟩,re_held.2 (re_held.2 hh)⟩)
theorem gate_sstep {D : OpsD} {L : Lg Try.prog (Tree D.St D.St)} {Cap : (Nat→Prop)→World→Prop} {sb : Nat} (hre : ∀ H w τ n,Cap H w→Cap H (w.re τ n)) (hcap : CapK Cap) (hS : StepO D L Cap sb) : SStep D L Cap 59 (.iface 171 (.pointer (some ⟨sb,0,none⟩))):=
  fun H0 w0 s H k w h=>(gate_step hre hcap hS s H k w h.rep (hcap _ _ _ _ h.cap0 h.held)).mono fun v t' w' ⟨e,s',H',e2,h2,h3⟩=>⟨e,s',H',e2,h2.1,h.cap0,h.held.trans h3⟩
def gsetT (i : Nat) (x : Int) (s : RSS) (k : RSS→Tree RSS RSS) : Tree RSS RSS:=.yield s fun s=>k ({ s.1 with num:=upd s.1.num i x },s.2)
section
variable {I : RIds} (hI : I.Ok)
include hI
theorem Lay.At.num {S : RdS} {w : World} (h : (readY I).At S w) {i : Nat} (hi : i < 64) : w.cell? ⟨I.gt,1 + i,none⟩ = some (.int .i64 (S.num i)):=
  h.cell I.gt (1 + i) _ ((layR_at hI (x:=.ga) trivial S (1 + i)).trans (by rw [Nat.add_comm]; show (if i < 64 then _ else _) = _; rw [if_pos hi]))
theorem Lay.At.gz {S : RdS} {w : World} (h : (readY I).At S w) (o : Nat) : w.frozen? ⟨I.gt,o,none⟩ = false:=h.free ⟨.ga,trivial,rfl⟩ o
theorem r_num {B : OpsB} {good : OpI→Prop} {s : RSS} {H : Nat→Prop} {w : World} (h : RepO (B.on (readY I).inner good) s H w) {i : Nat} (hi : i < 64) (x : Int) :
    RepO (B.on (readY I).inner good) ({ s.1 with num:=upd s.1.num i x },s.2) H (w.setCell ⟨I.gt,1 + i,none⟩ (.int .i64 x))∧Held H w H (w.setCell ⟨I.gt,1 + i,none⟩ (.int .i64 x)):=by
  have ha : (readY I).At s.1 w:=h.at_
  exact lay_set h (t_num hI hi s.1 x) ⟨ha.ok.c0,ha.ok.c1,ha.ok.rn,ha.ok.fn⟩ fun G hG hb=>box_set rfl (fun z=>by have:=z.2; omega) G hG hb
end
set_option maxRecDepth 100000 in
theorem gate_setT {I : RIds} (hI : I.Ok) {B : OpsB} {good : OpI→Prop} {L : Lg Try.prog (Tree RSS RSS)} {Cap : (Nat→Prop)→World→Prop} {V : Value} (hk : CapK Cap) (hS : SStep (B.on (readY I).inner good) L Cap 59 V) (H0 : Nat→Prop) (w0 : World) (s : RSS) (H : Nat→Prop) (w : World) (hn : Now (B.on (readY I).inner good) Cap H0 w0 s H w) (i : Nat) (hi : i < 64) (x : Int) (k : RSS→Tree RSS RSS) :
    Ccalls L 33 #[.pointer (some ⟨I.gt,0,none⟩),V,.int .i64 i,.int .i64 x] (gsetT i x s k) w fun u t' w'=>∃ s' H',u = .int .i64 0∧t' = k s'∧Now (B.on (readY I).inner good) Cap H0 w0 s' H' w':=by
  have h0 : (0 : Int)≤i:=by omega
  have h1 : (i : Int) < 64:=by omega
  intro c mid hR
  have HR:=Lib.hid hR
  have HN:=Lib.hid hn
  clear hR hn
  rw [show Frame.enter Try.prog 33 #[.pointer (some ⟨I.gt,0,none⟩),V,.int .i64 i,.int .i64 x] .normal = Frame.at { (default : Frame) with fn:=33,kind:=.normal } ⟨#[.pointer (some ⟨I.gt,0,none⟩),V,.int .i64 i,.int .i64 x] ++ Array.replicate (Try.f33.ntmps - 4) undef,[]⟩ [.code (Try.f33.body.getD .skip)] from by simp [Frame.enter,Frame.at,Try.func33]; rfl]
  simp only [Try.f33,Option.getD_some,Nat.reduceSub,Array.replicate_succ,Array.replicate_zero,List.push_toArray,List.append_toArray,List.nil_append,List.cons_append]
  unfold gsetT
  repeat (first
    | with_reducible refine Lg.mv_seq _ ?_
    | with_reducible refine Lg.mv_skip _ ?_
    | with_reducible refine Lg.mv_block _ ?_
    | with_reducible refine Lg.mv_inBlock _ ?_
    | with_reducible refine Lg.mv_end _ ?_
    | ((with_reducible refine Lg.mv_condT _ ?_ ?_); exact rfl)
    | ((with_reducible refine Lg.mv_condF _ ?_ ?_); exact rfl)
    | ((with_reducible apply Lg.mv_exit); exact rfl)
    | (with_reducible refine Lg.mv_reg _ ?_
       intro K hK y τ n' hy
       subst hy
       have hn:=HN.out.re hk
       clear HN
       have HN:=Lib.hid hn
       clear hn
       go_wp2_with (go_at_call 53; refine (refused_no _ i _ hi).mono ?_; rintro e w' ⟨rfl,hw'⟩; subst hw')
       refine hK _ _ (fun _=>rfl) ?_
       clear hK K))
  with_reducible refine Lg.mv_region _ ?_
  refine Lg.pre 0 1 1 (by simp) fun K hK z τ n' hz=>?_
  subst hz
  go_wp2
  refine hK _ _ (fun _=>rfl) ?_
  clear hK K
  refine Lg.call (i:=1) (rest:=[]) (f:=59) (args:=#[V]) rfl rfl (fun y=>by go_simp) (hS _ _ _ _ _ _ (HN.out.re hk)) ?_
  rintro vv t' w' ⟨rfl,s,H,rfl,hn⟩
  clear HN
  rw [Frame.finish_at]
  walk_nrm
  with_reducible refine Lg.mv_end _ ?_
  have HN:=Lib.hid hn
  clear hn
  with_reducible refine Lg.mv_seq _ ?_
  with_reducible refine Lg.mv_reg _ ?_
  intro K hK y τ n' hy
  subst hy
  have hn:=HN.out.re hk
  clear HN
  have HN:=Lib.hid hn
  clear hn
  have hat : (readY I).At s.1 y:=HN.out.rep.at_
  have c0:=hat.num hI hi
  have z0:=hat.gz hI (1 + i)
  have HS:=Lib.hid (r_num hI HN.out.rep hi x)
  clear hat
  go_wp2_with (go_at_call 27; refine (atomic_store _ x _ _ c0 z0).mono ?_; rintro e w' ⟨rfl,rfl⟩)
  refine hK _ _ (fun _=>rfl) ?_
  clear hK K c0 z0
  have hn:=HN.out.to hk HS.out
  clear HS HN
  generalize World.setCell _ _ _ = y' at hn ⊢
  have HN:=Lib.hid hn
  clear hn
  repeat (first
    | with_reducible refine Lg.mv_seq _ ?_
    | with_reducible refine Lg.mv_skip _ ?_
    | with_reducible refine Lg.mv_block _ ?_
    | with_reducible refine Lg.mv_inBlock _ ?_
    | with_reducible refine Lg.mv_end _ ?_
    | ((with_reducible refine Lg.mv_condT _ ?_ ?_); exact rfl)
    | ((with_reducible refine Lg.mv_condF _ ?_ ?_); exact rfl)
    | ((with_reducible apply Lg.mv_exit); exact rfl)
    | (with_reducible refine Lg.mv_reg _ ?_
       intro K hK y τ n' hy
       subst hy
       have hn:=HN.out.re hk
       clear HN
       have HN:=Lib.hid hn
       clear hn
       go_wp2_with (go_at_call 53; refine (refused_no _ i _ hi).mono ?_; rintro e w' ⟨rfl,hw'⟩; subst hw')
       refine hK _ _ (fun _=>rfl) ?_
       clear hK K))
  with_reducible refine Lg.mv_ret _ ?_
  exact Lg.leave rfl Try.func33 rfl (v:=.int .i64 0) (fun _ _ _ _=>by simp [results,Try.f33]) (HR.out _ _ _ ⟨_,H,rfl,rfl,HN.out⟩)
end Go.Proofs.Ytlhbonnminlnlaa
