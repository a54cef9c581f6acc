/-
  The claim MultiRuns: whatever the schedule, the sequences offered are all from the first on, each by one; what was written last lies in the slots; no reader is overtaken: for every input; no condition.
-/
import Derived.Test.YtphbolckbfnhaaaGh
import Derived.Test.YtphbolckbfnhaaaGd
import Derived.Test.YtphbolckbfnhaaaGn
import Derived.Test.YtphbolckbfnhaaaGm
import Derived.Test.YtphbolckbfnhaaaGe
import Derived.OpenShut
import Derived.JoinedCond
import Derived.Carry
import Derived.Deep.Slices
import Derived.Conc.LeavingOf
import Derived.Test.YtphbolckbfnhaaaRows
import Derived.ProofKit
set_option linter.unusedVariables false
set_option linter.unusedSectionVars false
set_option linter.unusedSimpArgs false
namespace Go.Proofs.Ytphbolckbfnhaaa
open Go.RowKit Go.Turn Go.Tame Go.Conc
structure BytesAt (W w : World) (A : Option Addr) (cap : Nat) (l : List Int) : Prop where
  le : l.length ≤ cap
  mx : cap ≤ maxLen
  nil : A = none → cap = 0
  at_ : ∀ i,i < l.length → ∃ b o,A = some ⟨b,o,none⟩∧b < W.heap.size∧w.cell? ⟨b,o + i,none⟩ = some (.int .u8 (l.getD i 0))
  bd : ∀ x ∈ l,0 ≤ x∧x < 256
section
variable {W w w' : World} {A : Option Addr} {cap : Nat} {l : List Int}
theorem BytesAt.keep (h : BytesAt W w A cap l) (hk : ∀ b o v,b < W.heap.size → w.cell? ⟨b,o,none⟩ = some v → w'.cell? ⟨b,o,none⟩ = some v) : BytesAt W w' A cap l:=
  ⟨h.le,h.mx,h.nil,fun i hi=>by obtain ⟨b,o,h1,h2,h3⟩:=h.at_ i hi; exact ⟨b,o,h1,h2,hk _ _ _ h2 h3⟩,h.bd⟩
theorem cells_kept (hW : W.heap.size ≤ w.heap.size) (k : Kept (fun _=>False) w w') : ∀ b o v,b < W.heap.size → w.cell? ⟨b,o,none⟩ = some v → w'.cell? ⟨b,o,none⟩ = some v:=fun b o v hb h =>
  (World.cell?_of_block (w:=w) (a:=⟨b,o,none⟩) (k.block b (by omega) id)).trans h
theorem BytesAt.fix (h : BytesAt W w A cap l) (hn : 0 < l.length) : ∃ b o,A = some ⟨b,o,none⟩∧b < W.heap.size∧∀ i,i < l.length → w.cell? ⟨b,o + i,none⟩ = some (.int .u8 (l.getD i 0)):=by
  obtain ⟨b,o,rfl,h2,_⟩:=h.at_ 0 hn
  refine ⟨b,o,rfl,h2,fun i hi=>?_⟩
  obtain ⟨b',o',e,_,h3⟩:=h.at_ i hi
  cases e
  exact h3
theorem BytesAt.bdAt (h : BytesAt W w A cap l) {i : Nat} (hi : i < l.length) : 0 ≤ l.getD i 0∧l.getD i 0 < 256:=h.bd _ (by rw [List.getD_eq_getElem?_getD,List.getElem?_eq_getElem hi]; exact List.getElem_mem _)
end
structure OwnOps (ops : Nat → List OpI) (B : Nat) (tA : Option Addr) (tc : Nat) (rows : Nat → Value) (j : Nat) (w : World) : Prop where
  t : w.ownsRow B 88 1 (.slice tA j tc) j ((List.range j).map rows)
  r : ∀ i,i < j → w.ownsRow B 87 4 (rows i) (ops i).length (opCells (ops i))
section
variable {ops : Nat → List OpI}
theorem OwnOps.snoc {B j tc tc' : Nat} {tA tA' : Option Addr} {rows : Nat → Value} {w w1 w2 : World} {r : Value} {t : TypeId} (C : OwnOps ops B tA tc rows j w) (hB : B ≤ w.heap.size) (k1 : Kept (fun _=>False) w w1) (h1 : w1.ownsRow w.heap.size 87 4 r (ops j).length (opCells (ops j)))
    (h2 : w2.ownsRow B 88 1 (.slice tA' (j + 1) tc') (j + 1) ((List.range j).map rows ++ [r])) (k2 : Kept (fun b=>(Value.slice tA j tc).ownBlock = some b) (w1.alloc (.cells #[r] t)) w2) : OwnOps ops B tA' tc' (fun i=>if i = j then r else rows i) (j + 1) w2:=by
  have k3 : Kept (fun _=>False) w (w1.alloc (.cells #[r] t)):=k1.trans (Kept.alloc _ _)
  refine ⟨?_,fun i hi=>?_⟩
  · rw [List.range_succ,List.map_append,List.map_cons,List.map_nil,if_pos rfl]
    rw [show (List.range j).map (fun i=>if i = j then r else rows i) = (List.range j).map rows from List.map_congr_left fun i hi=>by have:=List.mem_range.1 hi; rw [if_neg (by omega)]]
    exact h2
  · show w2.ownsRow B 87 4 (if i = j then r else rows i) _ _
    by_cases e : i = j
    · subst e
      rw [if_pos rfl]
      have h1' : (w1.alloc (.cells #[r] t)).ownsRow w.heap.size 87 4 r (ops i).length (opCells (ops i)):=h1.alloc _
      refine own_eq (own_baseK h1' hB) fun b hb=>k2.block b (own_lt h1' hb).2.1 fun z=>?_
      have a1:=(own_lt h1' hb).1
      have a2:=(own_lt C.t z).2.1
      omega
    · rw [if_neg e]
      refine own_eq (own_kept (C.r i (by omega)) k3 (fun _ _ z=>z)) fun b hb=>k2.block b (Nat.lt_of_lt_of_le (own_lt (C.r i (by omega)) hb).2.1 k3.size) fun z=>?_
      exact own_ne (C.r i (by omega)) C.t (by decide) hb z
theorem OwnOps.kept {B j tc : Nat} {tA : Option Addr} {rows : Nat → Value} {w w' : World} (C : OwnOps ops B tA tc rows j w) (k : Kept (fun _=>False) w w') : OwnOps ops B tA tc rows j w':=
  ⟨own_kept C.t k (fun _ _ z=>z),fun i hi=>own_kept (C.r i hi) k (fun _ _ z=>z)⟩
theorem OwnOps.base {B B' j tc : Nat} {tA : Option Addr} {rows : Nat → Value} {w : World} (C : OwnOps ops B tA tc rows j w) (h : B' ≤ B) : OwnOps ops B' tA tc rows j w:=
  ⟨own_baseK C.t h,fun i hi=>own_baseK (C.r i hi) h⟩
def vAd : Value → Option Addr
  | .slice a _ _=>a
  | _=>none
def vCap : Value → Nat
  | .slice _ _ c=>c
  | _=>0
theorem OwnOps.rowsAt {B n tc : Nat} {tA : Option Addr} {rows : Nat → Value} {w : World} (C : OwnOps ops B tA tc rows n w) (hn : 0 < n) : ∃ Tb,tA = some ⟨Tb,0,none⟩∧RowsAt w Tb 0 n (fun i=>vAd (rows i)) (fun i=>(ops i).length) (fun i=>vCap (rows i)):=by
  obtain ⟨g,rfl,_,_⟩:=row_addr C.t hn
  refine ⟨g,rfl,⟨fun i hi=>?_,fun i hi=>?_,fun i hi=>?_,fun i hi=>?_⟩⟩
  · have hc:=C.t.cellAt (g:=g) i (by omega)
    obtain ⟨A,c,e⟩:=own_slice (C.r i hi)
    rw [List.getElem?_map,List.getElem?_range hi] at hc
    rw [Nat.zero_add,hc,Option.map_some]
    show some (rows i) = some (.slice (vAd (rows i)) _ (vCap (rows i)))
    rw [e]
    rfl
  · obtain ⟨A,c,e⟩:=own_slice (C.r i hi)
    have:=C.r i hi
    rw [e] at this ⊢
    exact row_cap this
  · rcases (C.r i hi).2 with ⟨e,_⟩ | ⟨g,cap,cur,e,_,_,_,h,_⟩
    · rw [e]; exact Nat.zero_le _
    · rw [e]; exact h
  · rcases (C.r i hi).2 with ⟨e,_⟩ | ⟨g,cap,cur,e,_,_,_,h,_⟩
    · rw [e]; exact fun _=>rfl
    · rw [e]; exact fun z=>by cases z
theorem OwnOps.opsCells {B n tc : Nat} {tA : Option Addr} {rows : Nat → Value} {w W0 : World} {good : OpI → Prop} (C : OwnOps ops B tA tc rows n w) (hg : ∀ i,i < n → ∀ o ∈ ops i,good o) (hl : ∀ i,i < n → (ops i).length ≤ 12) : OpsCells W0 good w n (fun i=>vAd (rows i)) (fun i=>(ops i).length) ops where
  len:=fun i hi=>by have:=hl i hi; omega
  good:=hg
  cells:=fun i hi j hj=>by
    rcases (C.r i hi).2 with ⟨_,e⟩ | ⟨g,cap,cur,e,_,hh,h1,h2,h3,h4⟩
    · omega
    · refine ⟨g,0,cur,_,(0,0),by rw [e]; rfl,hh,.inl (by decide),fun m hm=>?_⟩
      have h5:=opCells_get (ops i) j m hm
      rw [← h4,List.getElem?_take,if_pos (by omega),List.getElem?_eq_getElem hj] at h5
      rw [Nat.zero_add,← Array.getElem?_toList,h5]
      rfl
theorem OwnOps.threads {B n tc : Nat} {tA : Option Addr} {rows : Nat → Value} {w : World} (C : OwnOps ops B tA tc rows n w) : ThreadsAt w tA n ops:=fun i hi=>by
  obtain ⟨g,rfl,_,_⟩:=row_addr C.t (by omega)
  have hc:=C.t.cellAt (g:=g) i (by omega)
  rw [List.getElem?_map,List.getElem?_range hi] at hc
  exact ⟨g,0,rows i,rfl,by rw [Nat.zero_add,hc]; rfl,OpRow.of_own (C.r i hi)⟩
theorem own_near {w w' : World} {base : Nat} {e : TypeId} {size n : Nat} {v : Value} {xs : List Value} (h : w.ownsRow base e size v n xs) (k : ∀ (b : Nat) (c : Array Value) (t : TypeId),w.heap[b]? = some (.cells c t (0,0)) → w'.heap[b]? = some (.cells c t (0,0))) : w'.ownsRow base e size v n xs:=by
  obtain ⟨h1,h2⟩:=h
  refine ⟨h1,?_⟩
  rcases h2 with h2 | ⟨g,cap,cur,hv,hg,hh,r⟩
  · exact .inl h2
  · exact .inr ⟨g,cap,cur,hv,hg,k _ _ _ hh,r⟩
theorem OwnOps.near {B n tc : Nat} {tA : Option Addr} {rows : Nat → Value} {w w' : World} (C : OwnOps ops B tA tc rows n w) (k : ∀ (b : Nat) (c : Array Value) (t : TypeId),w.heap[b]? = some (.cells c t (0,0)) → w'.heap[b]? = some (.cells c t (0,0))) : OwnOps ops B tA tc rows n w':=
  ⟨own_near C.t k,fun i hi=>own_near (C.r i hi) k⟩
end
structure MPar where
  n : Nat
  fs : Int
  k : Nat
  num : Nat → Int
  T : Nat
  ops : Nat → List OpI
  n0 : 0 < n
  n2 : n ≤ 65536
  f0 : 0 ≤ fs
  f1 : fs ≤ 1099511627776
  k6 : k ≤ 6
  hnum : ∀ j,j < k → fs - 1 ≤ num j
  T6 : T ≤ 6
  w : ∀ i,i < T → ∀ o ∈ ops i,o.kind = 3∧1 ≤ o.b∧o.b ≤ 4∧0 ≤ o.a∧o.a ≤ 100000
  len : ∀ i,i < T → (ops i).length ≤ 12
def bsum : List OpI → Nat
  | []=>0
  | o :: l=>o.b.toNat + bsum l
section
variable (P : MPar)
def MPar.sl (q : Int) : Nat:=(q % (P.n : Int)).toNat
def MPar.lp (q : Int) : Int:=q / (P.n : Int)
theorem sl_ne {q q' : Int} (h1 : q < q') (h2 : q' < q + P.n) : P.sl q ≠ P.sl q':=fun z=>by
  have hn:=P.n0
  have p1:=Int.emod_nonneg q (show (P.n : Int) ≠ 0 by omega)
  have p2:=Int.emod_nonneg q' (show (P.n : Int) ≠ 0 by omega)
  have z : q % (P.n : Int) = q' % (P.n : Int):=by unfold MPar.sl at z; omega
  have e1:=Int.mul_ediv_add_emod q P.n
  have e2:=Int.mul_ediv_add_emod q' P.n
  have e3 : (P.n : Int) * (q' / P.n - q / P.n) = q' - q:=by rw [Int.mul_sub]; omega
  generalize q' / (P.n : Int) - q / (P.n : Int) = d at e3
  rcases Int.lt_or_le 0 d with hd | hd
  · have : (P.n : Int) * 1 ≤ P.n * d:=Int.mul_le_mul_of_nonneg_left (by omega) (by omega)
    omega
  · have : (P.n : Int) * d ≤ P.n * 0:=Int.mul_le_mul_of_nonneg_left hd (by omega)
    omega
theorem sl_eq {q q' : Int} (h1 : q < q') (h2 : q' < q + 2 * P.n) (h : P.sl q = P.sl q') : q' = q + P.n:=by
  rcases Int.lt_trichotomy q' (q + P.n) with a | a | a
  · exact absurd h (sl_ne P h1 a)
  · exact a
  · have e : P.sl (q + P.n) = P.sl q:=by unfold MPar.sl; rw [Int.add_emod_right]
    exact absurd (e.trans h) (sl_ne P a (by omega))
theorem sl_add (q : Int) : P.sl (q + P.n) = P.sl q:=by unfold MPar.sl; rw [Int.add_emod_right]
theorem lp_add (q : Int) : P.lp (q + P.n) = P.lp q + 1:=by
  have:=P.n0
  unfold MPar.lp
  rw [Int.add_ediv_of_dvd_right (Int.dvd_refl _),Int.ediv_self (by omega)]
theorem lp_nonneg {q : Int} (h : 0 ≤ q) : 0 ≤ P.lp q:=Int.ediv_nonneg h (by omega)
structure MG where
  ow : Int → Option Nat
  val : Int → Int
  who : Int → Nat × Nat
  rem : Nat → Nat
def Claimed (g : MG) (cur : Int) (l kx : Nat) (o : OpI) (x : Int) : Prop:=P.fs ≤ x - o.b + 1∧x ≤ cur∧∀ q,x - o.b < q → q ≤ x → g.who q = (l,kx)∧g.val q = o.a + (q - (x - o.b + 1))
structure MI (g : MG) (s : MSS) : Prop where
  c0 : P.fs - 1 ≤ s.1.cursor
  c1 : s.1.cursor + sumB g.rem P.T ≤ P.fs - 1 + sumB (fun i=>bsum (P.ops i)) P.T
  nm : ∀ j,j < P.k → s.1.num j = P.num j
  sn : ∀ j,j < P.k → s.1.seen ≤ P.num j
  he : ∀ j,j < P.k → s.1.cursor ≤ P.num j + P.n
  own : ∀ q i,g.ow q = some i → P.fs ≤ q∧q ≤ s.1.cursor∧s.1.cursor - P.n < q∧s.1.st (P.sl q) < 2 * P.lp q
  wr : ∀ q,P.fs ≤ q → q ≤ s.1.cursor → s.1.cursor - P.n < q → g.ow q = none → s.1.st (P.sl q) = 2 * P.lp q∧s.1.va (P.sl q) = g.val q
  ni : ∀ q,s.1.cursor < q → q ≤ s.1.cursor + P.n → s.1.st (P.sl q) < 2 * P.lp q
  len : ∀ l,l < P.T → (s.2 l).length ≤ (P.ops l).length
  an : ∀ l,l < P.T → ∀ kx (h : kx < (s.2 l).length) (h2 : kx < (P.ops l).length),((s.2 l)[kx]).ok = true → Claimed P g s.1.cursor l kx ((P.ops l)[kx]) ((s.2 l)[kx]).n
  cov : ∀ q,P.fs ≤ q → q ≤ s.1.cursor → (g.who q).1 < P.T∧(g.who q).2 ≤ (s.2 (g.who q).1).length∧∀ (h : (g.who q).2 < (s.2 (g.who q).1).length) (h2 : (g.who q).2 < (P.ops (g.who q).1).length),((s.2 (g.who q).1)[(g.who q).2]).ok = true∧((s.2 (g.who q).1)[(g.who q).2]).n - ((P.ops (g.who q).1)[(g.who q).2]).b < q∧q ≤ ((s.2 (g.who q).1)[(g.who q).2]).n
  ris : ∀ l,l < P.T → ∀ a b (ha : a < (s.2 l).length) (hb : b < (s.2 l).length) (hb2 : b < (P.ops l).length),a < b → ((s.2 l)[a]).ok = true → ((s.2 l)[b]).ok = true → ((s.2 l)[a]).n ≤ ((s.2 l)[b]).n - ((P.ops l)[b]).b
  ot : ∀ q i,g.ow q = some i → i < P.T
def NoPend (i : Nat) (g : MG) (s : MSS) : Prop:=∀ q,P.fs ≤ q → q ≤ s.1.cursor → (g.who q).1 = i → (g.who q).2 < (s.2 i).length
structure GuM (i : Nat) (g : MG) (s : MSS) (g' : MG) (s' : MSS) : Prop where
  le : s.1.cursor ≤ s'.1.cursor
  nm : ∀ j,j < P.k → s'.1.num j = s.1.num j
  row : ∀ l,l ≠ i → s'.2 l = s.2 l
  ow : ∀ q l,l ≠ i → (g'.ow q = some l ↔ g.ow q = some l)
  no : ∀ q,q ≤ s.1.cursor → g.ow q = none → g'.ow q = none
  st : ∀ q l,l ≠ i → g.ow q = some l → s'.1.st (P.sl q) = s.1.st (P.sl q)∧s'.1.va (P.sl q) = s.1.va (P.sl q)
  val : ∀ q,q ≤ s.1.cursor → g'.val q = g.val q∧g'.who q = g.who q
  new : ∀ q,s.1.cursor < q → q ≤ s'.1.cursor → (g'.who q).1 = i
  rem : ∀ l,l ≠ i → g'.rem l = g.rem l
structure ReM (i : Nat) (g : MG) (s : MSS) (g' : MG) (s' : MSS) : Prop where
  le : s.1.cursor ≤ s'.1.cursor
  nm : ∀ j,j < P.k → s'.1.num j = s.1.num j
  row : s'.2 i = s.2 i
  ow : ∀ q,g'.ow q = some i ↔ g.ow q = some i
  no : ∀ q,q ≤ s.1.cursor → g.ow q = none → g'.ow q = none
  st : ∀ q,g.ow q = some i → s'.1.st (P.sl q) = s.1.st (P.sl q)∧s'.1.va (P.sl q) = s.1.va (P.sl q)
  val : ∀ q,q ≤ s.1.cursor → g'.val q = g.val q∧g'.who q = g.who q
  new : ∀ q,s.1.cursor < q → q ≤ s'.1.cursor → (g'.who q).1 ≠ i
  rem : g'.rem i = g.rem i
theorem ReM.refl (i : Nat) (g : MG) (s : MSS) : ReM P i g s g s:=⟨Int.le_refl _,fun _ _=>rfl,rfl,fun _=>Iff.rfl,fun _ _ h=>h,fun _ _=>⟨rfl,rfl⟩,fun _ _=>⟨rfl,rfl⟩,fun q a b=>by omega,rfl⟩
theorem GuM.refl (i : Nat) (g : MG) (s : MSS) : GuM P i g s g s:=⟨Int.le_refl _,fun _ _=>rfl,fun _ _=>rfl,fun _ _ _=>Iff.rfl,fun _ _ h=>h,fun _ _ _ _=>⟨rfl,rfl⟩,fun _ _=>⟨rfl,rfl⟩,fun q a b=>by omega,fun _ _=>rfl⟩
variable {P}
theorem ReM.trans {i : Nat} {g g1 g2 : MG} {s s1 s2 : MSS} (h : ReM P i g s g1 s1) (k : ReM P i g1 s1 g2 s2) : ReM P i g s g2 s2 where
  le:=Int.le_trans h.le k.le
  nm:=fun j hj=>(k.nm j hj).trans (h.nm j hj)
  row:=k.row.trans h.row
  ow:=fun q=>(k.ow q).trans (h.ow q)
  no:=fun q hq hn=>k.no q (Int.le_trans hq h.le) (h.no q hq hn)
  st:=fun q hq=>by
    obtain ⟨a,b⟩:=h.st q hq
    obtain ⟨c,d⟩:=k.st q ((h.ow q).2 hq)
    exact ⟨c.trans a,d.trans b⟩
  val:=fun q hq=>by
    obtain ⟨a,b⟩:=h.val q hq
    obtain ⟨c,d⟩:=k.val q (Int.le_trans hq h.le)
    exact ⟨c.trans a,d.trans b⟩
  new:=fun q h1 h2=>by
    by_cases e : q ≤ s1.1.cursor
    · rw [(k.val q e).2]; exact h.new q h1 e
    · exact k.new q (by omega) h2
  rem:=k.rem.trans h.rem
theorem GuM.trans {i : Nat} {g g1 g2 : MG} {s s1 s2 : MSS} (h : GuM P i g s g1 s1) (k : GuM P i g1 s1 g2 s2) : GuM P i g s g2 s2 where
  le:=Int.le_trans h.le k.le
  nm:=fun j hj=>(k.nm j hj).trans (h.nm j hj)
  row:=fun l hl=>(k.row l hl).trans (h.row l hl)
  ow:=fun q l hl=>(k.ow q l hl).trans (h.ow q l hl)
  no:=fun q hq hn=>k.no q (Int.le_trans hq h.le) (h.no q hq hn)
  st:=fun q l hl hq=>by
    obtain ⟨a,b⟩:=h.st q l hl hq
    obtain ⟨c,d⟩:=k.st q l hl ((h.ow q l hl).2 hq)
    exact ⟨c.trans a,d.trans b⟩
  val:=fun q hq=>by
    obtain ⟨a,b⟩:=h.val q hq
    obtain ⟨c,d⟩:=k.val q (Int.le_trans hq h.le)
    exact ⟨c.trans a,d.trans b⟩
  new:=fun q h1 h2=>by
    by_cases e : q ≤ s1.1.cursor
    · rw [(k.val q e).2]; exact h.new q h1 e
    · exact k.new q (by omega) h2
  rem:=fun l hl=>(k.rem l hl).trans (h.rem l hl)
theorem GuM.re {i j : Nat} (hij : j ≠ i) {g g' : MG} {s s' : MSS} (h : GuM P i g s g' s') : ReM P j g s g' s' where
  le:=h.le
  nm:=h.nm
  row:=h.row j hij
  ow:=fun q=>h.ow q j hij
  no:=h.no
  st:=fun q hq=>h.st q j hij hq
  val:=h.val
  new:=fun q h1 h2=>by rw [h.new q h1 h2]; exact fun e=>hij e.symm
  rem:=h.rem j hij
variable (P)
def mP (i : Nat) : RGp MSS MG:=⟨fun g s g' s'=>GuM P i g s g' s',fun g s g' s'=>ReM P i g s g' s',fun g s=>(s.2 i).length = (P.ops i).length∧NoPend P i g s∧∀ q,g.ow q ≠ some i⟩
theorem m_rgs : RGs (MI P) P.T (mP P) where
  refl:=fun i hi g s=>ReM.refl P i g s
  trans:=fun i hi g s g1 s1 g2 s2 h1 h2=>ReM.trans h1 h2
  sub:=fun i j hi hj hne g s g' s' hI h hI'=>GuM.re hne h
  stable:=fun i hi g s g' s' hI h hr hI'=>by
    have hr : ReM P i g s g' s':=hr
    refine ⟨by rw [hr.row]; exact h.1,fun q h1 h2 h3=>?_,fun q hq=>h.2.2 q ((hr.ow q).1 hq)⟩
    rw [hr.row]
    by_cases e : q ≤ s.1.cursor
    · rw [(hr.val q e).2] at h3 ⊢; exact h.2.1 q h1 e h3
    · exact absurd h3 (hr.new q (by omega) h2)
abbrev MIp (g : MG × (Nat → Nat)) (s : MSS) : Prop:=MI P g.1 s
theorem m_rgsp : RGs (MIp P) P.T fun i=>(mP P i).paid i:=by
  have R:=m_rgs P
  exact ⟨fun i hi g s=>⟨R.refl i hi _ _,rfl⟩,fun i hi g s g1 s1 g2 s2 h1 h2=>⟨R.trans i hi _ _ _ _ _ _ h1.1 h2.1,h2.2.trans h1.2⟩,fun i j hi hj hne g s g' s' hI h hI'=>⟨R.sub i j hi hj hne _ _ _ _ hI h.1 hI',h.2.2 j hne⟩,fun i hi g s g' s' hI h hr hI'=>R.stable i hi _ _ _ _ hI h hr.1 hI'⟩
theorem m_paid : Paid (MIp P) P.T (fun i=>(mP P i).paid i) (fun g _=>sumB g.2 P.T):=⟨fun i hi g s g' s' _ h _=>sumB_less hi h.2.1 h.2.2⟩
structure MCur (i : Nat) (g0 : MG) (s0 : MSS) (g : MG) (s : MSS) : Prop where
  gu : GuM P i g0 s0 g s
  inv : MI P g s
abbrev RgM (i : Nat) (t : Tree MSS MSS) (g : MG) (b : Nat → Nat) (s : MSS) : Prop:=t.Rg (MIp P) ((mP P i).paid i) (g,b) s
variable {P}
theorem MCur.refl {i : Nat} {g : MG} {s : MSS} (h : MI P g s) : MCur P i g s g s:=⟨GuM.refl P i g s,h⟩
theorem m_yield {i : Nat} {g0 g : MG} {s0 s : MSS} (h : MCur P i g0 s0 g s) {b : Nat → Nat} {B : Nat} (hb : B + 1 ≤ b i) {k : MSS → Tree MSS MSS} (hk : ∀ g2 b2 s2,ReM P i g s g2 s2 → MI P g2 s2 → B ≤ b2 i → RgM P i (k s2) g2 b2 s2) : RgM P i (.yield s k) g0 b s0:=
  ⟨(g,fun j=>if j = i then b i - 1 else b j),⟨h.gu,by show (if i = i then b i - 1 else b i) < b i; rw [if_pos rfl]; omega,fun j hj=>if_neg hj⟩,h.inv,fun g2 s2 hr hI=>by
    obtain ⟨g2,b2⟩:=g2
    refine hk g2 b2 s2 hr.1 hI ?_
    have : b2 i = if i = i then b i - 1 else b i:=hr.2
    rw [if_pos rfl] at this
    omega⟩
end
section
variable {P : MPar} {i : Nat} {g : MG} {s : MSS}
theorem MI.seen (h : MI P g s) (x : Int) (hx : ∀ j,j < P.k → x ≤ P.num j) : MI P g ({ s.1 with seen:=x },s.2):=
  ⟨h.c0,h.c1,h.nm,hx,h.he,h.own,h.wr,h.ni,h.len,h.an,h.cov,h.ris,h.ot⟩
theorem gu_seen (x : Int) : GuM P i g s g ({ s.1 with seen:=x },s.2):=⟨Int.le_refl _,fun _ _=>rfl,fun _ _=>rfl,fun _ _ _=>Iff.rfl,fun _ _ h=>h,fun _ _ _ _=>⟨rfl,rfl⟩,fun _ _=>⟨rfl,rfl⟩,fun q a b=>absurd (show q ≤ s.1.cursor from b) (by omega),fun _ _=>rfl⟩
def clmG (g : MG) (i : Nat) (c : Int) (m : Nat) (o : OpI) (kx r : Nat) : MG where
  ow q:=if c < q∧q ≤ c + m then some i else g.ow q
  val q:=if c < q∧q ≤ c + m then o.a + (q - (c + 1)) else g.val q
  who q:=if c < q∧q ≤ c + m then (i,kx) else g.who q
  rem l:=if l = i then r else g.rem l
theorem sumB_one {b b' : Nat → Nat} {i : Nat} : ∀ {n : Nat},i < n → (∀ j,j ≠ i → b' j = b j) → sumB b' n + b i = sumB b n + b' i
  | 0,h,_=>by omega
  | n + 1,h,h2=>by
    simp only [sumB]
    by_cases e : i = n
    · subst e
      rw [sumB_same fun j hj=>h2 j (by omega)]
      omega
    · have:=sumB_one (n:=n) (by omega) h2
      rw [h2 n (fun z=>e z.symm)]
      omega
theorem MI.claim (h : MI P g s) (hi : i < P.T) {m : Nat} {o : OpI} {kx r : Nat} (hkx : kx = (s.2 i).length) (hm1 : 1 ≤ m) (hm2 : m ≤ P.n) (hr : r + m ≤ g.rem i) (hh : ∀ j,j < P.k → s.1.cursor + m ≤ P.num j + P.n) (hw : ∀ q,P.fs ≤ q → s.1.cursor - P.n < q → q ≤ s.1.cursor + m - P.n → g.ow q = none) :
    MI P (clmG g i s.1.cursor m o kx r) ({ s.1 with cursor:=s.1.cursor + m },s.2):=by
  obtain ⟨c,hc⟩ : ∃ c,c = s.1.cursor:=⟨_,rfl⟩
  rw [← hc] at hh hw ⊢
  have hn0:=P.n0
  have hf0:=P.f0
  have c0:=h.c0
  rw [← hc] at c0
  have low : ∀ q,q ≤ c → (clmG g i c m o kx r).ow q = g.ow q∧(clmG g i c m o kx r).val q = g.val q∧(clmG g i c m o kx r).who q = g.who q:=fun q hq =>
    ⟨if_neg (by omega),if_neg (by omega),if_neg (by omega)⟩
  have new : ∀ q,c < q → q ≤ c + m → (clmG g i c m o kx r).ow q = some i∧(clmG g i c m o kx r).val q = o.a + (q - (c + 1))∧(clmG g i c m o kx r).who q = (i,kx):=fun q h1 h2 =>
    ⟨if_pos ⟨h1,h2⟩,if_pos ⟨h1,h2⟩,if_pos ⟨h1,h2⟩⟩
  refine ⟨by show P.fs - 1 ≤ c + m; omega,?_,h.nm,h.sn,hh,fun q l hq=>?_,fun q h1 h2 h3 h4=>?_,fun q h1 h2=>?_,h.len,fun l hl kx' h1 h2 h3=>?_,fun q h1 h2=>?_,h.ris,fun q l hq=>(by
    by_cases hz : c < q∧q ≤ c + m
    · have z1 : (clmG g i c m o kx r).ow q = some i:=if_pos hz
      rw [z1] at hq; cases hq; exact hi
    · have z1 : (clmG g i c m o kx r).ow q = g.ow q:=if_neg hz
      rw [z1] at hq; exact h.ot q l hq)⟩
  · have e:=sumB_one (b:=g.rem) (b':=(clmG g i c m o kx r).rem) hi (fun j hj=>if_neg hj)
    have e2 : (clmG g i c m o kx r).rem i = r:=if_pos rfl
    rw [e2] at e
    have:=h.c1
    rw [← hc] at this
    show c + m + (sumB (clmG g i c m o kx r).rem P.T : Int) ≤ _
    omega
  · have hq : (clmG g i c m o kx r).ow q = some l:=hq
    show P.fs ≤ q∧q ≤ c + m∧c + m - P.n < q∧s.1.st (P.sl q) < 2 * P.lp q
    by_cases e : q ≤ c
    · rw [(low q e).1] at hq
      obtain ⟨a1,a2,a3,a4⟩:=h.own q l hq
      rw [← hc] at a3
      refine ⟨a1,by omega,?_,a4⟩
      by_cases z : q ≤ c + m - P.n
      · rw [hw q a1 a3 z] at hq; cases hq
      · omega
    · by_cases e2 : q ≤ c + m
      · have:=h.ni q (by omega) (by omega)
        exact ⟨by omega,e2,by omega,this⟩
      · have : (clmG g i c m o kx r).ow q = g.ow q:=if_neg (by omega)
        rw [this] at hq
        have:=(h.own q l hq).2.1
        omega
  · have h2 : q ≤ c + m:=h2
    have h3 : c + m - P.n < q:=h3
    by_cases e : q ≤ c
    · rw [(low q e).1] at h4
      rw [(low q e).2.1]
      exact h.wr q h1 (by omega) (by omega) h4
    · rw [(new q (by omega) h2).1] at h4; cases h4
  · have h1 : c + m < q:=h1
    have h2 : q ≤ c + m + P.n:=h2
    show s.1.st (P.sl q) < 2 * P.lp q
    by_cases e : q ≤ c + P.n
    · exact h.ni q (by omega) (by omega)
    · have h5:=h.ni (q - P.n) (by omega) (by omega)
      have e1 : P.sl q = P.sl (q - P.n):=by have:=sl_add P (q - P.n); rwa [Int.sub_add_cancel] at this
      have e2 : P.lp q = P.lp (q - P.n) + 1:=by have:=lp_add P (q - P.n); rwa [Int.sub_add_cancel] at this
      rw [e1,e2]; omega
  · have h1 : kx' < (s.2 l).length:=h1
    have h3 : ((s.2 l)[kx']).ok = true:=h3
    show Claimed P (clmG g i c m o kx r) (c + m) l kx' ((P.ops l)[kx']) ((s.2 l)[kx']).n
    obtain ⟨a1,a2,a3⟩:=h.an l hl kx' h1 h2 h3
    rw [← hc] at a2
    refine ⟨a1,by omega,fun q b1 b2=>?_⟩
    rw [(low q (by omega)).2.1,(low q (by omega)).2.2]
    exact a3 q b1 b2
  · have h2 : q ≤ c + m:=h2
    by_cases e : q ≤ c
    · rw [(low q e).2.2]; exact h.cov q h1 (by omega)
    · rw [(new q (by omega) h2).2.2]
      refine ⟨hi,by show kx ≤ (s.2 i).length; omega,fun z=>absurd z (by show ¬ kx < (s.2 i).length; omega)⟩
theorem gu_claim (h : MI P g s) {m : Nat} {o : OpI} {kx r : Nat} : GuM P i g s (clmG g i s.1.cursor m o kx r) ({ s.1 with cursor:=s.1.cursor + m },s.2) where
  le:=by show s.1.cursor ≤ s.1.cursor + m; omega
  nm:=fun _ _=>rfl
  row:=fun _ _=>rfl
  ow:=fun q l hl=>by
    show (if s.1.cursor < q∧q ≤ s.1.cursor + m then some i else g.ow q) = some l ↔ _
    by_cases e : s.1.cursor < q∧q ≤ s.1.cursor + m
    · rw [if_pos e]
      refine ⟨fun z=>?_,fun z=>?_⟩
      · simp only [Option.some.injEq] at z; exact absurd z.symm hl
      · have:=(h.own q l z).2.1; omega
    · rw [if_neg e]
  no:=fun q hq hn=>(if_neg (by omega)).trans hn
  st:=fun q l hl hq=>⟨rfl,rfl⟩
  val:=fun q hq=>⟨if_neg (by omega),if_neg (by omega)⟩
  new:=fun q h1 h2=>by
    have h2 : q ≤ s.1.cursor + m:=h2
    show ((if s.1.cursor < q∧q ≤ s.1.cursor + m then (i,kx) else g.who q) : Nat × Nat).1 = i
    rw [if_pos ⟨h1,h2⟩]
  rem:=fun l hl=>if_neg hl
theorem own_slot (h : MI P g s) {q q' : Int} {j : Nat} (hq : g.ow q = some j) (h1 : s.1.cursor - P.n < q') (h2 : q' ≤ s.1.cursor) (hne : q' ≠ q) : P.sl q' ≠ P.sl q:=by
  obtain ⟨a1,a2,a3,a4⟩:=h.own q j hq
  rcases Int.lt_trichotomy q' q with z | z | z
  · exact sl_ne P z (by omega)
  · exact absurd z hne
  · exact (sl_ne P z (by omega)).symm
theorem MI.stamp (h : MI P g s) {q x : Int} (hq : g.ow q = some i) (hx : x < 2 * P.lp q) : MI P g ({ s.1 with st:=upd s.1.st (P.sl q) x },s.2):=by
  obtain ⟨a1,a2,a3,a4⟩:=h.own q i hq
  refine ⟨h.c0,h.c1,h.nm,h.sn,h.he,fun q' l hl=>?_,fun q' h1 h2 h3 h4=>?_,fun q' h1 h2=>?_,h.len,h.an,h.cov,h.ris,h.ot⟩
  · obtain ⟨b1,b2,b3,b4⟩:=h.own q' l hl
    refine ⟨b1,b2,b3,?_⟩
    show upd s.1.st (P.sl q) x (P.sl q') < _
    by_cases e : q' = q
    · subst e; simp only [upd,if_true]; exact hx
    · simp only [upd]; rw [if_neg (own_slot h hq b3 b2 e)]; exact b4
  · have e : q' ≠ q:=fun e=>by subst e; rw [h4] at hq; cases hq
    obtain ⟨c1,c2⟩:=h.wr q' h1 h2 h3 h4
    refine ⟨?_,c2⟩
    show upd s.1.st (P.sl q) x (P.sl q') = _
    simp only [upd]; rw [if_neg (own_slot h hq h3 h2 e)]; exact c1
  · have h1 : s.1.cursor < q':=h1
    have h2 : q' ≤ s.1.cursor + P.n:=h2
    show upd s.1.st (P.sl q) x (P.sl q') < _
    simp only [upd]
    by_cases e : P.sl q' = P.sl q
    · rw [if_pos e]
      have:=sl_eq P (q:=q) (q':=q') (by omega) (by omega) e.symm
      rw [this,lp_add]; omega
    · rw [if_neg e]; exact h.ni q' h1 h2
theorem gu_st (h : MI P g s) {q : Int} (hq : g.ow q = some i) (x : Int) : GuM P i g s g ({ s.1 with st:=upd s.1.st (P.sl q) x },s.2) where
  le:=Int.le_refl _
  nm:=fun _ _=>rfl
  row:=fun _ _=>rfl
  ow:=fun _ _ _=>Iff.rfl
  no:=fun _ _ h=>h
  st:=fun q' l hl hq'=>by
    obtain ⟨b1,b2,b3,b4⟩:=h.own q' l hq'
    have e : q' ≠ q:=fun e=>by subst e; rw [hq] at hq'; cases hq'; exact hl rfl
    refine ⟨?_,rfl⟩
    show upd s.1.st (P.sl q) x (P.sl q') = _
    simp only [upd]; rw [if_neg (own_slot h hq b3 b2 e)]
  val:=fun _ _=>⟨rfl,rfl⟩
  new:=fun q a b=>absurd (show q ≤ s.1.cursor from b) (by omega)
  rem:=fun _ _=>rfl
theorem MI.value (h : MI P g s) {q x : Int} (hq : g.ow q = some i) : MI P g ({ s.1 with va:=upd s.1.va (P.sl q) x },s.2):=by
  refine ⟨h.c0,h.c1,h.nm,h.sn,h.he,h.own,fun q' h1 h2 h3 h4=>?_,h.ni,h.len,h.an,h.cov,h.ris,h.ot⟩
  have e : q' ≠ q:=fun e=>by subst e; rw [h4] at hq; cases hq
  obtain ⟨c1,c2⟩:=h.wr q' h1 h2 h3 h4
  refine ⟨c1,?_⟩
  show upd s.1.va (P.sl q) x (P.sl q') = _
  simp only [upd]; rw [if_neg (own_slot h hq h3 h2 e)]; exact c2
theorem gu_va (h : MI P g s) {q : Int} (hq : g.ow q = some i) (x : Int) : GuM P i g s g ({ s.1 with va:=upd s.1.va (P.sl q) x },s.2) where
  le:=Int.le_refl _
  nm:=fun _ _=>rfl
  row:=fun _ _=>rfl
  ow:=fun _ _ _=>Iff.rfl
  no:=fun _ _ h=>h
  st:=fun q' l hl hq'=>by
    obtain ⟨b1,b2,b3,b4⟩:=h.own q' l hq'
    have e : q' ≠ q:=fun e=>by subst e; rw [hq] at hq'; cases hq'; exact hl rfl
    refine ⟨rfl,?_⟩
    show upd s.1.va (P.sl q) x (P.sl q') = _
    simp only [upd]; rw [if_neg (own_slot h hq b3 b2 e)]
  val:=fun _ _=>⟨rfl,rfl⟩
  new:=fun q a b=>absurd (show q ≤ s.1.cursor from b) (by omega)
  rem:=fun _ _=>rfl
def letG (g : MG) (q : Int) : MG:={ g with ow:=fun q'=>if q' = q then none else g.ow q' }
theorem MI.done (h : MI P g s) {q : Int} (hq : g.ow q = some i) (hv : s.1.va (P.sl q) = g.val q) : MI P (letG g q) ({ s.1 with st:=upd s.1.st (P.sl q) (2 * P.lp q) },s.2):=by
  obtain ⟨a1,a2,a3,a4⟩:=h.own q i hq
  refine ⟨h.c0,h.c1,h.nm,h.sn,h.he,fun q' l hl=>?_,fun q' h1 h2 h3 h4=>?_,fun q' h1 h2=>?_,h.len,h.an,h.cov,h.ris,fun q' l hq'=>(by
    have hq' : (if q' = q then none else g.ow q') = some l:=hq'
    by_cases hz : q' = q
    · rw [if_pos hz] at hq'; cases hq'
    · rw [if_neg hz] at hq'; exact h.ot q' l hq')⟩
  · have hl : (if q' = q then none else g.ow q') = some l:=hl
    by_cases e : q' = q
    · rw [if_pos e] at hl; cases hl
    · rw [if_neg e] at hl
      obtain ⟨b1,b2,b3,b4⟩:=h.own q' l hl
      refine ⟨b1,b2,b3,?_⟩
      show upd s.1.st (P.sl q) (2 * P.lp q) (P.sl q') < _
      simp only [upd]; rw [if_neg (own_slot h hq b3 b2 e)]; exact b4
  · have h4 : (if q' = q then none else g.ow q') = none:=h4
    by_cases e : q' = q
    · subst e
      refine ⟨?_,hv⟩
      show upd s.1.st (P.sl q') (2 * P.lp q') (P.sl q') = _
      simp only [upd,if_true]
    · rw [if_neg e] at h4
      obtain ⟨c1,c2⟩:=h.wr q' h1 h2 h3 h4
      refine ⟨?_,c2⟩
      show upd s.1.st (P.sl q) (2 * P.lp q) (P.sl q') = _
      simp only [upd]; rw [if_neg (own_slot h hq h3 h2 e)]; exact c1
  · have h1 : s.1.cursor < q':=h1
    have h2 : q' ≤ s.1.cursor + P.n:=h2
    show upd s.1.st (P.sl q) (2 * P.lp q) (P.sl q') < _
    simp only [upd]
    by_cases e : P.sl q' = P.sl q
    · rw [if_pos e]
      have:=sl_eq P (q:=q) (q':=q') (by omega) (by omega) e.symm
      rw [this,lp_add]; omega
    · rw [if_neg e]; exact h.ni q' h1 h2
theorem gu_done (h : MI P g s) {q : Int} (hq : g.ow q = some i) : GuM P i g s (letG g q) ({ s.1 with st:=upd s.1.st (P.sl q) (2 * P.lp q) },s.2):=by
  have k:=gu_st h hq (2 * P.lp q)
  refine ⟨k.le,k.nm,k.row,fun q' l hl=>?_,fun q' h1 h2=>?_,k.st,k.val,k.new,k.rem⟩
  · show (if q' = q then none else g.ow q') = some l ↔ _
    by_cases e : q' = q
    · subst e
      rw [if_pos rfl,hq]
      refine ⟨fun z=>(by cases z),fun z=>?_⟩
      simp only [Option.some.injEq] at z
      exact absurd z.symm hl
    · rw [if_neg e]
  · show (if q' = q then none else g.ow q') = none
    split
    · rfl
    · exact h2
theorem MI.push (h : MI P g s) (hi : i < P.T) (a : Ans) (hlt : (s.2 i).length < (P.ops i).length)
    (ho : a.ok = true → Claimed P g s.1.cursor i (s.2 i).length ((P.ops i)[(s.2 i).length]) a.n∧∀ kx (hk : kx < (s.2 i).length),((s.2 i)[kx]).ok = true → ((s.2 i)[kx]).n ≤ a.n - ((P.ops i)[(s.2 i).length]).b)
    (hc : ∀ q,P.fs ≤ q → q ≤ s.1.cursor → g.who q = (i,(s.2 i).length) → a.ok = true∧a.n - ((P.ops i)[(s.2 i).length]).b < q∧q ≤ a.n) : MI P g (pushQ i a s):=by
  have rowi : (pushQ i a s).2 i = s.2 i ++ [a]:=if_pos rfl
  have rowl : ∀ l,l ≠ i → (pushQ i a s).2 l = s.2 l:=fun l hl=>if_neg hl
  refine ⟨h.c0,h.c1,h.nm,h.sn,h.he,h.own,h.wr,h.ni,fun l hl=>?_,fun l hl kx h1 h2 h3=>?_,fun q h1 h2=>?_,fun l hl x y hx hy hy2 hxy ex ey=>?_,h.ot⟩
  · by_cases e : l = i
    · subst e; rw [rowi,List.length_append,List.length_singleton]; omega
    · rw [rowl l e]; exact h.len l hl
  · by_cases e : l = i
    · subst e
      simp only [rowi] at h1 h3 ⊢
      by_cases ek : kx < (s.2 l).length
      · rw [List.getElem_append_left ek] at h3 ⊢
        exact h.an l hl kx ek h2 h3
      · have ek : kx = (s.2 l).length:=by rw [List.length_append,List.length_singleton] at h1; omega
        subst ek
        rw [List.getElem_append_right (Nat.le_refl _)] at h3 ⊢
        simp only [Nat.sub_self,List.getElem_cons_zero] at h3 ⊢
        exact (ho h3).1
    · simp only [rowl l e] at h1 h3 ⊢
      exact h.an l hl kx h1 h2 h3
  · obtain ⟨b1,b2,b3⟩:=h.cov q h1 h2
    obtain ⟨⟨l,kx⟩,hw⟩ : ∃ p,g.who q = p:=⟨_,rfl⟩
    have hcq:=fun z=>hc q h1 h2 z
    rw [hw] at b1 b2 b3 hcq
    show (g.who q).1 < P.T∧(g.who q).2 ≤ ((pushQ i a s).2 (g.who q).1).length∧_
    rw [hw]
    dsimp only at b1 b2 b3 ⊢
    by_cases e : l = i
    · subst e
      simp only [rowi]
      refine ⟨b1,by rw [List.length_append]; omega,fun k1 k2=>?_⟩
      by_cases ek : kx < (s.2 l).length
      · simp only [List.getElem_append_left ek]
        exact b3 ek k2
      · have ek : kx = (s.2 l).length:=by omega
        subst ek
        simp only [List.getElem_append_right (Nat.le_refl _),Nat.sub_self,List.getElem_cons_zero]
        exact hcq rfl
    · simp only [rowl _ e]
      exact ⟨b1,b2,b3⟩
  · by_cases e : l = i
    · subst e
      simp only [rowi] at hx hy ex ey ⊢
      rw [List.length_append,List.length_singleton] at hx hy
      by_cases ek : y < (s.2 l).length
      · have ex' : x < (s.2 l).length:=by omega
        simp only [List.getElem_append_left ek,List.getElem_append_left ex'] at ex ey ⊢
        exact h.ris l hl x y ex' ek hy2 hxy ex ey
      · have ek : y = (s.2 l).length:=by omega
        subst ek
        have ex' : x < (s.2 l).length:=by omega
        simp only [List.getElem_append_left ex',List.getElem_append_right (Nat.le_refl _),Nat.sub_self,List.getElem_cons_zero] at ex ey ⊢
        exact (ho ey).2 x ex' ex
    · simp only [rowl l e] at hx hy ex ey ⊢
      exact h.ris l hl x y hx hy hy2 hxy ex ey
theorem gu_push (a : Ans) : GuM P i g s g (pushQ i a s):=⟨Int.le_refl _,fun _ _=>rfl,fun l hl=>if_neg hl,fun _ _ _=>Iff.rfl,fun _ _ h=>h,fun _ _ _ _=>⟨rfl,rfl⟩,fun _ _=>⟨rfl,rfl⟩,fun q a b=>absurd (show q ≤ s.1.cursor from b) (by omega),fun _ _=>rfl⟩
end
section
variable {P : MPar} {i : Nat}
def AfM (P : MPar) (i : Nat) (g : MG) (s : MSS) (B : Nat) (K : MSS → Tree MSS MSS) : Prop:=∀ g0 b0 s0 g' s',MCur P i g0 s0 g' s' → ReM P i g s g' s' → B ≤ b0 i → RgM P i (K s') g0 b0 s0
theorem AfM.on {g g1 : MG} {s s1 : MSS} {B : Nat} {K : MSS → Tree MSS MSS} (h : AfM P i g s B K) (r : ReM P i g s g1 s1) : AfM P i g1 s1 B K:=fun g0 b0 s0 g' s' hc hr hb=>h g0 b0 s0 g' s' hc (r.trans hr) hb
theorem g_least {B : Nat} {K : Int → MSS → Tree MSS MSS} : ∀ (m : Nat) (l p : Int) (g0 : MG) (b0 : Nat → Nat) (s0 : MSS) (g : MG) (s : MSS),MCur P i g0 s0 g s → B + m ≤ b0 i → m ≤ P.k → (∀ j,j < P.k - m → l ≤ P.num j) → (p < 0 → m = P.k) → (∀ r,(∀ j,j < P.k → r ≤ P.num j) → AfM P i g s B (K r)) → RgM P i (rleastT P.k m l p s K) g0 b0 s0
  | 0,l,p,g0,b0,s0,g,s,hc,hb,hm,hl,hp,hk=>hk l (fun j hj=>hl j (by omega)) g0 b0 s0 g s hc (ReM.refl P i g s) (by omega)
  | m + 1,l,p,g0,b0,s0,g,s,hc,hb,hm,hl,hp,hk=>by
    refine m_yield hc (B:=B + m) (by omega) fun g2 b2 s2 hr hI hb2=>?_
    have hv : (mql (P.k - (m + 1))).get s2.1 = P.num (P.k - (m + 1)):=hI.nm _ (by omega)
    show RgM P i (if p < 0 ∨ (mql (P.k - (m + 1))).get s2.1 < l then rleastT P.k m ((mql (P.k - (m + 1))).get s2.1) (P.k - (m + 1) : Nat) s2 K else rleastT P.k m l p s2 K) g2 b2 s2
    rw [hv]
    have hk2 : ∀ r,(∀ j,j < P.k → r ≤ P.num j) → AfM P i g2 s2 B (K r):=fun r h=>(hk r h).on hr
    by_cases e : p < 0 ∨ P.num (P.k - (m + 1)) < l
    · rw [if_pos e]
      refine g_least m _ _ g2 b2 s2 g2 s2 (.refl hI) hb2 (by omega) (fun j hj=>?_) (fun z=>by omega) hk2
      by_cases ej : j = P.k - (m + 1)
      · rw [ej]; exact Int.le_refl _
      · rcases e with e | e
        · have:=hp e; omega
        · have:=hl j (by omega); omega
    · rw [if_neg e]
      refine g_least m _ _ g2 b2 s2 g2 s2 (.refl hI) hb2 (by omega) (fun j hj=>?_) (fun z=>absurd (Or.inl z) e) hk2
      by_cases ej : j = P.k - (m + 1)
      · rw [ej]; omega
      · exact hl j (by omega)
theorem g_free {B : Nat} {K : Bool → MSS → Tree MSS MSS} {g0 : MG} {b0 : Nat → Nat} {s0 : MSS} {g : MG} {s : MSS} (hc : MCur P i g0 s0 g s) (c m : Int) (hb : B + P.k + 2 ≤ b0 i) (hk : ∀ b,(b = true → ∀ j,j < P.k → c + m ≤ P.num j + P.n) → AfM P i g s B (K b)) :
    RgM P i (freeT mel (M0 P.n P.fs) (fun c s kk=>rleastT P.k P.k c (-1) s kk) c m s K) g0 b0 s0:=by
  refine m_yield hc (B:=B + P.k + 1) (by omega) fun g1 b1 s1 hr1 hI1 hb1=>?_
  show RgM P i (if c + m - P.n ≤ s1.1.seen then K true s1 else rleastT P.k P.k c (-1) s1 fun l s=>storeW mel (min l c) s fun s=>K (decide (c + m - P.n ≤ min l c)) s) g1 b1 s1
  by_cases e : c + m - P.n ≤ s1.1.seen
  · rw [if_pos e]
    exact hk true (fun _ j hj=>by have:=hI1.sn j hj; omega) g1 b1 s1 g1 s1 (.refl hI1) hr1 (by omega)
  · rw [if_neg e]
    refine g_least (B:=B + 1) P.k c (-1) g1 b1 s1 g1 s1 (.refl hI1) (by omega) (Nat.le_refl _) (fun j hj=>by omega) (fun _=>rfl) fun r hr=>?_
    intro g0' b0' s0' g' s' hc' hr' hb'
    refine m_yield hc' hb' fun g2 b2 s2 hr2 hI2 hb2=>?_
    have hx : ∀ j,j < P.k → min r c ≤ P.num j:=fun j hj=>by have:=hr j hj; omega
    refine hk _ (fun hd j hj=>?_) g2 b2 s2 g2 ({ s2.1 with seen:=min r c },s2.2) ⟨gu_seen _,hI2.seen _ hx⟩ ?_ hb2
    · have:=of_decide_eq_true hd
      have:=hx j hj
      omega
    · have h3:=(hr1.trans hr').trans hr2
      exact ⟨h3.le,h3.nm,h3.row,h3.ow,h3.no,h3.st,h3.val,h3.new,h3.rem⟩
def Wk (P : MPar) (c q : Int) (g : MG) (s : MSS) : Prop:=s.1.cursor = c → ∀ q',P.fs ≤ q' → c - P.n < q' → q' < q → g.ow q' = none
theorem Wk.on {c q : Int} {g g' : MG} {s s' : MSS} (h : Wk P c q g s) (hc : c ≤ s.1.cursor) (hq : q ≤ c + 1) (r : ReM P i g s g' s') : Wk P c q g' s':=fun e q' h1 h2 h3=>by
  have:=r.le
  exact r.no q' (by omega) (h (by omega) q' h1 h2 h3)
theorem g_wrot {B : Nat} {c : Int} (hcb : c < 4611686018427387904) {K : Bool → MSS → Tree MSS MSS} : ∀ (m : Nat) (q : Int) (g0 : MG) (b0 : Nat → Nat) (s0 : MSS) (g : MG) (s : MSS),MCur P i g0 s0 g s → B + m ≤ b0 i → c ≤ s.1.cursor → q + m ≤ c + 1 → Wk P c q g s →
    (∀ b g0' b0' s0' g' s',MCur P i g0' s0' g' s' → ReM P i g s g' s' → B ≤ b0' i → (b = true → Wk P c (q + m) g' s') → RgM P i (K b s') g0' b0' s0') → RgM P i (wrotL mrl (M0 P.n P.fs) m q s K) g0 b0 s0
  | 0,q,g0,b0,s0,g,s,hc,hb,hcc,hq,hw,hk=>hk true g0 b0 s0 g s hc (ReM.refl P i g s) (by omega) fun _=>by rw [show q + ((0 : Nat) : Int) = q by simp]; exact hw
  | m + 1,q,g0,b0,s0,g,s,hc,hb,hcc,hq,hw,hk=>by
    have hf0:=P.f0
    show RgM P i (if P.fs ≤ q then thereG mrl P.n q s fun b s=>if b then wrotL mrl (M0 P.n P.fs) m (q + 1) s K else K false s else wrotL mrl (M0 P.n P.fs) m (q + 1) s K) g0 b0 s0
    by_cases e : P.fs ≤ q
    · rw [if_pos e]
      have hin : InB q:=⟨by omega,by omega⟩
      rw [show thereG mrl P.n q s (fun b s=>if b then wrotL mrl (M0 P.n P.fs) m (q + 1) s K else K false s) = thereT mrl P.n q s (fun b s=>if b then wrotL mrl (M0 P.n P.fs) m (q + 1) s K else K false s) from if_pos hin]
      refine m_yield hc (B:=B + m) (by omega) fun g2 b2 s2 hr hI hb2=>?_
      have hle:=hr.le
      show RgM P i (if (s2.1.st (P.sl q) == 2 * P.lp q) = true then wrotL mrl (M0 P.n P.fs) m (q + 1) s2 K else K false s2) g2 b2 s2
      by_cases hst : s2.1.st (P.sl q) = 2 * P.lp q
      · rw [if_pos (by simpa using hst)]
        have hw2 : Wk P c (q + 1) g2 s2:=fun ec q' h1 h2 h3=>by
          by_cases eq : q' = q
          · subst eq
            cases ho : g2.ow q' with
            | none=>rfl
            | some l=>have:=(hI.own q' l ho).2.2.2; omega
          · exact (hw.on hcc (by omega) hr) ec q' h1 h2 (by omega)
        refine g_wrot hcb m (q + 1) g2 b2 s2 g2 s2 (.refl hI) hb2 (by omega) (by omega) hw2 fun b g0' b0' s0' g' s' hc' hr' hb' hw'=>?_
        exact hk b g0' b0' s0' g' s' hc' (hr.trans hr') hb' fun z=>by rw [show q + ((m + 1 : Nat) : Int) = q + 1 + m by omega]; exact hw' z
      · rw [if_neg (by simpa using hst)]
        exact hk false g2 b2 s2 g2 s2 (.refl hI) hr (by omega) (fun z=>by cases z)
    · rw [if_neg e]
      have hw2 : Wk P c (q + 1) g s:=fun ec q' h1 h2 h3=>hw ec q' h1 h2 (by omega)
      refine g_wrot (B:=B) hcb m (q + 1) g0 b0 s0 g s hc (by omega) hcc (by omega) hw2 fun b g0' b0' s0' g' s' hc' hr' hb' hw'=>?_
      exact hk b g0' b0' s0' g' s' hc' hr' hb' fun z=>by rw [show q + ((m + 1 : Nat) : Int) = q + 1 + m by omega]; exact hw' z
def MPar.top (P : MPar) : Int:=P.fs - 1 + sumB (fun i=>bsum (P.ops i)) P.T
theorem MI.top {g : MG} {s : MSS} (h : MI P g s) : s.1.cursor ≤ P.top:=by have:=h.c1; unfold MPar.top; omega
theorem g_claimL {B : Nat} (hi : i < P.T) (ht : P.top < 4611686018427387904) {m : Nat} (hm1 : 1 ≤ m) (hm2 : m ≤ P.n) (hm4 : m ≤ 4) {K : Int → Int → MSS → Tree MSS MSS} (o : OpI) (r : Nat) : ∀ (f : Nat) (g0 : MG) (b0 : Nat → Nat) (s0 : MSS) (g : MG) (s : MSS),MCur P i g0 s0 g s → 4611686018427387904 ≤ s.1.cursor + f → (P.top - s.1.cursor).toNat * 14 + 14 + B ≤ b0 i → r + m ≤ g.rem i →
    (∀ e,e ≠ 0 → AfM P i g s B (K 0 e)) →
    (∀ g2 b2 s2,ReM P i g s g2 s2 → MI P g2 s2 → B ≤ b2 i → MCur P i g2 s2 (clmG g2 i s2.1.cursor m o (s2.2 i).length r) ({ s2.1 with cursor:=s2.1.cursor + m },s2.2) → RgM P i (K (s2.1.cursor + m) 0 ({ s2.1 with cursor:=s2.1.cursor + m },s2.2)) g2 b2 s2) →
    RgM P i (claimL mrl mcl mel (M0 P.n P.fs) (fun c s kk=>rleastT P.k P.k c (-1) s kk) m f s K) g0 b0 s0
  | 0,g0,b0,s0,g,s,hc,hf,hb,hrem,hfail,hok=>by have:=hc.inv.top; simp at hf; omega
  | f + 1,g0,b0,s0,g,s,hc,hf,hb,hrem,hfail,hok=>by
    have hk6:=P.k6
    have htop:=hc.inv.top
    refine m_yield hc (B:=(P.top - s.1.cursor).toNat * 14 + 13 + B) (by omega) fun g1 b1 s1 hr1 hI1 hb1=>?_
    have htop1:=hI1.top
    have hle1:=hr1.le
    obtain ⟨c,hcc⟩ : ∃ c,c = s1.1.cursor:=⟨_,rfl⟩
    show RgM P i (if 4611686018427387904 ≤ s1.1.cursor + (m : Int) then K 0 8 s1 else freeT mel (M0 P.n P.fs) _ s1.1.cursor m s1 fun b s=>if b = true then wrotL mrl (M0 P.n P.fs) (m : Int).toNat (s1.1.cursor + 1 - P.n) s fun b s=>if b = true then casW mcl s1.1.cursor (s1.1.cursor + m) s fun b s=>if b = true then K (s1.1.cursor + m) 0 s else claimL mrl mcl mel (M0 P.n P.fs) _ m f s K else loadW mcl s fun d s=>if d = s1.1.cursor then K 0 3 s else claimL mrl mcl mel (M0 P.n P.fs) _ m f s K else K 0 3 s) g1 b1 s1
    rw [← hcc,Int.toNat_natCast]
    have hbc : (P.top - c).toNat * 14 + 13 + B ≤ b1 i:=by omega
    by_cases he : 4611686018427387904 ≤ c + (m : Int)
    · rw [if_pos he]; exact hfail 8 (by decide) g1 b1 s1 g1 s1 (.refl hI1) hr1 (by omega)
    rw [if_neg he]
    refine g_free (B:=(P.top - c).toNat * 14 + 5 + B) (.refl hI1) c m (by omega) fun b hF=>?_
    intro g2 b2 s2 g2' s2' hc2 hr2 hb2
    have hle2:=hr2.le
    dsimp only
    cases b with
    | false =>
      rw [if_neg (by decide)]
      exact hfail 3 (by decide) g2 b2 s2 g2' s2' hc2 (hr1.trans hr2) (by omega)
    | true =>
    have hF:=hF rfl
    rw [if_pos rfl]
    refine g_wrot (B:=(P.top - c).toNat * 14 + 1 + B) (c:=c) (by omega) m (c + 1 - P.n) g2 b2 s2 g2' s2' hc2 (by omega) (by omega) (by omega) (fun _ q' h1 h2 h3=>by omega) fun b g3 b3 s3 g3' s3' hc3 hr3 hb3 hw3=>?_
    have hle3:=hr3.le
    have hr13:=(hr1.trans hr2).trans hr3
    cases b with
    | false =>
      rw [if_neg (by decide)]
      refine m_yield hc3 (B:=(P.top - c).toNat * 14 + B) (by omega) fun g4 b4 s4 hr4 hI4 hb4=>?_
      have hle4:=hr4.le
      show RgM P i (if s4.1.cursor = c then K 0 3 s4 else claimL mrl mcl mel (M0 P.n P.fs) _ m f s4 K) g4 b4 s4
      by_cases hd : s4.1.cursor = c
      · rw [if_pos hd]; exact hfail 3 (by decide) g4 b4 s4 g4 s4 (.refl hI4) (hr13.trans hr4) (by omega)
      · rw [if_neg hd]
        have htop4:=hI4.top
        exact g_claimL hi ht hm1 hm2 hm4 o r f g4 b4 s4 g4 s4 (.refl hI4) (by omega) (by omega) (by rw [(hr13.trans hr4).rem]; exact hrem) (fun e h=>(hfail e h).on (hr13.trans hr4)) fun g5 b5 s5 hr5 hI5 hb5 hc5=>hok g5 b5 s5 ((hr13.trans hr4).trans hr5) hI5 hb5 hc5
    | true =>
      rw [if_pos rfl]
      have hw3:=hw3 rfl
      refine m_yield hc3 (B:=(P.top - c).toNat * 14 + B) (by omega) fun g4 b4 s4 hr4 hI4 hb4=>?_
      have hle4:=hr4.le
      show RgM P i (if s4.1.cursor = c then (if true = true then K (c + m) 0 (mcl.put (c + m) s4.1,s4.2) else _) else (if false = true then _ else claimL mrl mcl mel (M0 P.n P.fs) _ m f s4 K)) g4 b4 s4
      by_cases hd : s4.1.cursor = c
      · rw [if_pos hd,if_pos rfl]
        have hw4:=hw3.on (i:=i) (by omega) (by omega) hr4
        have hrem4 : r + m ≤ g4.rem i:=by rw [(hr13.trans hr4).rem]; exact hrem
        have h:=hok g4 b4 s4 (hr13.trans hr4) hI4 (by omega) ⟨gu_claim hI4,hI4.claim hi rfl hm1 hm2 hrem4 (fun j hj=>by rw [hd]; exact hF j hj) (fun q' h1 h2 h3=>hw4 hd q' h1 (by omega) (by omega))⟩
        rw [hd] at h
        exact h
      · rw [if_neg hd]
        show RgM P i (claimL mrl mcl mel (M0 P.n P.fs) _ m f s4 K) g4 b4 s4
        have htop4:=hI4.top
        exact g_claimL hi ht hm1 hm2 hm4 o r f g4 b4 s4 g4 s4 (.refl hI4) (by omega) (by omega) (by rw [(hr13.trans hr4).rem]; exact hrem) (fun e h=>(hfail e h).on (hr13.trans hr4)) fun g5 b5 s5 hr5 hI5 hb5 hc5=>hok g5 b5 s5 ((hr13.trans hr4).trans hr5) hI5 hb5 hc5
end
section
variable {P : MPar} {i : Nat}
structure Kp (P : MPar) (i : Nat) (g : MG) (s : MSS) (g' : MG) (s' : MSS) : Prop where
  le : s.1.cursor ≤ s'.1.cursor
  row : s'.2 i = s.2 i
  val : ∀ q,q ≤ s.1.cursor → g'.val q = g.val q∧g'.who q = g.who q
  new : ∀ q,s.1.cursor < q → q ≤ s'.1.cursor → (g'.who q).1 ≠ i
  rem : g'.rem i = g.rem i
theorem ReM.kp {g g' : MG} {s s' : MSS} (h : ReM P i g s g' s') : Kp P i g s g' s':=⟨h.le,h.row,h.val,h.new,h.rem⟩
theorem Kp.refl (g : MG) (s : MSS) : Kp P i g s g s:=(ReM.refl P i g s).kp
theorem Kp.trans {g g1 g2 : MG} {s s1 s2 : MSS} (h : Kp P i g s g1 s1) (k : Kp P i g1 s1 g2 s2) : Kp P i g s g2 s2 where
  le:=Int.le_trans h.le k.le
  row:=k.row.trans h.row
  val:=fun q hq=>by
    obtain ⟨a,b⟩:=h.val q hq
    obtain ⟨c,d⟩:=k.val q (Int.le_trans hq h.le)
    exact ⟨c.trans a,d.trans b⟩
  new:=fun q h1 h2=>by
    by_cases e : q ≤ s1.1.cursor
    · rw [(k.val q e).2]; exact h.new q h1 e
    · exact k.new q (by omega) h2
  rem:=k.rem.trans h.rem
theorem g_put {B : Nat} {q v : Int} (hin : InB q) {K : Int → MSS → Tree MSS MSS} {g0 : MG} {b0 : Nat → Nat} {s0 : MSS} {g : MG} {s : MSS} (hc : MCur P i g0 s0 g s) (hb : B + 3 ≤ b0 i) (hq : g.ow q = some i) (hv : g.val q = v)
    (hk : ∀ g2 b2 s2 g' s',MCur P i g2 s2 g' s' → Kp P i g s g' s' → (∀ q',q' ≠ q → (g'.ow q' = some i ↔ g.ow q' = some i)) → g'.ow q ≠ some i → B ≤ b2 i → RgM P i (K 0 s') g2 b2 s2) : RgM P i (putG mrl P.n q v s K) g0 b0 s0:=by
  rw [show putG mrl P.n q v s K = putT mrl P.n q v s (K 0) from if_pos hin]
  refine m_yield hc (B:=B + 2) (by omega) fun g1 b1 s1 hr1 hI1 hb1=>?_
  have hq1:=(hr1.ow q).2 hq
  have hv1 : g1.val q = v:=by rw [(hr1.val q (hc.inv.own q i hq).2.1).1]; exact hv
  have m1 : MCur P i g1 s1 g1 ({ s1.1 with st:=upd s1.1.st (P.sl q) (2 * P.lp q - 1) },s1.2):=⟨gu_st hI1 hq1 _,hI1.stamp hq1 (by omega)⟩
  refine m_yield m1 (B:=B + 1) (by omega) fun g2 b2 s2 hr2 hI2 hb2=>?_
  have hq2:=(hr2.ow q).2 hq1
  have hv2 : g2.val q = v:=by rw [(hr2.val q (m1.inv.own q i hq1).2.1).1]; exact hv1
  have m2 : MCur P i g2 s2 g2 ({ s2.1 with va:=upd s2.1.va (P.sl q) v },s2.2):=⟨gu_va hI2 hq2 _,hI2.value hq2⟩
  refine m_yield m2 (B:=B) (by omega) fun g3 b3 s3 hr3 hI3 hb3=>?_
  have hq3:=(hr3.ow q).2 hq2
  have hv3 : g3.val q = v:=by rw [(hr3.val q (m2.inv.own q i hq2).2.1).1]; exact hv2
  have hva : s3.1.va (P.sl q) = g3.val q:=by
    rw [(hr3.st q hq2).2,hv3]
    show upd s2.1.va (P.sl q) v (P.sl q) = v
    simp only [upd,if_true]
  have k1 : Kp P i g s g1 s1:=hr1.kp
  have k2 : Kp P i g1 s1 g2 s2:=⟨hr2.le,hr2.row,hr2.val,hr2.new,hr2.rem⟩
  have k3 : Kp P i g2 s2 g3 s3:=⟨hr3.le,hr3.row,hr3.val,hr3.new,hr3.rem⟩
  have k4 : Kp P i g3 s3 (letG g3 q) ({ s3.1 with st:=upd s3.1.st (P.sl q) (2 * P.lp q) },s3.2):=⟨Int.le_refl _,rfl,fun _ _=>⟨rfl,rfl⟩,fun q a b=>absurd (show q ≤ s3.1.cursor from b) (by omega),rfl⟩
  refine hk g3 b3 s3 (letG g3 q) ({ s3.1 with st:=upd s3.1.st (P.sl q) (2 * P.lp q) },s3.2) ⟨gu_done hI3 hq3,hI3.done hq3 hva⟩ (((k1.trans k2).trans k3).trans k4) (fun q' hne=>?_) (by show (if q = q then none else g3.ow q) ≠ some i; rw [if_pos rfl]; exact fun z=>by cases z) hb3
  show (if q' = q then none else g3.ow q') = some i ↔ _
  rw [if_neg hne]
  exact (hr3.ow q').trans ((hr2.ow q').trans (hr1.ow q'))
theorem g_lays {B : Nat} {base : Int} (hb0 : 0 ≤ base) {K : MSS → Tree MSS MSS} : ∀ (vs : List Int) (j : Nat) (g0 : MG) (b0 : Nat → Nat) (s0 : MSS) (g : MG) (s : MSS),MCur P i g0 s0 g s → B + 3 * vs.length ≤ b0 i → base + j + vs.length < 4611686018427387904 → (∀ t (h : t < vs.length),g.ow (base + j + t) = some i∧g.val (base + j + t) = vs[t]) →
    (∀ g2 b2 s2 g' s',MCur P i g2 s2 g' s' → Kp P i g s g' s' → (∀ q,g'.ow q = some i → g.ow q = some i∧¬ (base + j ≤ q∧q < base + j + vs.length)) → B ≤ b2 i → RgM P i (K s') g2 b2 s2) → RgM P i (laysT mrl (M0 P.n P.fs) base vs j s K) g0 b0 s0
  | [],j,g0,b0,s0,g,s,hc,hb,hlt,hw,hk=>hk g0 b0 s0 g s hc (Kp.refl g s) (fun q hq=>⟨hq,by simp only [List.length_nil]; omega⟩) (by simpa using hb)
  | v :: vs,j,g0,b0,s0,g,s,hc,hb,hlt,hw,hk=>by
    simp only [List.length_cons] at hb hlt
    obtain ⟨h1,h2⟩:=hw 0 (by simp)
    have e0 : base + j + ((0 : Nat) : Int) = base + j:=by simp
    rw [e0] at h1 h2
    refine g_put (B:=B + 3 * vs.length) (q:=base + j) (v:=v) ⟨by omega,by omega⟩ hc (by omega) h1 h2 fun g2 b2 s2 g' s' hc2 hkp how hoq hb2=>?_
    refine g_lays hb0 vs (j + 1) g2 b2 s2 g' s' hc2 hb2 (by omega) (fun t ht=>?_) fun g3 b3 s3 g4 s4 hc4 hk4 ho4 hb4=>hk g3 b3 s3 g4 s4 hc4 (hkp.trans hk4) (fun q hq=>by
      obtain ⟨z1,z2⟩:=ho4 q hq
      have hne : q ≠ base + j:=fun e=>hoq (e ▸ z1)
      refine ⟨(how q hne).1 z1,?_⟩
      simp only [List.length_cons]
      omega) hb4
    obtain ⟨h3,h4⟩:=hw (t + 1) (by simp; omega)
    have e1 : base + ((j + 1 : Nat) : Int) + (t : Int) = base + j + ((t + 1 : Nat) : Int):=by omega
    rw [e1]
    refine ⟨(how _ (by omega)).2 h3,?_⟩
    rw [(hkp.val _ (hc.inv.own _ i h3).2.1).1,h4]
    rfl
structure Told (P : MPar) (i kx : Nat) (o : OpI) (a : Ans) (g : MG) (s : MSS) : Prop where
  ok : a.ok = true → Claimed P g s.1.cursor i kx o a.n∧∀ k (h : k < (s.2 i).length),((s.2 i)[k]).ok = true → ((s.2 i)[k]).n ≤ a.n - o.b
  cov : ∀ q,P.fs ≤ q → q ≤ s.1.cursor → g.who q = (i,kx) → a.ok = true∧a.n - o.b < q∧q ≤ a.n
theorem rowV_len' (a : Int) (m : Nat) : (rowV a m).length = m:=by simp [rowV]
theorem g_do {B : Nat} (hi : i < P.T) (ht : P.top < 2199023255552) {o : OpI} {kx r : Nat} (hkx : ∀ (g : MG) (s : MSS),MI P g s → (s.2 i).length = kx → ∀ q,P.fs ≤ q → q ≤ s.1.cursor → (g.who q).1 = i → (g.who q).2 ≤ kx) (hlt : kx < (P.ops i).length) (ho : (P.ops i)[kx] = o) (hw : o.kind = 3∧1 ≤ o.b∧o.b ≤ 4∧0 ≤ o.a∧o.a ≤ 100000) {K : Ans → MSS → Tree MSS MSS} {g0 : MG} {b0 : Nat → Nat} {s0 : MSS} {g : MG} {s : MSS} (hc : MCur P i g0 s0 g s) (hk0 : (s.2 i).length = kx) (hnp : NoPend P i g s) (hno : ∀ q,g.ow q ≠ some i) (hr : r + o.b.toNat ≤ g.rem i) (hb : (P.top - (P.fs - 1)).toNat * 14 + 26 + B ≤ b0 i)
    (hk : ∀ a g2 b2 s2 g' s',MCur P i g2 s2 g' s' → s'.2 i = s.2 i → r ≤ g'.rem i → B ≤ b2 i → Told P i kx o a g' s' → (∀ q,g'.ow q ≠ some i) → RgM P i (K a s') g2 b2 s2) : RgM P i (doM (M0 P.n P.fs) P.k i o s K) g0 b0 s0:=by
  obtain ⟨hw0,hw1,hw2,hw3,hw4⟩:=hw
  have hn0:=P.n0
  have hf0:=P.f0
  have hc0:=hc.inv.c0
  have hfail : ∀ e,e ≠ 0 → AfM P i g s B (fun s=>K (ansT 0 e) s):=fun e he=>by
    intro g2 b2 s2 g' s' hc' hr' hb'
    have ha : (ansT 0 e).ok = false:=by show (e == 0) = false; simpa using he
    refine hk (ansT 0 e) g2 b2 s2 g' s' hc' hr'.row (by rw [hr'.rem]; omega) hb' ⟨fun z=>(by rw [ha] at z; cases z),fun q h1 h2 h3=>?_⟩ (fun q hq=>hno q ((hr'.ow q).1 hq))
    by_cases e2 : q ≤ s.1.cursor
    · have h4:=(hr'.val q e2).2
      rw [h3] at h4
      have:=hnp q h1 e2 (by rw [← h4])
      rw [← h4] at this
      have : kx < (s.2 i).length:=this
      omega
    · have:=hr'.new q (by omega) h2
      rw [h3] at this
      exact absurd rfl this
  have hdo : doM (M0 P.n P.fs) P.k i o s K = claimM mrl mcl mel (M0 P.n P.fs) (fun c s kk=>rleastT P.k P.k c (-1) s kk) (wcountM P.n o.b : Int) s (fun x e s=>if e = 0 then laysT mrl (M0 P.n P.fs) (x - (wcountM P.n o.b : Int) + 1) (rowV o.a (wcountM P.n o.b)) 0 s (fun s=>K (ansT x 0) s) else K (ansT 0 e) s):=by
    unfold doM
    rw [if_neg (by omega),if_neg (by omega),if_pos hw0]
    unfold offerT
    rw [rowV_len']
    rfl
  rw [hdo]
  obtain ⟨m,hm⟩ : ∃ m,m = wcountM P.n o.b:=⟨_,rfl⟩
  have hmb : (m : Int) = min o.b (P.n + 1):=by rw [hm]; unfold wcountM; omega
  rw [← hm]
  unfold claimM
  by_cases e1 : (m : Int) < 1 ∨ ((M0 P.n P.fs).n : Int) < m
  · rw [if_pos e1]
    exact hfail 1 (by decide) g0 b0 s0 g s hc (ReM.refl P i g s) (by omega)
  rw [if_neg e1]
  have hmn : m ≤ P.n:=by have : ¬ ((P.n : Int) < m):=fun z=>e1 (.inr z); omega
  have hmo : (m : Int) = o.b:=by omega
  have hm4 : m ≤ 4:=by omega
  have htop:=hc.inv.top
  refine g_claimL (B:=B + 3 * m) hi (by omega) (by omega) hmn hm4 o r 4611686018427387906 g0 b0 s0 g s hc (by omega) (by omega) (by omega) (fun e he=>?_) fun g2 b2 s2 hr2 hI2 hb2 hc2=>?_
  · intro g2 b2 s2 g' s' hc' hr' hb'
    show RgM P i (if e = 0 then _ else K (ansT 0 e) s') g2 b2 s2
    rw [if_neg he]
    exact hfail e he g2 b2 s2 g' s' hc' hr' (by omega)
  · obtain ⟨c,hcc⟩ : ∃ c,c = s2.1.cursor:=⟨_,rfl⟩
    have hle:=hr2.le
    have htop2:=hI2.top
    have hrow : s2.2 i = s.2 i:=hr2.row
    rw [hrow,hk0,← hcc] at hc2
    rw [← hcc]
    show RgM P i (if (0 : Int) = 0 then laysT mrl (M0 P.n P.fs) (c + m - m + 1) (rowV o.a m) 0 ({ s2.1 with cursor:=c + m },s2.2) (fun s=>K (ansT (c + m) 0) s) else _) g2 b2 s2
    rw [if_pos rfl,show c + (m : Int) - m + 1 = c + 1 by omega]
    have hnew : ∀ q,c < q → q ≤ c + m → (clmG g2 i c m o kx r).ow q = some i∧(clmG g2 i c m o kx r).val q = o.a + (q - (c + 1))∧(clmG g2 i c m o kx r).who q = (i,kx):=fun q h1 h2=>⟨if_pos ⟨h1,h2⟩,if_pos ⟨h1,h2⟩,if_pos ⟨h1,h2⟩⟩
    refine g_lays (B:=B) (base:=c + 1) (by omega) (rowV o.a m) 0 g2 b2 s2 _ _ hc2 (by rw [rowV_len']; exact hb2) (by rw [rowV_len']; omega) (fun t h=>?_) fun g3 b3 s3 g' s' hc3 hkp ho3 hb3=>?_
    · rw [rowV_len'] at h
      obtain ⟨h1,h2,_⟩:=hnew (c + 1 + ((0 : Nat) : Int) + t) (by omega) (by omega)
      refine ⟨h1,h2.trans ?_⟩
      simp only [rowV,List.getElem_map,List.getElem_range]
      unfold wrap64
      omega
    · have hcur : ({ s2.1 with cursor:=c + m } : MSt).cursor = c + m:=rfl
      have hkle : c + m ≤ s'.1.cursor:=hkp.le
      refine hk (ansT (c + m) 0) g3 b3 s3 g' s' hc3 (hkp.row.trans hrow) (by rw [hkp.rem]; show r ≤ (if i = i then r else _); rw [if_pos rfl]; exact Nat.le_refl _) hb3 ⟨fun _=>⟨⟨?_,?_,fun q h1 h2=>?_⟩,fun k hk3 hok=>?_⟩,fun q h1 h2 h3=>⟨rfl,?_⟩⟩ (fun q hq=>by
        obtain ⟨z1,z2⟩:=ho3 q hq
        rw [rowV_len'] at z2
        by_cases hz : c < q∧q ≤ c + m
        · exact z2 (by omega)
        · have z3 : g2.ow q = some i:=by
            have : (clmG g2 i c m o kx r).ow q = g2.ow q:=if_neg hz
            rw [this] at z1
            exact z1
          exact hno q ((hr2.ow q).1 z3))
      · show P.fs ≤ c + m - o.b + 1; have:=hI2.c0; omega
      · show c + m ≤ s'.1.cursor; exact hkle
      · have h1 : c + m - o.b < q:=h1
        have h2 : q ≤ c + m:=h2
        obtain ⟨v1,v2⟩:=hkp.val q (by show q ≤ c + m; omega)
        obtain ⟨w1,w2,w3⟩:=hnew q (by omega) h2
        refine ⟨v2.trans w3,(v1.trans w2).trans ?_⟩
        show o.a + (q - (c + 1)) = o.a + (q - (c + m - o.b + 1))
        rw [show c + 1 = c + m - o.b + 1 by omega]
      · have e : s'.2 i = s2.2 i:=hkp.row
        simp only [e] at hk3 hok ⊢
        have hlen:=hI2.len i hi
        have:=(hI2.an i hi k hk3 (by omega) hok).2.1
        show _ ≤ c + m - o.b
        omega
      · show c + m - o.b < q∧q ≤ c + m
        by_cases e : q ≤ c
        · exfalso
          have h4 : (clmG g2 i c m o kx r).who q = g2.who q:=if_neg (by omega)
          have h5:=(hkp.val q (by show q ≤ c + m; omega)).2
          rw [h3,h4] at h5
          by_cases e2 : q ≤ s.1.cursor
          · have h6:=(hr2.val q e2).2
            rw [← h5] at h6
            have:=hnp q h1 e2 (by rw [← h6])
            rw [← h6] at this
            have : kx < (s.2 i).length:=this
            omega
          · have:=hr2.new q (by omega) (by omega)
            rw [← h5] at this
            exact this rfl
        · by_cases e2 : q ≤ c + m
          · omega
          · have:=hkp.new q (by show c + m < q; omega) h2
            rw [h3] at this
            exact absurd rfl this
theorem g_thr {B : Nat} (hB : B = (P.top - (P.fs - 1)).toNat * 14 + 27) (hi : i < P.T) (ht : P.top < 2199023255552) : ∀ (rest d : List OpI) (own : List Ans) (g0 : MG) (b0 : Nat → Nat) (s0 : MSS) (g : MG) (s : MSS),P.ops i = d ++ rest → own.length = d.length → MCur P i g0 s0 g s → s.2 i = own → NoPend P i g s → (∀ q,g.ow q ≠ some i) → bsum rest ≤ g.rem i → B * rest.length + 1 ≤ b0 i → RgM P i (thrQ (doM (M0 P.n P.fs) P.k i) i rest own s) g0 b0 s0
  | [],d,own,g0,b0,s0,g,s,ho,hl,hc,hs,hnp,hno,hr,hb=>by
    refine ⟨(g,fun j=>if j = i then b0 i - 1 else b0 j),⟨hc.gu,by show (if i = i then b0 i - 1 else b0 i) < b0 i; rw [if_pos rfl]; simp at hb; omega,fun j hj=>if_neg hj⟩,hc.inv,?_,hnp,hno⟩
    rw [hs,hl,ho]; simp
  | o :: rest,d,own,g0,b0,s0,g,s,ho,hl,hc,hs,hnp,hno,hr,hb=>by
    have hlt : own.length < (P.ops i).length:=by rw [ho,hl]; simp
    have hget : (P.ops i)[own.length] = o:=by simp only [ho,hl]; simp
    have hw:=P.w i hi o (by rw [ho]; simp)
    simp only [bsum] at hr
    simp only [List.length_cons] at hb
    have hmul : B * (rest.length + 1) = B * rest.length + B:=Nat.mul_succ _ _
    refine g_do (B:=B * rest.length + 1) (r:=bsum rest) hi ht (kx:=own.length) (fun g s hI hk0 q h1 h2 h3=>?_) hlt hget hw hc (by rw [hs]) hnp hno (by omega) (by omega) fun a g2 b2 s2 g' s' hc' hrow hr' hb' htold hno'=>?_
    · obtain ⟨_,b2,_⟩:=hI.cov q h1 h2
      rw [h3,hk0] at b2; exact b2
    · have e : s'.2 i = own:=hrow.trans hs
      show RgM P i (if s'.2 i = own then thrQ (doM (M0 P.n P.fs) P.k i) i rest (own ++ [a]) (pushQ i a s') else .cut) g2 b2 s2
      rw [if_pos e]
      have hel : (s'.2 i).length = own.length:=by rw [e]
      have hI':=hc'.inv
      have hlt' : (s'.2 i).length < (P.ops i).length:=by rw [hel]; exact hlt
      have hget' : (P.ops i)[(s'.2 i).length] = o:=by simp only [hel]; exact hget
      have htold : Told P i (s'.2 i).length o a g' s':=by rw [hel]; exact htold
      have hp : MI P g' (pushQ i a s'):=hI'.push hi a hlt' (fun h=>by rw [hget']; exact htold.ok h) (fun q h1 h2 h3=>by rw [hget']; exact htold.cov q h1 h2 h3)
      refine g_thr hB hi ht rest (d ++ [o]) (own ++ [a]) g2 b2 s2 g' (pushQ i a s') (by rw [ho]; simp) (by simp [hl]) ⟨hc'.gu.trans (gu_push a),hp⟩ (show (if i = i then s'.2 i ++ [a] else s'.2 i) = _ by rw [if_pos rfl,e]) (fun q h1 h2 h3=>?_) hno' hr' hb'
      have hr2 : (pushQ i a s').2 i = s'.2 i ++ [a]:=if_pos rfl
      rw [hr2,List.length_append,List.length_singleton]
      obtain ⟨_,b2,_⟩:=hI'.cov q h1 h2
      rw [h3] at b2
      omega
end
theorem sumB_le {f : Nat → Nat} {c : Nat} : ∀ n,(∀ i,i < n → f i ≤ c) → sumB f n ≤ n * c
  | 0,_=>by simp [sumB]
  | n + 1,h=>by
    have:=sumB_le n fun i hi=>h i (by omega)
    have:=h n (by omega)
    simp only [sumB,Nat.succ_mul]
    omega
theorem bsum_le : ∀ (l : List OpI),(∀ o ∈ l,o.b ≤ 4) → bsum l ≤ 4 * l.length
  | [],_=>by simp [bsum]
  | o :: l,h=>by
    have:=bsum_le l fun o ho=>h o (by simp [ho])
    have:=h o (by simp)
    simp only [bsum,List.length_cons]
    omega
section
variable (P : MPar)
def MPar.S0 : MSt:=⟨P.fs - 1,P.fs - 1,P.num,fun _=>-2,fun _=>0,fun _=>0,fun _=>0⟩
def MPar.G0 : MG:=⟨fun _=>none,fun _=>0,fun _=>(0,0),fun i=>bsum (P.ops i)⟩
theorem m_zero : MI P P.G0 (P.S0,fun _=>[]) where
  c0:=Int.le_refl _
  c1:=Int.le_refl _
  nm:=fun _ _=>rfl
  sn:=fun j hj=>P.hnum j hj
  he:=fun j hj=>by have:=P.hnum j hj; show P.fs - 1 ≤ P.num j + P.n; omega
  own:=fun q i h=>by cases h
  wr:=fun q h1 h2=>by have h2 : q ≤ P.fs - 1:=h2; omega
  ni:=fun q h1 h2=>by
    have h1 : P.fs - 1 < q:=h1
    have:=P.f0
    have:=lp_nonneg P (q:=q) (by omega)
    show (-2 : Int) < _
    omega
  len:=fun l hl=>Nat.zero_le _
  an:=fun l hl kx h=>by simp at h
  cov:=fun q h1 h2=>by have h2 : q ≤ P.fs - 1:=h2; omega
  ris:=fun l hl a b h=>by simp at h
  ot:=fun q i h=>by cases h
theorem MPar.bs (i : Nat) (hi : i < P.T) : bsum (P.ops i) ≤ 48:=by
  have:=bsum_le (P.ops i) fun o ho=>(P.w i hi o ho).2.2.1
  have:=P.len i hi
  omega
theorem MPar.top_le : P.top ≤ P.fs - 1 + 288:=by
  have:=sumB_le (f:=fun i=>bsum (P.ops i)) (c:=48) P.T fun i hi=>P.bs i hi
  have:=P.T6
  unfold MPar.top
  omega
def MPar.B : Nat:=(P.top - (P.fs - 1)).toNat * 14 + 27
theorem m_births (i : Nat) (hi : i < P.T) (g : MG × (Nat → Nat)) (s : MSS) (hr : ((mP P i).paid i).re (P.G0,fun i=>P.B * (P.ops i).length + 1) (P.S0,fun _=>[]) g s) (hI : MIp P g s) : (brQ (doM (M0 P.n P.fs) P.k) P.ops i s).Rg (MIp P) ((mP P i).paid i) g s:=by
  obtain ⟨g,b⟩:=g
  obtain ⟨hr,hb⟩:=hr
  have hr : ReM P i P.G0 (P.S0,fun _=>[]) g s:=hr
  have hb : b i = P.B * (P.ops i).length + 1:=hb
  have e : s.2 i = []:=hr.row
  have htop:=P.top_le
  have hf1:=P.f1
  unfold brQ
  rw [if_pos e]
  refine g_thr rfl hi (by omega) (P.ops i) [] [] g b s g s rfl rfl (.refl hI) e (fun q h1 h2 h3=>?_) (fun q hq=>by have:=(hr.ow q).1 hq; cases this) (by rw [hr.rem]; exact Nat.le_refl _) (by rw [hb]; exact Nat.le_refl _)
  exact absurd h3 (hr.new q (by show P.fs - 1 < q; omega) h2)
theorem multi_runs (sched : List Int) : (playRun (brQ (doM (M0 P.n P.fs) P.k) P.ops) P.T 1048576 sched (P.S0,fun _=>[])).m.left P.T = 0 ∧
    ∃ g,MI P g (playRun (brQ (doM (M0 P.n P.fs) P.k) P.ops) P.T 1048576 sched (P.S0,fun _=>[])).m.s∧∀ i,i < P.T → (mP P i).po g (playRun (brQ (doM (M0 P.n P.fs) P.k) P.ops) P.T 1048576 sched (P.S0,fun _=>[])).m.s:=by
  obtain ⟨h1,g,h2,h3⟩:=rg_ends (birth:=brQ (doM (M0 P.n P.fs) P.k) P.ops) (m_rgsp P) (m_paid P) (s0:=(P.S0,fun _=>[])) (g0:=(P.G0,fun i=>P.B * (P.ops i).length + 1)) (m_zero P) (m_births P) 1048576 (by
    have htop:=P.top_le
    have hB : P.B ≤ 4059:=by unfold MPar.B; omega
    have:=sumB_le (f:=fun i=>P.B * (P.ops i).length + 1) (c:=48709) P.T fun i hi=>by
      have h:=Nat.mul_le_mul hB (P.len i hi)
      show P.B * (P.ops i).length + 1 ≤ 48709
      omega
    have:=P.T6
    show sumB (fun i=>P.B * (P.ops i).length + 1) P.T < 1048576
    omega) sched
  exact ⟨h1,g.1,h2,h3⟩
end
structure Rn where
  lg : Int
  f0 : Int
  dA : Option Addr
  ds : List Int
  dc : Nat
  lA : Option Addr
  ln : Nat
  lc : Nat
  A : Nat → Option Addr
  rows : Nat → List Int
  cap : Nat → Nat
  sA : Option Addr
  xs : List Int
  sc : Nat
structure Rn.At (s : Rn) (W w : World) : Prop where
  lg : 0 ≤ s.lg∧s.lg < 256
  f0 : -9223372036854775808 ≤ s.f0∧s.f0 < 9223372036854775808
  ds : BytesAt W w s.dA s.dc s.ds
  rle : s.ln ≤ s.lc
  rmx : s.lc ≤ maxLen
  rnil : s.lA = none → s.lc = 0
  row : ∀ i,i < s.ln → (∃ b o,s.lA = some ⟨b,o,none⟩∧b < W.heap.size∧w.cell? ⟨b,o + i,none⟩ = some (.slice (s.A i) (s.rows i).length (s.cap i)))∧BytesAt W w (s.A i) (s.cap i) (s.rows i)
  sle : s.xs.length ≤ s.sc
  smx : s.sc ≤ maxLen
  snil : s.sA = none → s.sc = 0
  sch : ∀ i,i < s.xs.length → ∃ b o,s.sA = some ⟨b,o,none⟩∧b < W.heap.size∧w.cell? ⟨b,o + i,none⟩ = some (.int .i64 (s.xs.getD i 0))
theorem Rn.At.keep {s : Rn} {W w w' : World} (h : s.At W w) (hk : ∀ b o v,b < W.heap.size → w.cell? ⟨b,o,none⟩ = some v → w'.cell? ⟨b,o,none⟩ = some v) : s.At W w':=
  ⟨h.lg,h.f0,h.ds.keep hk,h.rle,h.rmx,h.rnil,fun i hi=>⟨by obtain ⟨b,o,h1,h2,h3⟩:=(h.row i hi).1; exact ⟨b,o,h1,h2,hk _ _ _ h2 h3⟩,(h.row i hi).2.keep hk⟩,h.sle,h.smx,h.snil,fun i hi=>by obtain ⟨b,o,h1,h2,h3⟩:=h.sch i hi; exact ⟨b,o,h1,h2,hk _ _ _ h2 h3⟩⟩
theorem Rn.At.schi {s : Rn} {W w : World} (h : s.At W w) (Z : Nat → Prop) : SchI W (.slice s.sA s.xs.length s.sc) s.xs Z w:=
  ⟨⟨s.sA,s.sc,rfl,fun i hi=>by
    obtain ⟨b,o,h1,h2,h3⟩:=h.sch i hi
    unfold World.cell? at h3
    cases ho : w.heap[b]? with
    | none=>simp [ho] at h3
    | some x =>
      cases x with
      | cells cs t r =>
        refine ⟨b,o,cs,t,r,h1,ho,.inl h2,?_⟩
        simpa [ho] using h3
      | _=>simp [ho] at h3⟩,Nat.le_trans h.sle h.smx⟩
def Rn.n (s : Rn) : Nat:=2 ^ (s.lg % 5).toNat
def Rn.fs (s : Rn) : Int:=min (max s.f0 0) 1099511627776
def bgn (fs : Int) (l : List Int) : List Int:=l.map fun x=>fs - 1 + x % 30
def Rn.start (s : Rn) : List Int:=[(s.n : Int),s.fs] ++ bgn s.fs (s.ds.take 6)
def mOps (v : Int) : List Int → List OpI
  | []=>[]
  | x :: l=>⟨3,v,x % 4 + 1,0⟩ :: mOps (v + (x % 4 + 1)) l
def mSum : List Int → Int
  | []=>0
  | x :: l=>x % 4 + 1 + mSum l
theorem mOps_snoc : ∀ (l : List Int) (v x : Int),mOps v (l ++ [x]) = mOps v l ++ [⟨3,v + mSum l,x % 4 + 1,0⟩]
  | [],v,x=>by simp [mOps,mSum]
  | y :: l,v,x=>by
    show _ :: mOps _ (l ++ [x]) = _ :: (mOps _ l ++ _)
    rw [mOps_snoc l,mSum,Int.add_assoc]
theorem mSum_snoc : ∀ (l : List Int) (x : Int),mSum (l ++ [x]) = mSum l + (x % 4 + 1)
  | [],x=>by simp [mSum]
  | y :: l,x=>by
    show y % 4 + 1 + mSum (l ++ [x]) = y % 4 + 1 + mSum l + _
    rw [mSum_snoc l]; omega
theorem mSum_le : ∀ (l : List Int),0 ≤ mSum l∧mSum l ≤ 4 * l.length
  | []=>by simp [mSum]
  | y :: l=>by have:=mSum_le l; simp only [mSum,List.length_cons]; omega
theorem mOps_len : ∀ (l : List Int) (v : Int),(mOps v l).length = l.length
  | [],_=>rfl
  | x :: l,v=>by simp [mOps,mOps_len l]
theorem mOps_ok : ∀ (l : List Int) (v : Int),0 ≤ v → ∀ o ∈ mOps v l,o.kind = 3∧1 ≤ o.b∧o.b ≤ 4∧0 ≤ o.a∧o.a ≤ v + 4 * l.length
  | [],_,_,o,h=>by simp [mOps] at h
  | x :: l,v,hv,o,h=>by
    simp only [mOps,List.mem_cons] at h
    rcases h with rfl | h
    · refine ⟨rfl,?_,?_,hv,?_⟩ <;> simp only [List.length_cons] <;> omega
    · obtain ⟨h1,h2,h3,h4,h5⟩:=mOps_ok l (v + (x % 4 + 1)) (by omega) o h
      refine ⟨h1,h2,h3,h4,?_⟩
      simp only [List.length_cons]; omega
def Rn.T (s : Rn) : Nat:=min s.ln 6
def Rn.ops (s : Rn) (i : Nat) : List OpI:=if i < s.T then mOps (1000 * i) ((s.rows i).take 12) else []
theorem Rn.n_le (s : Rn) (h : 0 ≤ s.lg) : 0 < s.n∧s.n ≤ 16∧(s.n = 1 ∨ s.n = 2 ∨ s.n = 4 ∨ s.n = 8 ∨ s.n = 16):=by
  unfold Rn.n
  have : (s.lg % 5).toNat = 0 ∨ (s.lg % 5).toNat = 1 ∨ (s.lg % 5).toNat = 2 ∨ (s.lg % 5).toNat = 3 ∨ (s.lg % 5).toNat = 4:=by omega
  rcases this with e | e | e | e | e <;> rw [e] <;> decide
theorem Rn.bits (s : Rn) (h : 0 ≤ s.lg) : (bits BinOp.and IntKind.i64 (s.n : Int) ((s.n : Int) - 1) != 0) = false:=by
  rcases (s.n_le h).2.2 with e | e | e | e | e <;> rw [e] <;> decide
theorem Rn.fs_le (s : Rn) : 0 ≤ s.fs∧s.fs ≤ 1099511627776:=by unfold Rn.fs; omega
theorem Rn.start_len (s : Rn) : s.start.length = 2 + min s.ds.length 6:=by simp [Rn.start,bgn]; omega
theorem Rn.ops_len (s : Rn) (i : Nat) : (s.ops i).length ≤ 12:=by
  unfold Rn.ops
  split
  · rw [mOps_len]; simp; omega
  · simp
theorem Rn.ops_ok (s : Rn) (i : Nat) (hi : i < s.T) : ∀ o ∈ s.ops i,o.kind = 3∧1 ≤ o.b∧o.b ≤ 4∧0 ≤ o.a∧o.a ≤ 100000:=fun o ho=>by
  have hT : s.T ≤ 6:=by unfold Rn.T; omega
  unfold Rn.ops at ho
  rw [if_pos hi] at ho
  obtain ⟨h1,h2,h3,h4,h5⟩:=mOps_ok _ _ (by omega) o ho
  have hl : ((s.rows i).take 12).length ≤ 12:=by simp; omega
  exact ⟨h1,h2,h3,h4,by omega⟩
theorem Rn.start_get (s : Rn) (j : Nat) (hj : j < min s.ds.length 6) : s.start.getD (2 + j) 0 = s.fs - 1 + s.ds.getD j 0 % 30:=by
  unfold Rn.start bgn
  rw [List.getD_eq_getElem?_getD,List.getElem?_append_right (by simp),List.getElem?_map]
  simp only [List.length_cons,List.length_nil]
  rw [show 2 + j - (0 + 1 + 1) = j by omega,List.getElem?_take,if_pos (by omega),List.getD_eq_getElem?_getD]
  rw [List.getElem?_eq_getElem (by omega)]
  rfl
def Rn.par (s : Rn) (h : 0 ≤ s.lg) : MPar where
  n:=s.n
  fs:=s.fs
  k:=min s.ds.length 6
  num:=fun j=>s.start.getD (2 + j) 0
  T:=s.T
  ops:=s.ops
  n0:=(s.n_le h).1
  n2:=by have:=(s.n_le h).2.1; omega
  f0:=s.fs_le.1
  f1:=s.fs_le.2
  k6:=by omega
  hnum:=fun j hj=>by rw [s.start_get j hj]; omega
  T6:=by unfold Rn.T; omega
  w:=s.ops_ok
  len:=fun i _=>s.ops_len i
theorem bsum_take (l : List OpI) : ∀ k (h : k < l.length),bsum (l.take (k + 1)) = bsum (l.take k) + l[k].b.toNat:=by
  induction l with
  | nil=>intro k h; simp at h
  | cons o l ih =>
    intro k h
    cases k with
    | zero=>simp [bsum]
    | succ k =>
      have:=ih k (by simpa using h)
      simp only [List.take_succ_cons,bsum,List.getElem_cons_succ]
      omega
def askB (ops : Nat → List OpI) (i k : Nat) : Nat:=sumB (fun i=>bsum (ops i)) i + bsum ((ops i).take k)
theorem askB_zero (ops : Nat → List OpI) (i : Nat) : askB ops i 0 = sumB (fun i=>bsum (ops i)) i:=by simp [askB,bsum]
theorem askB_end (ops : Nat → List OpI) (i : Nat) : askB ops i (ops i).length = sumB (fun i=>bsum (ops i)) (i + 1):=by simp [askB,sumB]
theorem bsum_take_le (l : List OpI) (k : Nat) : bsum (l.take k) ≤ bsum l:=by
  induction l generalizing k with
  | nil=>simp [bsum]
  | cons o l ih =>
    cases k with
    | zero=>simp [bsum]
    | succ k=>have:=ih k; simp only [List.take_succ_cons,bsum]; omega
theorem askB_le {ops : Nat → List OpI} {T i : Nat} (hi : i < T) (hT : T ≤ 6) (hb : ∀ i,i < T → bsum (ops i) ≤ 48) (k : Nat) : askB ops i k ≤ 288:=by
  have h1:=sumB_le (f:=fun i=>bsum (ops i)) (c:=48) i fun j hj=>hb j (by omega)
  have h2:=bsum_take_le (ops i) k
  have h3:=hb i hi
  unfold askB
  omega
set_option maxHeartbeats 4000000 in
set_option maxRecDepth 100000 in
theorem asked_ok (w : World) (A : Option Addr) (tc T : Nat) (ops : Nat → List OpI) (hT : ThreadsAt w A T ops) (hT6 : T ≤ 6) (hb0 : ∀ i,i < T → ∀ k (h : k < (ops i).length),0 ≤ (ops i)[k].b) (hb : ∀ i,i < T → bsum (ops i) ≤ 48) :
    Calls Try.prog 46 #[.slice A T tc] w fun e w'=>e = .returned (.int .i64 (sumB (fun i=>bsum (ops i)) T : Nat))∧Kept (fun _=>False) w w':=by
  have HT:=Lib.hid hT
  have HB:=Lib.hid hb
  have HB0:=Lib.hid hb0
  clear hT hb hb0
  go_enter Try.func46,Try.ntmps46
  go_wp2_with fail
  go_loopw [3,4] (fun n i wr=>∃ j : Nat,j ≤ T∧n = .int .i64 (sumB (fun i=>bsum (ops i)) j : Nat)∧i = .int .i64 j∧wr = w) (fun _ i _=>T - (intOf i).toNat)
  case atStart=>exact ⟨0,by omega,rfl,rfl,rfl⟩
  case round =>
    obtain ⟨j,hj,rfl,rfl,rfl⟩:=hrel
    by_cases hlt : j < T
    · obtain ⟨tb,to,rfl,hTT⟩:=HT.out.fix (by omega)
      obtain ⟨rA,rc,h1,h2,h3⟩:=hTT j hlt
      clear hTT
      have HC:=Lib.hid h3
      clear h3
      obtain ⟨L,hL⟩ : ∃ L,L = (ops j).length:=⟨_,rfl⟩
      rw [← hL] at h1 h2
      have HL:=Lib.hid hL
      clear hL
      have b0 : (0 : Int) ≤ j:=by omega
      have b1 : (j : Int) < T:=by omega
      unfold maxLen at h2
      rw [← askB_zero]
      go_wp2
      go_loopw [3,5] (fun n i wx=>∃ k : Nat,k ≤ L∧n = .int .i64 (askB ops j k : Nat)∧i = .int .i64 k∧wx = wr) (fun _ i _=>L - (intOf i).toNat)
      case atStart=>exact ⟨0,by omega,rfl,rfl,rfl⟩
      case round =>
        obtain ⟨k,hk,rfl,rfl,rfl⟩:=hrel
        by_cases hlk : k < L
        · obtain ⟨b2,o2,rfl,q0,q1,q2,q3⟩:=HC.out k (by rw [← HL.out]; exact hlk)
          have hbk:=HB0.out j hlt k (by rw [← HL.out]; exact hlk)
          have hs : Hid ((askB ops j (k + 1) : Int) = askB ops j k + ((ops j)[k]'(by rw [← HL.out]; exact hlk)).b):=Lib.hid (by
            have:=bsum_take (ops j) k (by rw [← HL.out]; exact hlk)
            unfold askB
            omega)
          have hle:=askB_le hlt hT6 HB.out (k + 1)
          have hbb : Hid (0 ≤ ((ops j)[k]'(by rw [← HL.out]; exact hlk)).b∧((ops j)[k]'(by rw [← HL.out]; exact hlk)).b ≤ 288):=Lib.hid ⟨hbk,by have:=hs.out; omega⟩
          clear hbk
          generalize ((ops j)[k]'(by rw [← HL.out]; exact hlk)) = op at q0 q1 q2 q3 hs hbb
          obtain ⟨kd,oa,ob,oc⟩:=op
          simp only at q0 q1 q2 q3 hs hbb
          have c0 : (0 : Int) ≤ k:=by omega
          have c1 : (k : Int) < L:=by omega
          obtain ⟨hb1,hb2⟩:=hbb.out
          have hle0 : askB ops j k ≤ 288:=by have:=hs.out; omega
          clear hbb
          go_wp2
          go_roundw
          case rel=>exact ⟨k + 1,by omega,by rw [hs.out],by go_num,by trivial⟩
          case measure=>simp [intOf]; omega
        · obtain rfl : k = L:=by omega
          go_wp2
          go_roundw
          case rel=>exact ⟨j + 1,by omega,by rw [HL.out,askB_end],by go_num,by trivial⟩
          case measure=>simp [intOf]; omega
    · obtain rfl : j = T:=by omega
      go_wp2
      refine bodyPost_ret (v:=.int .i64 (sumB (fun i=>bsum (ops i)) j : Nat)) (by simp [results,Try.f46,go_sem]) rfl ?_
      exact ⟨rfl,Kept.refl _ _⟩
structure LaidOk (fs : Int) (T N : Nat) (ops : Nat → List OpI) (ans : Nat → List Ans) (who : Nat → Nat × Nat) (val : Nat → Int) : Prop where
  len : ∀ i,i < T → (ans i).length = (ops i).length
  bd : ∀ i,i < T → ∀ k (h : k < (ops i).length),1 ≤ (ops i)[k].b∧(ops i)[k].b ≤ 4∧0 ≤ (ops i)[k].a∧(ops i)[k].a ≤ 100000
  ok : ∀ i,i < T → ∀ k (h : k < (ans i).length) (h2 : k < (ops i).length),((ans i)[k]).ok = true → fs ≤ ((ans i)[k]).n - ((ops i)[k]).b + 1∧((ans i)[k]).n - fs < N∧∀ e : Nat,((ans i)[k]).n - ((ops i)[k]).b < fs + e → fs + e ≤ ((ans i)[k]).n → who e = (i,k)∧val e = ((ops i)[k]).a + (fs + e - (((ans i)[k]).n - ((ops i)[k]).b + 1))
  cov : ∀ e,e < N → (who e).1 < T∧∃ (h : (who e).2 < (ans (who e).1).length) (h2 : (who e).2 < (ops (who e).1).length),((ans (who e).1)[(who e).2]).ok = true∧((ans (who e).1)[(who e).2]).n - ((ops (who e).1)[(who e).2]).b < fs + e∧fs + e ≤ ((ans (who e).1)[(who e).2]).n
  ris : ∀ i,i < T → ∀ a b (ha : a < (ans i).length) (hb : b < (ans i).length) (hb2 : b < (ops i).length),a < b → ((ans i)[a]).ok = true → ((ans i)[b]).ok = true → ((ans i)[a]).n ≤ ((ans i)[b]).n - ((ops i)[b]).b
def dn (who : Nat → Nat × Nat) (i k t e : Nat) : Bool:=decide ((who e).1 < i ∨ (who e).1 = i∧((who e).2 < k ∨ (who e).2 = k∧e < t))
section
variable {fs : Int} {T N : Nat} {ops : Nat → List OpI} {ans : Nat → List Ans} {who : Nat → Nat × Nat} {val : Nat → Int}
theorem dn_zero (e : Nat) : dn who 0 0 0 e = false:=by unfold dn; exact decide_eq_false (by omega)
theorem LaidOk.end_ (H : LaidOk fs T N ops ans who val) (e : Nat) (h : e < N) : dn who T 0 0 e = true:=by unfold dn; exact decide_eq_true (.inl (H.cov e h).1)
theorem LaidOk.thread (H : LaidOk fs T N ops ans who val) {i : Nat} (e : Nat) (h : e < N) : dn who i (ans i).length 0 e = dn who (i + 1) 0 0 e:=by
  unfold dn
  obtain ⟨_,h2,_⟩:=H.cov e h
  refine decide_eq_decide.2 ⟨fun z=>?_,fun z=>?_⟩
  · omega
  · by_cases hi : (who e).1 = i
    · rw [hi] at h2
      exact .inr ⟨hi,.inl h2⟩
    · omega
theorem LaidOk.no (H : LaidOk fs T N ops ans who val) {i k : Nat} (hk : k < (ans i).length) (hn : ((ans i)[k]).ok = false) (e : Nat) (h : e < N) : dn who i k 0 e = dn who i (k + 1) 0 e:=by
  unfold dn
  obtain ⟨_,h2,_,h3,_⟩:=H.cov e h
  have hne : who e ≠ (i,k):=fun z=>by
    simp only [z] at h3
    rw [hn] at h3; cases h3
  have hne2 : ¬ ((who e).1 = i∧(who e).2 = k):=fun z=>hne (Prod.ext z.1 z.2)
  exact decide_eq_decide.2 (by omega)
theorem LaidOk.first (H : LaidOk fs T N ops ans who val) {i k t : Nat} (hk : k < (ans i).length) (hk2 : k < (ops i).length) (ht : fs + t = ((ans i)[k]).n - ((ops i)[k]).b + 1) (e : Nat) (h : e < N) : dn who i k 0 e = dn who i k t e:=by
  unfold dn
  obtain ⟨_,h2,_,h3,h4,h5⟩:=H.cov e h
  refine decide_eq_decide.2 ⟨fun z=>by omega,fun z=>?_⟩
  by_cases hw : who e = (i,k)
  · simp only [hw] at h4 h5
    rw [hw] at z
    have z : i < i ∨ i = i∧(k < k ∨ k = k∧e < t):=z
    omega
  · have : ¬ ((who e).1 = i∧(who e).2 = k):=fun z=>hw (Prod.ext z.1 z.2)
    omega
theorem LaidOk.last (H : LaidOk fs T N ops ans who val) {i k t : Nat} (hk : k < (ans i).length) (hk2 : k < (ops i).length) (ht : fs + t = ((ans i)[k]).n + 1) (e : Nat) (h : e < N) : dn who i k t e = dn who i (k + 1) 0 e:=by
  unfold dn
  obtain ⟨_,h2,_,h3,h4,h5⟩:=H.cov e h
  refine decide_eq_decide.2 ⟨fun z=>by omega,fun z=>?_⟩
  by_cases hw : who e = (i,k)
  · simp only [hw] at h4 h5
    have : (who e).1 = i:=congrArg Prod.fst hw
    have : (who e).2 = k:=congrArg Prod.snd hw
    omega
  · have : ¬ ((who e).1 = i∧(who e).2 = k):=fun z=>hw (Prod.ext z.1 z.2)
    omega
theorem dn_at {i k t : Nat} (hw : who t = (i,k)) : dn who i k t t = false:=by
  unfold dn
  rw [hw]
  exact decide_eq_false (by omega)
theorem dn_step {i k t : Nat} (hw : who t = (i,k)) (e : Nat) : dn who i k (t + 1) e = (decide (e = t) || dn who i k t e):=by
  unfold dn
  rw [← Bool.decide_or]
  refine decide_eq_decide.2 ?_
  by_cases he : e = t
  · subst he
    have : (who e).1 = i:=congrArg Prod.fst hw
    have : (who e).2 = k:=congrArg Prod.snd hw
    omega
  · omega
def tlD (N : Nat) (d : Nat → Bool) : List Bool:=(List.range N).map d
def vlD (N : Nat) (val : Nat → Int) (d : Nat → Bool) : List Int:=(List.range N).map fun e=>if d e then val e else 0
def gtD (N : Nat) (d : Nat → Bool) : Nat:=((List.range N).filter d).length
theorem tlD_congr {d d' : Nat → Bool} (h : ∀ e,e < N → d e = d' e) : tlD N d = tlD N d':=List.map_congr_left fun e he=>h e (List.mem_range.1 he)
theorem vlD_congr {d d' : Nat → Bool} (h : ∀ e,e < N → d e = d' e) : vlD N val d = vlD N val d':=List.map_congr_left fun e he=>by rw [h e (List.mem_range.1 he)]
theorem gtD_congr {d d' : Nat → Bool} (h : ∀ e,e < N → d e = d' e) : gtD N d = gtD N d':=by
  unfold gtD
  rw [List.filter_congr fun e he=>h e (List.mem_range.1 he)]
theorem vlD_len (d : Nat → Bool) : (vlD N val d).length = N:=by simp [vlD]
theorem gtD_le (d : Nat → Bool) : gtD N d ≤ N:=by
  unfold gtD
  have:=List.length_filter_le d (List.range N)
  rwa [List.length_range] at this
theorem tlD_set {d : Nat → Bool} {t : Nat} : tlD N (fun e=>decide (e = t) || d e) = (tlD N d).set t true:=by
  apply List.ext_getElem (by simp [tlD])
  intro j h1 h2
  simp only [tlD,List.getElem_map,List.getElem_range,List.getElem_set]
  by_cases e : t = j
  · subst e; simp
  · rw [if_neg e,decide_eq_false (by omega),Bool.false_or]
theorem vlD_set {d : Nat → Bool} {t : Nat} : vlD N val (fun e=>decide (e = t) || d e) = (vlD N val d).set t (val t):=by
  apply List.ext_getElem (by simp [vlD])
  intro j h1 h2
  simp only [vlD,List.getElem_map,List.getElem_range,List.getElem_set]
  by_cases e : t = j
  · subst e; simp
  · rw [if_neg e,decide_eq_false (by omega),Bool.false_or]
theorem gtD_set {d : Nat → Bool} {t : Nat} (hd : d t = false) : ∀ (N : Nat),gtD N (fun e=>decide (e = t) || d e) = gtD N d + if t < N then 1 else 0
  | 0=>by simp [gtD]
  | N + 1=>by
    have ih:=gtD_set (d:=d) hd N
    unfold gtD at ih ⊢
    rw [List.range_succ,List.filter_append,List.filter_append,List.length_append,List.length_append,ih]
    by_cases e : t = N
    · subst e
      simp [hd]
    · by_cases h : t < N
      · rw [if_pos h,if_pos (by omega)]
        simp only [List.filter_cons,List.filter_nil,decide_eq_false (show ¬ N = t by omega),Bool.false_or]
        omega
      · rw [if_neg h,if_neg (by omega)]
        simp only [List.filter_cons,List.filter_nil,decide_eq_false (show ¬ N = t by omega),Bool.false_or]
        omega
theorem tlD_zero : tlD N (dn who 0 0 0) = List.replicate N false:=by
  rw [tlD_congr (d':=fun _=>false) fun e _=>dn_zero e]
  unfold tlD
  rw [List.map_const',List.length_range]
theorem vlD_zero : vlD N val (dn who 0 0 0) = List.replicate N 0:=by
  rw [vlD_congr (d':=fun _=>false) fun e _=>dn_zero e]
  show (List.range N).map (fun _=>(0 : Int)) = _
  rw [List.map_const',List.length_range]
theorem gtD_zero : gtD N (dn who 0 0 0) = 0:=by
  rw [gtD_congr (d':=fun _=>false) fun e _=>dn_zero e]
  simp [gtD]
theorem LaidOk.vl_end (H : LaidOk fs T N ops ans who val) : vlD N val (dn who T 0 0) = (List.range N).map val:=by
  rw [vlD_congr (d':=fun _=>true) fun e he=>H.end_ e he]
  simp [vlD]
theorem LaidOk.gt_end (H : LaidOk fs T N ops ans who val) : gtD N (dn who T 0 0) = N:=by
  rw [gtD_congr (d':=fun _=>true) fun e he=>H.end_ e he]
  unfold gtD
  rw [List.filter_eq_self.2 fun _ _=>rfl]
  simp
end
theorem laidOk_of (P : MPar) {g : MG} {s : MSS} (h : MI P g s) (hp : ∀ i,i < P.T → (s.2 i).length = (P.ops i).length∧NoPend P i g s∧∀ q,g.ow q ≠ some i) :
    LaidOk P.fs P.T (s.1.cursor - P.fs + 1).toNat P.ops s.2 (fun e=>g.who (P.fs + e)) (fun e=>g.val (P.fs + e)) where
  len:=fun i hi=>(hp i hi).1
  bd:=fun i hi k hk=>(P.w i hi _ (List.getElem_mem hk)).2
  ok:=fun i hi k h1 h2 hok=>by
    obtain ⟨a1,a2,a3⟩:=h.an i hi k h1 h2 hok
    have:=h.c0
    exact ⟨a1,by omega,fun e b1 b2=>a3 _ b1 b2⟩
  cov:=fun e he=>by
    obtain ⟨a1,a2,a3⟩:=h.cov (P.fs + e) (by omega) (by omega)
    have a4 : (g.who (P.fs + e)).2 < (s.2 (g.who (P.fs + e)).1).length:=(hp _ a1).2.1 (P.fs + e) (by omega) (by omega) rfl
    have a5 : (g.who (P.fs + e)).2 < (P.ops (g.who (P.fs + e)).1).length:=by rw [← (hp _ a1).1]; exact a4
    exact ⟨a1,a4,a5,a3 a4 a5⟩
  ris:=h.ris
theorem free_of (P : MPar) {g : MG} {s : MSS} (h : MI P g s) (hp : ∀ i,i < P.T → (s.2 i).length = (P.ops i).length∧NoPend P i g s∧∀ q,g.ow q ≠ some i) (q : Int) : g.ow q = none:=by
  cases e : g.ow q with
  | none=>rfl
  | some i=>exact absurd e ((hp i (h.ot q i e)).2.2 q)
theorem Try.infoB : (Try.prog.info? 4).map (fun i=>(i.zero,i.size,i.bytes)) = some (some (.bool false),1,1):=by kernel_rfl
theorem Try.infoI : (Try.prog.info? 2).map (fun i=>(i.zero,i.size,i.bytes)) = some (some (.int .i64 0),1,8):=by kernel_rfl
theorem made_one (v : Value) (n : Nat) (h : v.cells = #[v]) : madeCells v.cells (n * 1) = Array.replicate n v:=by
  rw [h]
  apply Array.ext (by simp [madeCells])
  intro i h1 h2
  simp [madeCells,Nat.mod_one]
theorem make_ints (w : World) (n : Nat) (hn : n ≤ 4096) : (Instr.makeSlice 22 (.int .i64 n) (.int .i64 n)).run Try.prog w = .ok (.slice (some ⟨w.heap.size,0,none⟩) n n) (w.alloc (.cells (Array.replicate n (.int .i64 0)) 2)):=by
  obtain ⟨i,hi,h0,h1,h2⟩:=info_parts Try.infoI
  have:=run_make w 22 2 i _ Try.underlying22 hi h0 .i64 .i64 n n (by omega) (by omega) (by rw [h2]; omega) (by omega)
  rw [h1] at this
  rw [this,Int.toNat_natCast,made_one _ _ rfl]
theorem make_bools (w : World) (n : Nat) (hn : n ≤ 4096) : (Instr.makeSlice 103 (.int .i64 n) (.int .i64 n)).run Try.prog w = .ok (.slice (some ⟨w.heap.size,0,none⟩) n n) (w.alloc (.cells (Array.replicate n (.bool false)) 4)):=by
  obtain ⟨i,hi,h0,h1,h2⟩:=info_parts Try.infoB
  have:=run_make w 103 4 i _ Try.underlying103 hi h0 .i64 .i64 n n (by omega) (by omega) (by rw [h2]; omega) (by omega)
  rw [h1] at this
  rw [this,Int.toNat_natCast,made_one _ _ rfl]
structure LdAt (w0 w : World) (vb hb N : Nat) (val : Nat → Int) (d : Nat → Bool) : Prop where
  v : Blk w vb 2 ((vlD N val d).map (Value.int .i64)).toArray
  h : Blk w hb 4 ((tlD N d).map Value.bool).toArray
  k : Kept (fun b=>b = vb ∨ b = hb) w0 w
theorem LdAt.kept {w0 w w' : World} {vb hb N : Nat} {val : Nat → Int} {d : Nat → Bool} (H : LdAt w0 w vb hb N val d) (k : Kept (fun _=>False) w w') : LdAt w0 w' vb hb N val d:=
  ⟨H.v.kept k id,H.h.kept k id,H.k.trans (k.mono fun _ _ h=>h.elim)⟩
theorem LdAt.congr {w0 w : World} {vb hb N : Nat} {val : Nat → Int} {d d' : Nat → Bool} (H : LdAt w0 w vb hb N val d) (e : ∀ x,x < N → d x = d' x) : LdAt w0 w vb hb N val d':=
  ⟨by rw [← vlD_congr e]; exact H.v,by rw [← tlD_congr e]; exact H.h,H.k⟩
theorem LdAt.set {w0 w : World} {vb hb N t : Nat} {val : Nat → Int} {d d' : Nat → Bool} (H : LdAt w0 w vb hb N val d) (hne : vb ≠ hb) (e : ∀ x,d' x = (decide (x = t) || d x)) : LdAt w0 ((w.setCell ⟨hb,t,none⟩ (.bool true)).setCell ⟨vb,t,none⟩ (.int .i64 (val t))) vb hb N val d':=by
  have e : d' = fun x=>decide (x = t) || d x:=funext e
  refine ⟨?_,?_,H.k.trans ((Kept.setCell (S:=fun b=>b = vb ∨ b = hb) w (p:=⟨hb,t,none⟩) (.inr rfl) _).trans (Kept.setCell (S:=fun b=>b = vb ∨ b = hb) _ (p:=⟨vb,t,none⟩) (.inl rfl) _))⟩
  · have h1:=(H.v.far (p:=⟨hb,t,none⟩) hne (.bool true)).set_ t (.int .i64 (val t))
    rw [e,vlD_set,List.map_set]
    rw [List.setIfInBounds_toArray] at h1
    exact h1
  · have h1:=(H.h.set_ t (.bool true)).far (p:=⟨vb,t,none⟩) hne.symm (.int .i64 (val t))
    rw [e,tlD_set,List.map_set]
    rw [List.setIfInBounds_toArray] at h1
    exact h1
theorem LdAt.there {w0 w : World} {vb hb N t : Nat} {val : Nat → Int} {d : Nat → Bool} (H : LdAt w0 w vb hb N val d) (ht : t < N) : w.cell? ⟨hb,t,none⟩ = some (.bool (d t)):=by
  rw [H.h.cell t,List.getElem?_toArray,List.getElem?_map,tlD,List.getElem?_map,List.getElem?_range ht]
  rfl
theorem ld_cells {w : World} {A Aa : Option Addr} {T ca : Nat} {ops : Nat → List OpI} {ans : Nat → List Ans} {ord sta : List Int} {ov tv : Value} (hT : ThreadsAt w A T ops) (hA : TraceAt w T ans ord sta Aa ca ov tv) {j : Nat} (hj : j < T) :
    ∃ tb to ab ao,A = some ⟨tb,to,none⟩∧Aa = some ⟨ab,ao,none⟩∧(ops j).length ≤ maxLen∧∃ rA rc qA qc,∀ wx,Below w.heap.size w wx → wx.cell? ⟨tb,to + j,none⟩ = some (.slice rA (ops j).length rc)∧wx.cell? ⟨ab,ao + j,none⟩ = some (.slice qA (ans j).length qc) ∧
      ∀ k (h : k < (ops j).length) (h' : k < (ans j).length),∃ b2 o2 b3 o3 lA lc,rA = some ⟨b2,o2,none⟩∧qA = some ⟨b3,o3,none⟩ ∧
        wx.cell? ⟨b2,o2 + k * 4,none⟩ = some (.int .i64 (ops j)[k].kind)∧wx.cell? ⟨b2,o2 + k * 4 + 1,none⟩ = some (.int .i64 (ops j)[k].a)∧wx.cell? ⟨b2,o2 + k * 4 + 2,none⟩ = some (.int .i64 (ops j)[k].b)∧wx.cell? ⟨b2,o2 + k * 4 + 3,none⟩ = some (.int .i64 (ops j)[k].c) ∧
        wx.cell? ⟨b3,o3 + k * 3,none⟩ = some (.bool (ans j)[k].ok)∧wx.cell? ⟨b3,o3 + k * 3 + 1,none⟩ = some (.int .i64 (ans j)[k].n)∧wx.cell? ⟨b3,o3 + k * 3 + 2,none⟩ = some (.slice lA (ans j)[k].ls.length lc):=by
  obtain ⟨tb,to,rfl,h1⟩:=hT.fix (by omega)
  obtain ⟨ab,ao,rfl,h2⟩:=hA.fix (by omega)
  obtain ⟨rA,rc,h3,h4,h5⟩:=h1 j hj
  obtain ⟨qA,qc,h6,h7,h8⟩:=h2 j hj
  refine ⟨tb,to,ab,ao,rfl,rfl,h4,rA,rc,qA,qc,fun wx hb=>?_⟩
  have far : ∀ {b o : Nat} {v : Value},w.cell? ⟨b,o,none⟩ = some v → wx.cell? ⟨b,o,none⟩ = some v:=fun h=>(World.cell?_of_block (w:=w) (hb.block _ (lt_of_cell h))).trans h
  refine ⟨far h3,far h6,fun k hk hk'=>?_⟩
  obtain ⟨b2,o2,e2,p1,p2,p3,p4⟩:=h5 k hk
  obtain ⟨b3,o3,lA,lc,e3,r1,r2,r3,_⟩:=h8 k hk'
  exact ⟨b2,o2,b3,o3,lA,lc,e2,e3,far p1,far p2,far p3,far p4,far r1,far r2,far r3⟩
theorem ld_zero {w : World} {vb hb N : Nat} {who : Nat → Nat × Nat} {val : Nat → Int} (h1 : Blk w vb 2 (Array.replicate N (.int .i64 0))) (h2 : Blk w hb 4 (Array.replicate N (.bool false))) : LdAt w w vb hb N val (dn who 0 0 0):=
  ⟨by rw [vlD_zero,List.map_replicate,List.toArray_replicate]; exact h1,by rw [tlD_zero,List.map_replicate,List.toArray_replicate]; exact h2,Kept.refl _ _⟩
theorem LdAt.vcell {w0 w : World} {vb hb N t : Nat} {val : Nat → Int} {d : Nat → Bool} (H : LdAt w0 w vb hb N val d) (ht : t < N) : w.cell? ⟨vb,t,none⟩ = some (.int .i64 (if d t then val t else 0)):=by
  rw [H.v.cell t,List.getElem?_toArray,List.getElem?_map,vlD,List.getElem?_map,List.getElem?_range ht]
  rfl
theorem LdAt.ints {w0 w : World} {vb hb N : Nat} {val : Nat → Int} {d : Nat → Bool} (H : LdAt w0 w vb hb N val d) {xs : List Int} (e : vlD N val d = xs) : IntsAt w (.slice (some ⟨vb,0,none⟩) N N) xs:=by
  have hl : xs.length = N:=by rw [← e,vlD_len]
  refine ⟨some ⟨vb,0,none⟩,N,by rw [hl],fun i hi=>⟨vb,0,rfl,H.v.lt,?_⟩⟩
  rw [Nat.zero_add,H.v.cell i,List.getElem?_toArray,List.getElem?_map,e,List.getD_eq_getElem?_getD,List.getElem?_eq_getElem hi]
  rfl
theorem Blk.far2 {w : World} {g hb vb q : Nat} {t : TypeId} {cs : Array Value} {u v : Value} (h : Blk w g t cs) (h1 : hb < g) (h2 : vb < g) : Blk ((w.setCell ⟨hb,q,none⟩ u).setCell ⟨vb,q,none⟩ v) g t cs:=
  (h.far (p:=⟨hb,q,none⟩) (by show g ≠ hb; omega) u).far (p:=⟨vb,q,none⟩) (by show g ≠ vb; omega) v
set_option maxHeartbeats 4000000 in
set_option maxRecDepth 100000 in
theorem laid_ok (w : World) (fs : Int) (A : Option Addr) (tc T N : Nat) (ops : Nat → List OpI) (ans : Nat → List Ans) (ord sta : List Int) (Aa : Option Addr) (ca : Nat) (ov tv : Value) (who : Nat → Nat × Nat) (val : Nat → Int) (hL : LaidOk fs T N ops ans who val)
    (hT6 : T ≤ 6) (hf0 : 0 ≤ fs) (hf1 : fs ≤ 1099511627776) (hl : ∀ i,i < T → (ops i).length ≤ 12) (hN : N ≤ sumB (fun i=>bsum (ops i)) T) (hS0 : sta.getD 0 0 = fs - 1 + N) (hSl : 2 ≤ sta.length) (hT : ThreadsAt w A T ops) (hA : TraceAt w T ans ord sta Aa ca ov tv) :
    Calls Try.prog 14 #[.int .i64 fs,.slice A T tc,.agg #[.slice Aa T ca,ov,tv,.bool false]] w fun e w'=>∃ v,e = .returned (.tuple #[v,.bool true])∧IntsAt w' v ((List.range N).map val)∧Kept (fun _=>False) w w':=by
  obtain ⟨o1,d1,e1,-⟩:=id hA.ord.1
  obtain ⟨s1,f1,e3,hsc⟩:=id hA.sta.1
  subst e1 e3
  obtain ⟨S,hS⟩ : ∃ S : Nat,S = sta.length:=⟨_,rfl⟩
  have HSL:=Lib.hid hS
  rw [← hS] at hA hSl hsc ⊢
  have hSm : S ≤ maxLen:=by rw [hS]; exact hA.sta.2
  unfold maxLen at hSm
  have HT:=Lib.hid hT
  have HA:=Lib.hid hA
  have HS:=Lib.hid hsc
  have HL:=Lib.hid hL
  have HS0:=Lib.hid hS0
  have hbs : ∀ i,i < T → bsum (ops i) ≤ 48:=fun i hi=>by
    have:=bsum_le (ops i) fun o ho=>by
      obtain ⟨k,hk,rfl⟩:=List.mem_iff_getElem.1 ho
      exact (hL.bd i hi k hk).2.1
    have:=hl i hi
    omega
  have hb0 : ∀ i,i < T → ∀ k (h : k < (ops i).length),0 ≤ (ops i)[k].b:=fun i hi k hk=>by have:=(hL.bd i hi k hk).1; omega
  have HBS:=Lib.hid hbs
  have HB0:=Lib.hid hb0
  have HLE:=Lib.hid hl
  have hs288:=sumB_le (f:=fun i=>bsum (ops i)) (c:=48) T hbs
  obtain ⟨Q,hQ⟩ : ∃ Q : Nat,Q = sumB (fun i=>bsum (ops i)) T:=⟨_,rfl⟩
  have HQ:=Lib.hid hQ
  rw [← hQ] at hN hs288
  have hN3 : N ≤ 288:=by omega
  have hQ3 : Q ≤ 288:=by omega
  clear hT hA hL hsc hS hS0 hbs hb0 hl hQ hs288
  go_enter Try.func14,Try.ntmps14
  have t0 : ((T : Int) != T) = false:=by simp
  have t1 : decide ((S : Int) < 2) = false:=decide_eq_false (by omega)
  go_wp2_with fail
  have hb : Kept (fun _=>False) w (w.alloc (.cells #[.slice Aa T ca,.slice o1 ord.length d1,.slice s1 S f1,.bool false] 29))∧Blk (w.alloc (.cells #[.slice Aa T ca,.slice o1 ord.length d1,.slice s1 S f1,.bool false] 29)) w.heap.size 29 #[.slice Aa T ca,.slice o1 ord.length d1,.slice s1 S f1,.bool false]:=⟨Kept.alloc _ _,Blk.new _ _ _⟩
  generalize w.alloc _ = z at hb ⊢
  have HTZ:=Lib.hid (HT.out.below hb.1.bel)
  have HAZ:=Lib.hid (HA.out.below hb.1.bel)
  have HB:=Lib.hid hb
  clear hb
  obtain ⟨tr,htr⟩ : ∃ tr,tr = w.heap.size:=⟨_,rfl⟩
  rw [← htr] at HB ⊢
  have HTR:=Lib.hid htr
  clear htr
  have c0 : z.cell? ⟨tr,0,none⟩ = some (.slice Aa T ca):=HB.out.2.cell 0
  have c2 : z.cell? ⟨tr,2,none⟩ = some (.slice s1 S f1):=HB.out.2.cell 2
  have c3 : z.cell? ⟨tr,3,none⟩ = some (.bool false):=HB.out.2.cell 3
  obtain ⟨sb,so,rfl,hS2⟩:=HAZ.out.sta.1.fix (by omega)
  have q0:=hS2 0 (by omega)
  rw [Nat.add_zero,HS0.out] at q0
  clear hS2
  have wN : wrap64 (fs - 1 + N - fs) = (N : Int) - 1:=by rw [show fs - 1 + (N : Int) - fs = N - 1 by omega]; exact IntWalk.wrap64_in _ (by omega)
  have wN2 : wrap64 ((N : Int) - 1 + 1) = (N : Int):=by rw [show (N : Int) - 1 + 1 = N by omega]; exact IntWalk.wrap64_in _ (by omega)
  have p0 : 0 < S:=by omega
  have tn0 : decide ((N : Int) < 0) = false:=decide_eq_false (by omega)
  have tn1 : decide ((Q : Int) < N) = false:=decide_eq_false (by omega)
  go_wp2_with fail
  go_simp
  go_wp2_with fail
  refine (asked_ok z A tc T ops HTZ.out hT6 HB0.out HBS.out).mono ?_
  rintro e w2 ⟨rfl,hk2⟩
  dsimp only
  rw [← HQ.out]
  have eN : fs - 1 + (N : Int) - fs + 1 = N:=by omega
  simp only [eN]
  clear eN wN wN2
  clear c0 c2 c3 q0 HTZ HAZ
  have hmk1 : ∀ w : World,(Instr.makeSlice 22 (.int .i64 N) (.int .i64 N)).run Try.prog w = .ok (.slice (some ⟨w.heap.size,0,none⟩) N N) (w.alloc (.cells (Array.replicate N (.int .i64 0)) 2)):=fun w=>make_ints w N (by omega)
  have hmk2 : ∀ w : World,(Instr.makeSlice 103 (.int .i64 N) (.int .i64 N)).run Try.prog w = .ok (.slice (some ⟨w.heap.size,0,none⟩) N N) (w.alloc (.cells (Array.replicate N (.bool false)) 4)):=fun w=>make_bools w N (by omega)
  have hB2 : Blk w2 tr 29 #[.slice Aa T ca,.slice o1 ord.length d1,.slice (some ⟨sb,so,none⟩) S f1,.bool false]:=HB.out.2.kept hk2 id
  have hk02 : Kept (fun _=>False) w w2:=HB.out.1.trans hk2
  have HB2:=Lib.hid (And.intro hB2 hk02)
  clear hk2 hB2 hk02 HB
  go_wp2
  have hvb:=(Blk.new w2 2 (Array.replicate N (.int .i64 0))).alloc (.cells (Array.replicate N (.bool false)) 4)
  have hhb:=Blk.new (w2.alloc (.cells (Array.replicate N (.int .i64 0)) 2)) 4 (Array.replicate N (.bool false))
  rw [World.size_alloc] at hhb
  have hky : Kept (fun _=>False) w2 ((w2.alloc (.cells (Array.replicate N (.int .i64 0)) 2)).alloc (.cells (Array.replicate N (.bool false)) 4)):=(Kept.alloc _ _).trans (Kept.alloc _ _)
  generalize (w2.alloc _).alloc _ = y at hvb hhb hky ⊢
  obtain ⟨vb,hvbe⟩ : ∃ vb,vb = w2.heap.size:=⟨_,rfl⟩
  obtain ⟨hb,hhbe⟩ : ∃ hb,hb = w2.heap.size + 1:=⟨_,rfl⟩
  have HZ:=Lib.hid (ld_zero (who:=who) (val:=val) hvb hhb)
  rw [← hhbe] at HZ
  rw [← hvbe] at HZ
  rw [← hhbe,← hvbe]
  have hBy : Blk y tr 29 #[.slice Aa T ca,.slice o1 ord.length d1,.slice (some ⟨sb,so,none⟩) S f1,.bool false]:=HB2.out.1.kept hky id
  have hkwy : Kept (fun _=>False) w y:=HB2.out.2.trans hky
  have hord : w.heap.size ≤ tr∧tr < vb∧vb < hb:=⟨by rw [HTR.out]; exact Nat.le_refl _,by rw [hvbe]; exact HB2.out.1.lt,by omega⟩
  have HY:=Lib.hid (And.intro hBy (And.intro hkwy hord))
  have hbel : Hid (∀ wx,Kept (fun b=>b = vb ∨ b = hb) y wx → Below w.heap.size w wx∧Blk wx tr 29 #[.slice Aa T ca,.slice o1 ord.length d1,.slice (some ⟨sb,so,none⟩) S f1,.bool false]):=Lib.hid fun wx k=>⟨hkwy.bel.trans (k.to_below (fun b hb=>by omega) hkwy.size),hBy.kept k (by omega)⟩
  clear hvb hhb hky hBy hkwy hord hvbe hhbe HB2 hmk1 hmk2 t1 p0 tn0 tn1
  have hsc0 : Hid (∃ fs1,fs1 = fs - 1∧0 ≤ fs1 + 1):=Lib.hid ⟨_,rfl,by omega⟩
  have tq : decide (Q < N) = false:=decide_eq_false (by omega)
  simp only [tq]
  clear tq
  go_loopw [11,12] (fun g i wr=>∃ j : Nat,j ≤ T∧g = .int .i64 (gtD N (dn who j 0 0) : Nat)∧i = .int .i64 j∧Hid (LdAt y wr vb hb N val (dn who j 0 0))) (fun _ i _=>T - (intOf i).toNat)
  case atStart=>exact ⟨0,by omega,by rw [gtD_zero]; rfl,rfl,HZ⟩
  case round =>
    obtain ⟨j,hj,rfl,rfl,HR⟩:=hrel
    obtain ⟨hbw,hbt⟩:=hbel.out wr HR.out.k
    have c0 : wr.cell? ⟨tr,0,none⟩ = some (.slice Aa T ca):=hbt.cell 0
    clear hbt
    by_cases hlt : j < T
    · obtain ⟨tb,to,ab,ao,rfl,rfl,hm,rA,rc,qA,qc,hcells⟩:=ld_cells HT.out HA.out hlt
      have HC:=Lib.hid hcells
      obtain ⟨h1,k1,_⟩:=hcells wr hbw
      rw [HL.out.len j hlt] at k1
      obtain ⟨L,hL⟩ : ∃ L,L = (ops j).length:=⟨_,rfl⟩
      rw [← hL] at h1 k1 hm
      have HLL:=Lib.hid hL
      unfold maxLen at hm
      clear hL hcells hbw
      have b0 : (0 : Int) ≤ j:=by omega
      have b1 : (j : Int) < T:=by omega
      have t2 : ((L : Int) != L) = false:=by simp
      go_wp2
      go_quiet (fail)
      have HR : Hid (LdAt y (wr.drewN nq) vb hb N val (dn who j 0 0)):=Lib.hid (HR.out.kept (Kept.drewN _ _ _))
      clear c0 h1 k1
      generalize wr.drewN nq = y2 at HR ⊢
      go_wp2
      clear t2
      go_loopw [11,13,14] (fun g l i wx=>∃ k : Nat,k ≤ L∧g = .int .i64 (gtD N (dn who j k 0) : Nat)∧(∃ lz : Int,l = .int .i64 lz∧(fs - 1 ≤ lz∧lz < fs + N)∧Hid (lz = fs - 1 ∨ ∃ a,∃ h : a < (ans j).length,a < k∧((ans j)[a]).ok = true∧lz = ((ans j)[a]).n))∧i = .int .i64 k∧Hid (LdAt y wx vb hb N val (dn who j k 0))) (fun _ _ i _=>L - (intOf i).toNat)
      case atStart=>exact ⟨0,by omega,rfl,⟨_,rfl,by omega,Lib.hid (.inl rfl)⟩,rfl,HR⟩
      case round =>
        clear HR
        obtain ⟨k,hk,rfl,⟨lz,rfl,hlz,HLZ⟩,rfl,HR⟩:=hrel
        obtain ⟨hbw,hbt⟩:=hbel.out wr HR.out.k
        have c0 : wr.cell? ⟨tr,0,none⟩ = some (.slice (some ⟨ab,ao,none⟩) T ca):=hbt.cell 0
        clear hbt
        obtain ⟨h1,k1,h2⟩:=HC.out wr hbw
        rw [HL.out.len j hlt] at k1
        rw [← HLL.out] at h1 k1
        have hgl:=gtD_le (N:=N) (dn who j k 0)
        by_cases hlk : k < L
        · have hkl : k < (ops j).length:=by rw [← HLL.out]; exact hlk
          have hka : k < (ans j).length:=by rw [HL.out.len j hlt]; exact hkl
          obtain ⟨b2,o2,b3,o3,lA,lc,rfl,rfl,p1,p2,p3,p4,r1,r2,r3⟩:=h2 k hkl hka
          have hbd:=HL.out.bd j hlt k hkl
          have HOK:=Lib.hid (HL.out.ok j hlt k hka hkl)
          have HNO:=Lib.hid (HL.out.no (i:=j) (k:=k) hka)
          have HFI:=Lib.hid (fun t=>HL.out.first (i:=j) (k:=k) (t:=t) hka hkl)
          have HLA:=Lib.hid (fun t=>HL.out.last (i:=j) (k:=k) (t:=t) hka hkl)
          have HRI : Hid (((ans j)[k]).ok = true → lz ≤ ((ans j)[k]).n - ((ops j)[k]).b):=Lib.hid fun h=>by
            rcases HLZ.out with e | ⟨a,ha,hak,hok,e⟩
            · have:=(HOK.out h).1; omega
            · rw [e]; exact HL.out.ris j hlt a k ha hka hkl hak hok h
          have HNX : Hid (∀ wx2 : World,((ans j)[k]).ok = true → ∃ a,∃ h : a < (ans j).length,a < k + 1∧((ans j)[a]).ok = true∧((ans j)[k]).n = ((ans j)[a]).n):=Lib.hid fun _ h=>⟨k,hka,by omega,h,rfl⟩
          clear h2 hbw
          generalize hA0 : (ans j)[k] = a0 at *
          generalize hO0 : (ops j)[k] = o0 at *
          clear hA0 hO0
          obtain ⟨okv,na,ls⟩:=a0
          obtain ⟨kd,oa,ob,oc⟩:=o0
          simp only at p1 p2 p3 p4 r1 r2 r3 hbd HOK HNO HFI HLA HRI HNX
          obtain ⟨mb,rfl⟩ : ∃ mb : Nat,ob = mb:=⟨ob.toNat,by omega⟩
          have d0 : (0 : Int) ≤ k:=by omega
          have d1 : (k : Int) < L:=by omega
          have l1:=lt_of_cell p1
          have l2:=lt_of_cell r1
          have l3:=lt_of_cell h1
          have l4:=lt_of_cell c0
          generalize ls.length = ll at r3
          cases okv with
          | false =>
            go_wp2
            have HNO:=Lib.hid (HNO.out rfl)
            go_roundw
            case rel=>exact ⟨k + 1,by omega,by rw [gtD_congr HNO.out],⟨lz,rfl,hlz,Lib.hid (HLZ.out.imp id fun ⟨a,h1,h2,h3⟩=>⟨a,h1,by omega,h3⟩)⟩,by go_num,Lib.hid (((HR.out.congr HNO.out).kept (Kept.alloc _ _)).kept (Kept.alloc _ _))⟩
            case measure=>simp [intOf]; omega
          | true =>
            obtain ⟨g1,g2,g3⟩:=HOK.out rfl
            have g4:=HRI.out rfl
            have HNY:=Lib.hid (HNX.out wr rfl)
            clear HNX
            obtain ⟨t0,rfl⟩ : ∃ t0 : Nat,na = fs + t0 + mb - 1:=⟨(na - mb + 1 - fs).toNat,by omega⟩
            have HFI:=Lib.hid (HFI.out t0 (by omega))
            have HLA:=Lib.hid (HLA.out (t0 + mb) (by omega))
            have HWH : Hid (∀ m : Nat,m < mb → who (t0 + m) = (j,k)∧val (t0 + m) = oa + m):=Lib.hid fun m hm=>by
              obtain ⟨x1,x2⟩:=g3 (t0 + m) (by omega) (by omega)
              exact ⟨x1,by rw [x2]; omega⟩
            have ht0 : t0 + mb ≤ N:=by omega
            clear g1 g2 g3 HOK HNO HRI
            have e1 : decide (fs + (t0 : Int) + mb - 1 - mb < lz) = false:=decide_eq_false (by omega)
            have e2 : decide ((N : Int) ≤ fs + (t0 : Int) + mb - 1 - fs) = false:=decide_eq_false (by omega)
            clear g4
            obtain ⟨hb1,hb2,ha1,ha2⟩:=hbd
            go_wp2
            have hy3 : Blk ((wr.alloc (.cells #[.bool true,.int .i64 (fs + t0 + mb - 1),.slice lA ll lc] 91)).alloc (.cells #[.int .i64 kd,.int .i64 oa,.int .i64 mb,.int .i64 oc] 87)) wr.heap.size 91 #[.bool true,.int .i64 (fs + t0 + mb - 1),.slice lA ll lc] ∧
                Blk ((wr.alloc (.cells #[.bool true,.int .i64 (fs + t0 + mb - 1),.slice lA ll lc] 91)).alloc (.cells #[.int .i64 kd,.int .i64 oa,.int .i64 mb,.int .i64 oc] 87)) (wr.heap.size + 1) 87 #[.int .i64 kd,.int .i64 oa,.int .i64 mb,.int .i64 oc] ∧
                Kept (fun _=>False) wr ((wr.alloc (.cells #[.bool true,.int .i64 (fs + t0 + mb - 1),.slice lA ll lc] 91)).alloc (.cells #[.int .i64 kd,.int .i64 oa,.int .i64 mb,.int .i64 oc] 87)):=
              ⟨(Blk.new _ _ _).alloc _,by have:=Blk.new (wr.alloc (.cells #[.bool true,.int .i64 (fs + t0 + mb - 1),.slice lA ll lc] 91)) 87 #[.int .i64 kd,.int .i64 oa,.int .i64 mb,.int .i64 oc]; rw [World.size_alloc] at this; exact this,(Kept.alloc _ _).trans (Kept.alloc _ _)⟩
            generalize (wr.alloc _).alloc _ = y3 at hy3 ⊢
            have hbb : hb < wr.heap.size:=HR.out.h.lt
            have HR3:=Lib.hid ((HR.out.congr HFI.out).kept hy3.2.2)
            have HY3:=Lib.hid (And.intro hy3.1 hy3.2.1)
            clear hy3 p1 p2 p3 p4 r1 r2 r3 l1 l2 l3 l4 h1 k1 c0 e1 e2
            clear HR
            generalize wr.heap.size = bA at HY3 hbb ⊢
            rw [gtD_congr HFI.out] at hgl ⊢
            clear HFI
            have hvh : vb < hb:=HY.out.2.2.2.2
            go_loopw [11,17] (fun g i wx=>∃ m : Nat,m ≤ mb∧g = .int .i64 (gtD N (dn who j k (t0 + m)) : Nat)∧i = .int .i64 m∧Hid (LdAt y wx vb hb N val (dn who j k (t0 + m))∧Blk wx bA 91 #[.bool true,.int .i64 (fs + t0 + mb - 1),.slice lA ll lc]∧Blk wx (bA + 1) 87 #[.int .i64 kd,.int .i64 oa,.int .i64 mb,.int .i64 oc])) (fun _ i _=>mb - (intOf i).toNat)
            case atStart=>exact ⟨0,by omega,rfl,rfl,Lib.hid ⟨HR3.out,HY3.out⟩⟩
            case round =>
              clear HR3 HY3
              obtain ⟨m,hm,rfl,rfl,HE⟩:=hrel
              have a1 : wr.cell? ⟨bA,1,none⟩ = some (.int .i64 (fs + t0 + mb - 1)):=HE.out.2.1.cell 1
              have a2 : wr.cell? ⟨bA + 1,1,none⟩ = some (.int .i64 oa):=HE.out.2.2.cell 1
              have a3 : wr.cell? ⟨bA + 1,2,none⟩ = some (.int .i64 mb):=HE.out.2.2.cell 2
              by_cases hlm : m < mb
              · obtain ⟨x1,x2⟩:=HWH.out m hlm
                have HG : Hid (gtD N (dn who j k (t0 + (m + 1))) = gtD N (dn who j k (t0 + m)) + 1):=Lib.hid (by
                  rw [show t0 + (m + 1) = t0 + m + 1 by omega,gtD_congr fun e _=>dn_step x1 e,gtD_set (dn_at x1),if_pos (by omega)])
                have HS1 : Hid (∀ e,dn who j k (t0 + (m + 1)) e = (decide (e = t0 + m) || dn who j k (t0 + m) e)):=Lib.hid fun e=>dn_step x1 e
                have th:=HE.out.1.there (t:=t0 + m) (by omega)
                rw [dn_at x1] at th
                have vc:=HE.out.1.vcell (t:=t0 + m) (by omega)
                have tf:=HE.out.1.h.frozen (t0 + m)
                have vf:=HE.out.1.v.frozen (t0 + m)
                have hgl2:=gtD_le (N:=N) (dn who j k (t0 + m))
                obtain ⟨G,hG⟩ : ∃ G,G = gtD N (dn who j k (t0 + m)):=⟨_,rfl⟩
                rw [← hG] at hgl2 HG ⊢
                obtain ⟨q,hq⟩ : ∃ q,q = t0 + m:=⟨_,rfl⟩
                have eI : fs + (t0 : Int) + mb - 1 - fs - mb + 1 + m = (q : Int):=by omega
                rw [← hq] at th vc tf vf x2 HS1
                have HV:=Lib.hid x2
                have HQ2:=Lib.hid hq
                have hqN : q < N:=by omega
                have hqN2 : (q : Int) < N:=by omega
                have hq0 : (0 : Int) ≤ q:=by omega
                clear x1 x2 hG hq
                generalize (if dn who j k q q then val q else 0) = zz at vc
                go_wp2
                go_roundw
                case rel =>
                  refine ⟨m + 1,by omega,by rw [HG.out]; go_num,by go_num,Lib.hid ⟨?_,HE.out.2.1.far2 hbb (Nat.lt_trans hvh hbb),HE.out.2.2.far2 (by omega) (by omega)⟩⟩
                  have h9:=HE.out.1.set (d':=dn who j k (t0 + (m + 1))) (t:=q) (by omega) (by rw [← HQ2.out]; exact HS1.out)
                  rw [HV.out] at h9
                  exact h9
                case measure=>simp [intOf]; omega
              · obtain rfl : m = mb:=by omega
                go_wp2
                go_roundw
                case rel=>exact ⟨k + 1,by omega,by rw [gtD_congr HLA.out],⟨_,rfl,by omega,Lib.hid (.inr HNY.out)⟩,by go_num,Lib.hid (HE.out.1.congr HLA.out)⟩
                case measure=>simp [intOf]; omega
        · obtain rfl : k = L:=by omega
          have HTH : Hid (∀ e,e < N → dn who j k 0 e = dn who (j + 1) 0 0 e):=Lib.hid (by rw [HLL.out,← HL.out.len j hlt]; exact fun e he=>HL.out.thread e he)
          clear h2 hbw
          go_wp2
          go_roundw
          case rel=>exact ⟨j + 1,by omega,by rw [gtD_congr HTH.out],by go_num,Lib.hid (HR.out.congr HTH.out)⟩
          case measure=>simp [intOf]; omega
    · obtain rfl : j = T:=by omega
      rw [HL.out.gt_end]
      clear hbw
      go_wp2
      refine bodyPost_ret (v:=.tuple #[.slice (some ⟨vb,0,none⟩) N N,.bool true]) (by simp [results,Try.f14,go_sem]) rfl ?_
      exact ⟨_,rfl,HR.out.ints HL.out.vl_end,HY.out.2.1.later HR.out.k fun b hb=>by have:=HY.out.2.2; omega⟩
theorem run_max1 {P : Program} {w : World} (ts : Array TypeId) (t : TypeId) (k k' : IntKind) (x : Int) : (Builtin.max_ ts t #[.int k x,.int k' 0]).run P w = .ok (.int k (max x 0)) w:=by
  rw [run_max_int2]
  congr 2
  by_cases h : (0 : Int) > x
  · rw [if_pos h]; omega
  · rw [if_neg h]; omega
theorem run_min1 {P : Program} {w : World} (ts : Array TypeId) (t : TypeId) (k k' : IntKind) (x : Int) : (Builtin.min_ ts t #[.int k x,.int k' 1099511627776]).run P w = .ok (.int k (min x 1099511627776)) w:=by
  rw [run_min_int2]
  congr 2
  by_cases h : (1099511627776 : Int) < x
  · rw [if_pos h]; omega
  · rw [if_neg h]; omega
attribute [local go_sem high] run_max1 run_min1
theorem bgn_snoc (a fs : Int) (l : List Int) (x : Int) : [a,fs] ++ bgn fs (l ++ [x]) = ([a,fs] ++ bgn fs l) ++ [fs - 1 + x % 30]:=by simp [bgn]
set_option maxHeartbeats 4000000 in
set_option maxRecDepth 100000 in
theorem start_ok (s : Rn) (W w : World) (hW : W.heap.size ≤ w.heap.size) (hs : s.At W w) : Calls Try.prog 12 #[.int .u8 s.lg,.int .i64 s.f0,.slice s.dA s.ds.length s.dc] w fun e w' =>
    ∃ v,e = .returned (.tuple #[.int .i64 s.n,.int .i64 s.fs,v])∧w'.ownsRow w.heap.size 2 1 v s.start.length (s.start.map (Value.int .i64))∧Kept (fun _=>False) w w':=by
  obtain ⟨i1,hi1,hz01,hz11,hz21⟩:=info_parts Try.infoI
  have hlg:=hs.lg
  have hf:=hs.f0
  have hn : Go.RowKit.wrap64 (2 ^ (s.lg % 5).toNat) = (s.n : Int):=by
    unfold Rn.n
    have : (s.lg % 5).toNat = 0 ∨ (s.lg % 5).toNat = 1 ∨ (s.lg % 5).toNat = 2 ∨ (s.lg % 5).toNat = 3 ∨ (s.lg % 5).toNat = 4:=by omega
    rcases this with e | e | e | e | e <;> rw [e] <;> simp [Go.RowKit.wrap64]
  have hn8:=s.n_le hlg.1
  have hfs:=s.fs_le
  have HN:=Lib.hid hn
  have HS:=Lib.hid hs
  clear hs hn
  obtain ⟨L,hL⟩ : ∃ L,L = s.ds.length:=⟨_,rfl⟩
  have hmx : L ≤ maxLen:=by rw [hL]; exact Nat.le_trans HS.out.ds.le HS.out.ds.mx
  unfold maxLen at hmx
  have HL:=Lib.hid hL
  rw [← hL]
  clear hL
  have HDS:=Lib.hid HS.out.ds
  clear HS
  generalize s.dA = dA at HDS ⊢
  go_enter Try.func12,Try.ntmps12
  go_wp2_with fail
  rw [HN.out,show min (max s.f0 0) 1099511627776 = s.fs from rfl]
  have h0 : Hid ((w.alloc (.cells #[.int .i64 s.n,.int .i64 s.fs] 2)).ownsRow w.heap.size 2 1 (.slice (some ⟨w.heap.size,0,none⟩) 2 2) (2 + 0) (([(s.n : Int),s.fs] ++ bgn s.fs (s.ds.take 0)).map (Value.int .i64))∧Kept (fun _=>False) w (w.alloc (.cells #[.int .i64 s.n,.int .i64 s.fs] 2))):=Lib.hid ⟨own_two w _ _ _ (Nat.le_refl _),Kept.alloc _ _⟩
  obtain ⟨m,hm⟩ : ∃ m,m = min L 6:=⟨_,rfl⟩
  have hm6 : m ≤ 6∧m ≤ L∧(m < L → m = 6):=by omega
  have HM:=Lib.hid hm
  generalize hff : s.fs = fs at hfs h0 ⊢
  have HFF:=Lib.hid hff
  clear hff
  generalize hnn : s.n = nn at hn8 h0 ⊢
  have HNN:=Lib.hid hnn
  clear hm hf hlg HN hnn
  obtain ⟨hf0,hf1⟩:=hfs
  obtain ⟨hm1,hm2,hm3⟩:=hm6
  have HM3:=Lib.hid hm3
  clear hm3 hn8
  go_loopw [10,11] (fun v i wr=>∃ j : Nat,j ≤ m∧i = .int .i64 j∧Hid (wr.ownsRow w.heap.size 2 1 v (2 + j) (([(nn : Int),fs] ++ bgn fs (s.ds.take j)).map (Value.int .i64))∧Kept (fun _=>False) w wr)) (fun _ i _=>m - (intOf i).toNat)
  case atStart=>exact ⟨0,by omega,rfl,h0⟩
  case round =>
    clear h0
    obtain ⟨j,hj,rfl,HR⟩:=hrel
    obtain ⟨vA,vc,rfl⟩:=own_slice HR.out.1
    by_cases hlt : j < m
    · obtain ⟨db,d0,rfl,hbb,hc⟩:=(HDS.out.keep (cells_kept hW HR.out.2)).fix (by have:=HL.out; omega)
      have c:=hc j (by have:=HL.out; omega)
      have hbd:=HDS.out.bdAt (i:=j) (by have:=HL.out; omega)
      have HT : Hid (s.ds.take (j + 1) = s.ds.take j ++ [s.ds.getD j 0]):=Lib.hid (by
        rw [List.take_add_one,List.getD_eq_getElem?_getD,List.getElem?_eq_getElem (by have:=HL.out; omega)]; rfl)
      clear hc
      generalize s.ds.getD j 0 = x at c hbd HT
      obtain ⟨x0,x1⟩:=hbd
      have b0 : (0 : Int) ≤ j:=by omega
      have b1 : (j : Int) < L:=by omega
      have b2 : (j : Int) < 6:=by omega
      have y0 : 0 ≤ x % 30∧x % 30 < 30:=by omega
      go_wp2_with (at_builtin; refine wpList_app _ rfl _ _ 22 rfl w.heap.size 2 i1 (.int .i64 0) 1 8 Try.underlying22 hi1 hz01 hz11 hz21 rfl (by decide) _ _ _ rfl (HR.out.1.alloc _) (some ⟨wr.heap.size,0,none⟩) 1 1 rfl (fun h=>by cases h) (Nat.le_refl _) [.int .i64 (fs - 1 + x % 30)] (by simp) (cells_new _ _ _) (by simp [Value.oneCell']) (by unfold maxLen; omega) (by omega) (by have:=HR.out.2.size; simp; omega) ?_)
      intro v' w2 h1 k1 _ _ _
      have HO : Hid (w2.ownsRow w.heap.size 2 1 v' (2 + (j + 1)) (([(nn : Int),fs] ++ bgn fs (s.ds.take (j + 1))).map (Value.int .i64))∧Kept (fun _=>False) w w2):=Lib.hid ⟨by
        rw [HT.out,bgn_snoc,List.map_append,← Nat.add_assoc]
        exact h1,(HR.out.2.trans (Kept.alloc _ _)).later k1 fun b hb=>(HR.out.1.lt b hb).1⟩
      clear h1 k1 c
      obtain ⟨vA',vc',rfl⟩:=own_slice HO.out.1
      go_wp2
      go_roundw
      case rel=>exact ⟨j + 1,by omega,by go_num,HO⟩
      case measure=>simp [intOf]; omega
    · obtain rfl : j = m:=by omega
      have b1 : Hid ((j : Int) < L → j = 6):=Lib.hid fun h=>HM3.out (by omega)
      have HF : Hid (∃ l,l = s.ds.take j∧l = s.ds.take 6):=Lib.hid ⟨_,rfl,by
        by_cases h : j < L
        · rw [HM3.out h]
        · rw [List.take_of_length_le (by have:=HL.out; omega),List.take_of_length_le (by have:=HL.out; omega)]⟩
      have HS2 : Hid (∀ (w' : World) (v : Value) (B : Nat),w'.ownsRow B 2 1 v (2 + j) (([(nn : Int),fs] ++ bgn fs (s.ds.take j)).map (Value.int .i64)) → w'.ownsRow B 2 1 v s.start.length (s.start.map (Value.int .i64))):=Lib.hid fun w' v B h=>by
        obtain ⟨l,h1,h2⟩:=HF.out
        have e : s.start = [(nn : Int),fs] ++ bgn fs (s.ds.take j):=by unfold Rn.start; rw [HNN.out,HFF.out,← h2,h1]
        rw [s.start_len,e,← HL.out,← HM.out]
        exact h
      by_cases h6 : j < L
      · obtain rfl:=HM3.out h6
        go_wp2
        refine bodyPost_ret (v:=.tuple #[.int .i64 nn,.int .i64 fs,.slice vA (2 + 6) vc]) (by simp [results,Try.f12,go_sem]) rfl ?_
        exact ⟨_,by rw [HNN.out,HFF.out],HS2.out _ _ _ HR.out.1,HR.out.2⟩
      · have b2 : decide ((j : Int) < L) = false:=decide_eq_false (by omega)
        go_wp2
        refine bodyPost_ret (v:=.tuple #[.int .i64 nn,.int .i64 fs,.slice vA (2 + j) vc]) (by simp [results,Try.f12,go_sem]) rfl ?_
        exact ⟨_,by rw [HNN.out,HFF.out],HS2.out _ _ _ HR.out.1,HR.out.2⟩
def ByRows (W w : World) (lA : Option Addr) (ln : Nat) (A : Nat → Option Addr) (rows : Nat → List Int) (cap : Nat → Nat) : Prop:=
  ∀ i,i < ln → (∃ b o,lA = some ⟨b,o,none⟩∧b < W.heap.size∧w.cell? ⟨b,o + i,none⟩ = some (.slice (A i) (rows i).length (cap i)))∧BytesAt W w (A i) (cap i) (rows i)
theorem ByRows.fix {W w : World} {lA : Option Addr} {ln : Nat} {A : Nat → Option Addr} {rows : Nat → List Int} {cap : Nat → Nat} (h : ByRows W w lA ln A rows cap) (hn : 0 < ln) : ∃ b o,lA = some ⟨b,o,none⟩∧b < W.heap.size∧∀ i,i < ln → w.cell? ⟨b,o + i,none⟩ = some (.slice (A i) (rows i).length (cap i))∧BytesAt W w (A i) (cap i) (rows i):=by
  obtain ⟨⟨b,o,rfl,h2,_⟩,_⟩:=h 0 hn
  refine ⟨b,o,rfl,h2,fun i hi=>?_⟩
  obtain ⟨⟨b',o',e,_,h3⟩,h4⟩:=h i hi
  cases e
  exact ⟨h3,h4⟩
theorem ByRows.keep {W w w' : World} {lA : Option Addr} {ln : Nat} {A : Nat → Option Addr} {rows : Nat → List Int} {cap : Nat → Nat} (h : ByRows W w lA ln A rows cap) (hk : ∀ b o v,b < W.heap.size → w.cell? ⟨b,o,none⟩ = some v → w'.cell? ⟨b,o,none⟩ = some v) : ByRows W w' lA ln A rows cap:=
  fun i hi=>⟨by obtain ⟨b,o,h1,h2,h3⟩:=(h i hi).1; exact ⟨b,o,h1,h2,hk _ _ _ h2 h3⟩,(h i hi).2.keep hk⟩
set_option maxHeartbeats 4000000 in
set_option maxRecDepth 100000 in
theorem offers_ok (s : Rn) (W w : World) (hW : W.heap.size ≤ w.heap.size) (hs : s.At W w) : Calls Try.prog 13 #[.slice s.lA s.ln s.lc] w fun e w' =>
    ∃ tA tc rows,e = .returned (.slice tA s.T tc)∧OwnOps s.ops w.heap.size tA tc rows s.T w'∧Kept (fun _=>False) w w':=by
  obtain ⟨i1,hi1,hz01,hz11,hz21⟩:=info_parts Try.infoOp
  obtain ⟨i2,hi2,hz02,hz12,hz22⟩:=info_parts Try.infoOpL
  have hmx : s.ln ≤ maxLen:=Nat.le_trans hs.rle hs.rmx
  unfold maxLen at hmx
  have hr : ByRows W w s.lA s.ln s.A s.rows s.cap:=hs.row
  have HRW:=Lib.hid hr
  clear hr hs
  generalize s.lA = lA at HRW ⊢
  obtain ⟨ln,hln⟩ : ∃ ln,ln = s.ln:=⟨_,rfl⟩
  rw [← hln] at HRW hmx ⊢
  obtain ⟨T,hT⟩ : ∃ T,T = s.T:=⟨_,rfl⟩
  rw [← hT]
  have hT6 : T ≤ 6∧T ≤ ln∧(T < ln → T = 6):=by rw [hT,hln]; unfold Rn.T; omega
  have HTT:=Lib.hid hT
  obtain ⟨ht1,ht2,ht3⟩:=hT6
  have HT3:=Lib.hid ht3
  clear ht3 hln hT
  go_enter Try.func13,Try.ntmps13
  go_wp2_with fail
  go_loopw [3,4] (fun v i wr=>∃ (q : Nat) (tA : Option Addr) (tc : Nat) (rows : Nat → Value),q ≤ T∧i = .int .i64 q∧v = .slice tA q tc∧Hid (OwnOps s.ops w.heap.size tA tc rows q wr∧Kept (fun _=>False) w wr)) (fun _ i _=>T - (intOf i).toNat)
  case atStart=>exact ⟨0,none,0,fun _=>.bool true,by omega,rfl,rfl,Lib.hid ⟨⟨World.ownsRow_nil _ _ _ _,fun i hi=>by omega⟩,Kept.refl _ _⟩⟩
  case round =>
    obtain ⟨q,tA,tc,rows,hq,rfl,rfl,HC⟩:=hrel
    by_cases hlt : q < T
    · obtain ⟨lb,lo,rfl,hbb,hc⟩:=(HRW.out.keep (cells_kept hW HC.out.2)).fix (by omega)
      obtain ⟨c,hby⟩:=hc q (by omega)
      have HBY:=Lib.hid hby
      have hl1:=hby.le
      have hl2:=hby.mx
      unfold maxLen at hl2
      clear hc hby
      have b0 : (0 : Int) ≤ q:=by omega
      have b1 : (q : Int) < ln:=by omega
      have b2 : (q : Int) < 6:=by omega
      have HL : Hid (∃ l : List Int,(s.rows q).take 12 = l∧l.length = min (s.rows q).length 12∧∀ j,j < min (s.rows q).length 12 → l[j]? = some ((s.rows q).getD j 0)):=Lib.hid ⟨_,rfl,by simp; omega,fun j hj=>by
        rw [List.getElem?_take,if_pos (by omega),List.getD_eq_getElem?_getD,List.getElem?_eq_getElem (by omega)]; rfl⟩
      obtain ⟨l,hl0,hll,hl3⟩:=HL.out
      obtain ⟨R,hR⟩ : ∃ R,R = (s.rows q).length:=⟨_,rfl⟩
      rw [← hR] at c hl1 hll hl3
      have HRL:=Lib.hid hR
      obtain ⟨m,hm⟩ : ∃ m,m = min R 12:=⟨_,rfl⟩
      rw [← hm] at hll hl3
      have hm12 : m ≤ 12∧m ≤ R∧(m < R → m = 12):=by omega
      obtain ⟨m1,m2,m3⟩:=hm12
      have HM3:=Lib.hid m3
      have HLL:=Lib.hid (And.intro hl0 (And.intro hll hl3))
      clear hm hR m3 hl0 hll hl3 HL
      have HO0 : Hid (wr.ownsRow wr.heap.size 87 4 (.slice none 0 0) 0 (opCells (mOps (1000 * (q : Int)) (l.take 0)))∧Kept (fun _=>False) wr wr):=Lib.hid ⟨World.ownsRow_nil _ _ _ _,Kept.refl _ _⟩
      go_wp2
      rename World=>x
      clear c
      go_loopw [5,6,7] (fun v a i wr'=>∃ e : Nat,e ≤ m∧i = .int .i64 e∧(∃ V : Int,a = .int .i64 (1000 * (q : Int) + V)∧(0 ≤ V∧V ≤ 48)∧Hid (V = mSum (l.take e)))∧Hid (wr'.ownsRow x.heap.size 87 4 v e (opCells (mOps (1000 * (q : Int)) (l.take e)))∧Kept (fun _=>False) x wr')) (fun _ _ i _=>m - (intOf i).toNat)
      case atStart=>exact ⟨0,by omega,rfl,⟨0,by simp,by omega,Lib.hid (by simp [mSum])⟩,HO0⟩
      case round =>
        clear HO0
        obtain ⟨e,he,rfl,⟨V,rfl,⟨hV0,hV1⟩,HV⟩,HR⟩:=hrel
        obtain ⟨vA2,vc2,rfl⟩:=own_slice HR.out.1
        have hk0 : Kept (fun _=>False) w wr:=HC.out.2.trans HR.out.2
        obtain ⟨lb',lo',ee,_,hc⟩:=(HRW.out.keep (cells_kept hW hk0)).fix (by omega)
        cases ee
        obtain ⟨c,hby⟩:=hc q (by omega)
        rw [← HRL.out] at c
        clear hc
        by_cases hle : e < m
        · have HD:=Lib.hid (HLL.out.2.2 e hle)
          have hbd:=hby.bdAt (i:=e) (by rw [← HRL.out]; omega)
          obtain ⟨b3,o3,hA3,_,hcs⟩:=hby.fix (by rw [← HRL.out]; omega)
          have c3:=hcs e (by rw [← HRL.out]; omega)
          have HA3:=Lib.hid hA3
          rw [hA3] at c
          clear hcs hby hA3
          generalize (s.rows q).getD e 0 = x0 at HD hbd c3
          obtain ⟨x00,x01⟩:=hbd
          have y0 : 0 ≤ x0 % 4∧x0 % 4 < 4:=by omega
          have hl : Hid (l.take (e + 1) = l.take e ++ [x0]):=Lib.hid (by rw [List.take_add_one,HD.out]; rfl)
          have hv48 : Hid (mSum (l.take (e + 1)) ≤ 48):=Lib.hid (by have:=(mSum_le (l.take (e + 1))).2; have:=List.length_take_le (e + 1) l; omega)
          have hV2 : V + (x0 % 4 + 1) ≤ 48:=by have h1:=hv48.out; rw [hl.out,mSum_snoc,← HV.out] at h1; exact h1
          have e0 : (0 : Int) ≤ e:=by omega
          have e1 : (e : Int) < R:=by omega
          have e2 : (e : Int) < 12:=by omega
          have l0:=lt_of_cell c
          have l1:=lt_of_cell c3
          go_wp2_with (at_builtin; refine wpList_app _ rfl _ _ 88 rfl x.heap.size 87 i1 (.agg #[.int .i64 0,.int .i64 0,.int .i64 0,.int .i64 0]) 4 32 Try.underlying88 hi1 hz01 hz11 hz21 rfl (by decide) _ _ (opCells (mOps (1000 * (q : Int)) (l.take e))) rfl (HR.out.1.alloc _) (some ⟨wr.heap.size,0,none⟩) 1 1 rfl (fun h=>by cases h) (Nat.le_refl _) [.int .i64 3,.int .i64 (1000 * (q : Int) + V),.int .i64 (x0 % 4 + 1),.int .i64 0] (by simp) (cells_new _ _ _) (by simp [Value.oneCell']) (by unfold maxLen; omega) (by omega) (by have:=HR.out.2.size; simp; omega) ?_)
          intro v' w2 h1 k1 _ _ _
          have HO2 : Hid (w2.ownsRow x.heap.size 87 4 v' (e + 1) (opCells (mOps (1000 * (q : Int)) (l.take (e + 1))))∧Kept (fun _=>False) x w2):=Lib.hid ⟨by
            rw [hl.out,mOps_snoc,opCells_snoc,← HV.out]
            exact h1,(HR.out.2.trans (Kept.alloc _ _)).later k1 fun b hb=>(HR.out.1.lt b hb).1⟩
          clear h1 k1 c c3
          obtain ⟨vA',vc',rfl⟩:=own_slice HO2.out.1
          go_wp2
          go_roundw
          case rel=>exact ⟨e + 1,by omega,by go_num,⟨V + (x0 % 4 + 1),by rw [Int.add_assoc],by omega,Lib.hid (by rw [hl.out,mSum_snoc,HV.out])⟩,HO2⟩
          case measure=>simp [intOf]; omega
        · obtain rfl : e = m:=by omega
          have hops : s.ops q = mOps (1000 * (q : Int)) (l.take e):=by
            unfold Rn.ops
            rw [if_pos (by rw [← HTT.out]; exact hlt),HLL.out.1,List.take_of_length_le (by rw [HLL.out.2.1]; omega)]
          have hlen : (s.ops q).length = e:=by rw [hops,mOps_len,List.length_take,HLL.out.2.1]; omega
          have HOW : Hid (Kept (fun _=>False) x wr∧wr.ownsRow x.heap.size 87 4 (.slice vA2 e vc2) (s.ops q).length (opCells (s.ops q))):=Lib.hid ⟨HR.out.2,by rw [hlen,hops]; exact HR.out.1⟩
          clear hops hlen hby HLL
          by_cases h12 : e < R
          · have e1 : (e : Int) < R:=by omega
            have e2 : decide ((e : Int) < 12) = false:=decide_eq_false (by have:=HM3.out h12; omega)
            go_wp2_with (at_builtin; refine wpList_app _ rfl _ _ 23 rfl w.heap.size 88 i2 (.slice none 0 0) 1 24 Try.underlying23 hi2 hz02 hz12 hz22 rfl (by decide) _ _ ((List.range q).map rows) rfl ((own_kept HC.out.1.t HOW.out.1 (fun _ _ z=>z)).alloc _) (some ⟨wr.heap.size,0,none⟩) 1 1 rfl (fun h=>by cases h) (Nat.le_refl _) [.slice vA2 e vc2] (by simp) (cells_new _ _ _) (by simp [Value.oneCell']) (by unfold maxLen; omega) (by omega) (by have:=HC.out.2.size; have:=HOW.out.1.size; simp; omega) ?_)
            intro v' w2 h2 k2 _ _ _
            obtain ⟨tA',tc',rfl⟩:=own_slice h2
            have hS:=HC.out.1.snoc HC.out.2.size HOW.out.1 HOW.out.2 h2 k2
            have hK : Kept (fun _=>False) w w2:=((HC.out.2.trans HOW.out.1).trans (Kept.alloc _ _)).later k2 fun b hb=>(own_lt HC.out.1.t hb).1
            have HSK:=Lib.hid (And.intro hS hK)
            clear h2 k2 hS hK
            go_wp2
            go_roundw
            case rel=>exact ⟨q + 1,_,_,_,by omega,by go_num,rfl,HSK⟩
            case measure=>simp [intOf]; omega
          · have e1 : decide ((e : Int) < R) = false:=decide_eq_false (by omega)
            go_wp2_with (at_builtin; refine wpList_app _ rfl _ _ 23 rfl w.heap.size 88 i2 (.slice none 0 0) 1 24 Try.underlying23 hi2 hz02 hz12 hz22 rfl (by decide) _ _ ((List.range q).map rows) rfl ((own_kept HC.out.1.t HOW.out.1 (fun _ _ z=>z)).alloc _) (some ⟨wr.heap.size,0,none⟩) 1 1 rfl (fun h=>by cases h) (Nat.le_refl _) [.slice vA2 e vc2] (by simp) (cells_new _ _ _) (by simp [Value.oneCell']) (by unfold maxLen; omega) (by omega) (by have:=HC.out.2.size; have:=HOW.out.1.size; simp; omega) ?_)
            intro v' w2 h2 k2 _ _ _
            obtain ⟨tA',tc',rfl⟩:=own_slice h2
            have hS:=HC.out.1.snoc HC.out.2.size HOW.out.1 HOW.out.2 h2 k2
            have hK : Kept (fun _=>False) w w2:=((HC.out.2.trans HOW.out.1).trans (Kept.alloc _ _)).later k2 fun b hb=>(own_lt HC.out.1.t hb).1
            have HSK:=Lib.hid (And.intro hS hK)
            clear h2 k2 hS hK
            go_wp2
            go_roundw
            case rel=>exact ⟨q + 1,_,_,_,by omega,by go_num,rfl,HSK⟩
            case measure=>simp [intOf]; omega
    · obtain rfl : q = T:=by omega
      have HF : Hid (OwnOps s.ops w.heap.size tA tc rows q wr∧Kept (fun _=>False) w wr):=HC
      clear HC
      by_cases h6 : q < ln
      · have e1 : (q : Int) < ln:=by omega
        have e2 : decide ((q : Int) < 6) = false:=decide_eq_false (by have:=HT3.out h6; omega)
        go_wp2
        refine bodyPost_ret (v:=.slice tA q tc) (by simp [results,Try.f13,go_sem]) rfl ?_
        exact ⟨tA,tc,rows,rfl,HF.out.1,HF.out.2⟩
      · have e1 : decide ((q : Int) < ln) = false:=decide_eq_false (by omega)
        go_wp2
        refine bodyPost_ret (v:=.slice tA q tc) (by simp [results,Try.f13,go_sem]) rfl ?_
        exact ⟨tA,tc,rows,rfl,HF.out.1,HF.out.2⟩
theorem run_max0 {P : Program} {w : World} (ts : Array TypeId) (t : TypeId) (k k' : IntKind) (x y : Nat) : (Builtin.max_ ts t #[.int k 0,.int k' ((x : Int) - y)]).run P w = .ok (.int k (x - y : Nat)) w:=by
  rw [run_max_int2]
  congr 2
  by_cases h : (x : Int) - y > 0
  · rw [if_pos h]; omega
  · rw [if_neg h]; omega
attribute [local go_sem high] run_max0
set_option maxHeartbeats 4000000 in
set_option maxRecDepth 100000 in
theorem written_ok (w : World) (n : Nat) (fs : Int) (k : Nat) (vA sA : Option Addr) (N vc S sc : Nat) (vals sta : List Int) (hN : N = vals.length) (hS : S = sta.length) (hv : IntsAt w (.slice vA N vc) vals) (hs : IntsAt w (.slice sA S sc) sta) (hn0 : 0 < n) (hn : n ≤ 16) (hk : k ≤ 64) (hN3 : N ≤ 4096) (hSm : S ≤ sc) (hSc : sc ≤ maxLen)
    (hf0 : 0 ≤ fs) (hf1 : fs ≤ 1099511627776) (hSl : S = 2 + k + 2 * n)
    (hst : ∀ i : Nat,i < N → N - n ≤ i → sta.getD (2 + k + ((fs + i) % n).toNat) 0 = 2 * ((fs + i) / n)∧sta.getD (2 + k + n + ((fs + i) % n).toNat) 0 = vals.getD i 0) :
    Calls Try.prog 15 #[.int .i64 n,.int .i64 fs,.int .i64 k,.slice vA N vc,.slice sA S sc] w fun e w'=>e = .returned (.bool true)∧Kept (fun _=>False) w w':=by
  obtain ⟨sb,so,rfl,hsc⟩:=hs.fix (by omega)
  have HV:=Lib.hid hv
  have HS:=Lib.hid hsc
  have HST:=Lib.hid hst
  have HN:=Lib.hid hN
  unfold maxLen at hSc
  clear hv hs hsc hst hN hS
  have t1 : ((S : Int) != 2 + (k : Int) + 2 * n) = false:=by simp; omega
  have s1 : 0 ≤ 2 + (k : Int):=by omega
  have s2 : 2 + (k : Int) ≤ 2 + (k : Int) + n:=by omega
  have s3 : 2 + (k : Int) + n ≤ S:=by omega
  have s4 : (S : Int) ≤ sc:=by omega
  have s5 : ¬ sc = 2 + k + n:=by omega
  have s6 : ¬ sc = 2 + k:=by omega
  have HSL:=Lib.hid hSl
  clear hSl
  go_enter Try.func15,Try.ntmps15
  go_wp2_with fail
  obtain ⟨i0,hi0⟩ : ∃ i0,i0 = N - n:=⟨_,rfl⟩
  rw [← hi0]
  have hi0' : N ≤ i0 + n∧i0 ≤ N∧∀ j,i0 ≤ j → N - n ≤ j:=⟨by omega,by omega,fun j h=>by omega⟩
  have HI:=Lib.hid hi0'.2.2
  obtain ⟨hi1,hi2,_⟩:=hi0'
  clear hi0 t1 s1 s2 s3 s4 s5 s6
  have z1 : 2 + k + n - (2 + k) = n:=by omega
  have z2 : S - (2 + k + n) = n:=by have:=HSL.out; omega
  try simp only [z1,z2]
  clear z1 z2
  go_loopw [13] (fun i wr=>∃ j : Nat,(i0 ≤ j∧j ≤ N)∧i = .int .i64 j∧Hid (Kept (fun _=>False) w wr)) (fun i _=>N - (intOf i).toNat)
  case atStart=>exact ⟨i0,by omega,rfl,Lib.hid (Kept.refl _ _)⟩
  case round =>
    obtain ⟨j,⟨hj1,hj2⟩,rfl,HR⟩:=hrel
    by_cases hlt : j < N
    · obtain ⟨vb,vo,rfl,hc⟩:=HV.out.fix (by omega)
      have c:=hc j hlt
      obtain ⟨h1,h2⟩:=HST.out j hlt (HI.out j hj1)
      clear hc
      obtain ⟨sl,hsl⟩ : ∃ sl : Nat,sl = ((fs + j) % n).toNat:=⟨_,rfl⟩
      have hq0:=Int.emod_nonneg (fs + j) (show (n : Int) ≠ 0 by omega)
      have hq1:=Int.emod_lt_of_pos (fs + j) (show (0 : Int) < n by omega)
      have hsln : sl < n:=by omega
      have hem : (fs + j) % (n : Int) = sl:=by omega
      rw [← hsl] at h1 h2
      have st1:=HS.out (2 + k + sl) (by have:=HSL.out; omega)
      have st2:=HS.out (2 + k + n + sl) (by have:=HSL.out; omega)
      rw [h1] at st1
      rw [h2] at st2
      obtain ⟨d,hd⟩ : ∃ d,d = (fs + j) / (n : Int):=⟨_,rfl⟩
      have hd0 : 0 ≤ (fs + j) / (n : Int):=Int.ediv_nonneg (by omega) (by omega)
      have hd1 : (fs + j) / (n : Int) ≤ fs + j:=Int.ediv_le_self _ (by omega)
      have hqm : Int.tmod (fs + j) n = (sl : Int):=by rw [Int.tmod_eq_emod_of_nonneg (by omega),hem]
      have hqd : Int.tdiv (fs + j) n = d:=by rw [Int.tdiv_eq_ediv_of_nonneg (by omega),hd]
      have hz : ((n : Int) == 0) = false:=by simp; omega
      rw [← hd] at st1 hd0 hd1
      clear h1 h2 hq0 hq1 hsl hem hd
      have hsl0 : (0 : Int) ≤ sl:=by omega
      have hsl1 : (sl : Int) < n:=by omega
      have cell : ∀ {b o : Nat} {v : Value},w.cell? ⟨b,o,none⟩ = some v → wr.cell? ⟨b,o,none⟩ = some v:=fun h=>(World.cell?_of_block (w:=w) (HR.out.block _ (lt_of_cell h) id)).trans h
      have c:=cell c
      have st1:=cell st1
      have st2:=cell st2
      clear cell
      have u1 : so + (2 + k) + sl = so + (2 + k + sl):=by omega
      have u2 : so + (2 + k + n) + sl = so + (2 + k + n + sl):=by omega
      rw [← u1] at st1
      rw [← u2] at st2
      clear u1 u2
      have v1 : ((2 * d : Int) != 2 * d) = false:=by simp
      generalize vals.getD j 0 = x at c st2
      have v2 : (x != x) = false:=by simp
      have b0 : (0 : Int) ≤ j:=by omega
      have b1 : (j : Int) < N:=by omega
      go_wp2
      go_quiet (fail)
      go_wp2
      go_roundw
      case rel=>exact ⟨j + 1,by omega,by go_num,Lib.hid (HR.out.trans (Kept.drewN _ _ _))⟩
      case measure=>simp [intOf]; omega
    · have b1 : decide ((j : Int) < N) = false:=decide_eq_false (by omega)
      go_wp2
      refine bodyPost_ret (v:=.bool true) (by simp [results,Try.f15,go_sem]) rfl ?_
      exact ⟨rfl,HR.out⟩
set_option maxHeartbeats 4000000 in
set_option maxRecDepth 100000 in
theorem held_ok (w : World) (sz : Nat) (bA : Option Addr) (L bc : Nat) (xs : List Int) (cur : Int) (hL : L = xs.length) (hx : IntsAt w (.slice bA L bc) xs) (hm : L ≤ maxLen) (hsz : sz ≤ 16) (hb : ∀ i,2 ≤ i → i < L → cur ≤ xs.getD i 0 + sz∧-1 ≤ xs.getD i 0∧xs.getD i 0 ≤ 2199023255552) :
    Calls Try.prog 16 #[.int .i64 sz,.slice bA L bc,.int .i64 cur] w fun e w'=>e = .returned (.bool true)∧Kept (fun _=>False) w w':=by
  have HX:=Lib.hid hx
  have HB:=Lib.hid hb
  unfold maxLen at hm
  clear hx hb hL
  go_enter Try.func16,Try.ntmps16
  go_wp2_with fail
  go_loopw [7] (fun i wr=>∃ j : Nat,(2 ≤ j∧(j ≤ L ∨ j = 2))∧i = .int .i64 j∧wr = w) (fun i _=>L + 2 - (intOf i).toNat)
  case atStart=>exact ⟨2,by omega,rfl,rfl⟩
  case round =>
    obtain ⟨j,⟨hj,hj2⟩,rfl,rfl⟩:=hrel
    by_cases hlt : j < L
    · obtain ⟨ab,ao,rfl,hc⟩:=HX.out.fix (by omega)
      have c:=hc j hlt
      obtain ⟨h1,h2,h3⟩:=HB.out j hj hlt
      clear hc
      generalize xs.getD j 0 = x at *
      have b0 : (0 : Int) ≤ j:=by omega
      have b1 : (j : Int) < L:=by omega
      have t1 : decide (x + (sz : Int) < cur) = false:=decide_eq_false (by omega)
      go_wp2
      go_roundw
      case rel=>exact ⟨j + 1,by omega,by go_num,by trivial⟩
      case measure=>simp [intOf]; omega
    · have b1 : decide ((j : Int) < L) = false:=decide_eq_false (by omega)
      go_wp2
      refine bodyPost_ret (v:=.bool true) (by simp [results,Try.f16,go_sem]) rfl ?_
      exact ⟨rfl,Kept.refl _ _⟩
theorem kpt_cell {W w w' : World} (h : Kpt W w w') : ∀ b o v,b < W.heap.size → w.cell? ⟨b,o,none⟩ = some v → w'.cell? ⟨b,o,none⟩ = some v:=fun b o v hb hc=>by
  cases ho : w.heap[b]? with
  | none=>unfold World.cell? at hc; simp [ho] at hc
  | some x =>
    cases x with
    | cells cs t r=>exact (World.cell?_of_block (w:=w) (a:=⟨b,o,none⟩) ((h.near b cs t r (.inl hb) ho).trans ho.symm)).trans hc
    | _=>unfold World.cell? at hc; simp [ho] at hc
theorem nums_own {w : World} {B L c : Nat} {A : Option Addr} {xs : List Int} (h : w.ownsRow B 2 1 (.slice A L c) L (xs.map (Value.int .i64))) (hL : L = xs.length) : NumsIn w A c xs:=by
  have hm:=own_max h
  rcases id h.2 with ⟨e,h0⟩ | ⟨g,cap,cur,e,_,hh,h1,h2,_⟩
  · cases e
    exact ⟨by omega,by unfold maxLen; omega,fun i hi=>by omega⟩
  · cases e
    refine ⟨by omega,h2,fun i hi=>⟨g,0,rfl,?_⟩⟩
    rw [Nat.zero_add,h.cellAt (g:=g) i (by omega),List.getElem?_map,List.getElem?_eq_getElem hi,List.getD_eq_getElem?_getD,List.getElem?_eq_getElem hi]
    rfl
theorem row_cap2 {w : World} {B n c : Nat} {e : TypeId} {size : Nat} {A : Option Addr} {xs : List Value} (h : w.ownsRow B e size (.slice A n c) n xs) : n ≤ c∧c ≤ maxLen:=by
  rcases h.2 with ⟨z,h0⟩ | ⟨g,cap,cur,z,_,_,h1,h2,_⟩
  · cases z; exact ⟨by omega,by unfold maxLen; omega⟩
  · cases z; exact ⟨h1,h2⟩
structure RuAt (s : Rn) (W : World) (B0 : Nat) (bA : Option Addr) (bc : Nat) (B1 : Nat) (tA : Option Addr) (tc : Nat) (rows : Nat → Value) (w : World) : Prop where
  io : w.os = W.os∧w.output = W.output
  size : W.heap.size ≤ w.heap.size
  b : w.ownsRow B0 2 1 (.slice bA s.start.length bc) s.start.length (s.start.map (Value.int .i64))
  o : OwnOps s.ops B1 tA tc rows s.T w
theorem stateM_len (n k : Nat) (S : MSt) : (stateM n k S).length = 2 + k + 2 * n:=by
  simp [stateM,numL,rowN]; omega
theorem stateM_0 (n k : Nat) (S : MSt) : (stateM n k S).getD 0 0 = S.cursor:=rfl
theorem stateM_st (n k : Nat) (S : MSt) (j : Nat) (hj : j < n) : (stateM n k S).getD (2 + k + j) 0 = S.st j:=by
  unfold stateM
  rw [List.getD_eq_getElem?_getD,List.getElem?_append_left (by simp [numL,rowN]; omega),List.getElem?_append_right (by simp [numL]; omega)]
  simp only [List.length_append,List.length_cons,List.length_nil,numL,rowN,List.length_map,List.length_range]
  rw [show 2 + k + j - (0 + 1 + 1 + k) = j by omega]
  simp [hj]
theorem stateM_va (n k : Nat) (S : MSt) (j : Nat) (hj : j < n) : (stateM n k S).getD (2 + k + n + j) 0 = S.va j:=by
  unfold stateM
  rw [List.getD_eq_getElem?_getD,List.getElem?_append_right (by simp [numL,rowN]; omega)]
  simp only [List.length_append,List.length_cons,List.length_nil,numL,rowN,List.length_map,List.length_range]
  rw [show 2 + k + n + j - (0 + 1 + 1 + k + n) = j by omega]
  simp [hj]
set_option maxHeartbeats 4000000 in
set_option maxRecDepth 100000 in
theorem runs_true (W : World) (s : Rn) (hs : s.At W W) : (lgA Try.tame (PostT (.bool true) W) W).T () (Frame.enter Try.prog 4 #[.int .u8 s.lg,.int .i64 s.f0,.slice s.dA s.ds.length s.dc,.slice s.lA s.ln s.lc,.slice s.sA s.xs.length s.sc] .normal) [] (seen0 W):=by
  have hs0 : s.At W (seen0 W):=hs.keep fun b o v _ h=>by rw [seen0_cell]; exact h
  have hst : ¬ (lgA Try.tame (PostT (.bool true) W) W).strict:=fun h=>h
  have hsz : (seen0 W).heap.size = W.heap.size:=seen0_size W
  have hio : (seen0 W).os = W.os∧(seen0 W).output = W.output:=seen0_io W
  have hz0 : 0 ≤ s.lg:=hs.lg.1
  generalize seen0 W = x at hs0 hsz hio ⊢
  clear hs
  rw [show Frame.enter Try.prog 4 #[.int .u8 s.lg,.int .i64 s.f0,.slice s.dA s.ds.length s.dc,.slice s.lA s.ln s.lc,.slice s.sA s.xs.length s.sc] .normal = Frame.at { (default : Frame) with fn:=4,kind:=.normal } ⟨#[.int .u8 s.lg,.int .i64 s.f0,.slice s.dA s.ds.length s.dc,.slice s.lA s.ln s.lc,.slice s.sA s.xs.length s.sc] ++ Array.replicate (Try.f4.ntmps - 5) undef,[]⟩ [.code (Try.f4.body.getD .skip)] from by simp [Frame.enter,Frame.at,Try.func4]; rfl]
  simp only [Try.f4,Option.getD_some,Nat.reduceSub,Array.replicate_succ,Array.replicate_zero,List.push_toArray,List.append_toArray,List.nil_append,List.cons_append]
  refine Lg.move _ (fun _ _=>step_seq) (fun h=>h) ?_
  refine Lg.code fun K hK y τ n' hy=>?_
  subst hy
  have hs1 : s.At W y:=hs0.keep fun _ _ _ _ h=>h
  have hsz : y.heap.size = W.heap.size:=hsz
  have hio : y.os = W.os∧y.output = W.output:=hio
  have HS:=Lib.hid hs1
  clear hs0 hs1
  go_wp2
  refine hK _ _ (fun h=>absurd h hst) ?_
  clear hK K
  refine Lg.move _ (fun _ _=>step_seq) (fun h=>h) ?_
  refine Lg.move _ (fun _ _=>step_seq) (fun h=>h) ?_
  refine Lg.move _ (fun _ _=>step_region) (fun h=>h) ?_
  refine Lg.call (i:=0) (rest:=[1]) (f:=8) (args:=#[]) rfl rfl (fun y=>by go_simp) (awake_true Try.tame (PostT (.bool true) W) W y (by omega)) ?_
  rintro vv t' w1 ⟨rfl,hk⟩
  have hb : s.At W w1∧(w1.os = W.os∧w1.output = W.output)∧W.heap.size ≤ w1.heap.size:=⟨HS.out.keep (kpt_cell hk),⟨hk.io.1.trans hio.1,hk.io.2.trans hio.2⟩,by have:=hk.size; omega⟩
  clear hk hio hsz HS
  rw [Frame.finish_at]
  walk_nrm
  refine (show (lgA Try.tame (PostT (.bool true) W) W).T _ (Frame.at _ ⟨_,[]⟩ (.inRegion _ (List.range' 1 (1 + 0)) :: _)) [] w1 from ?_)
  refine Lg.pre 1 1 0 (by simp) fun K hK q τ n' hq=>?_
  subst hq
  have hb : s.At W q∧(q.os = W.os∧q.output = W.output)∧W.heap.size ≤ q.heap.size:=⟨hb.1.keep fun _ _ _ _ h=>h,hb.2⟩
  have HB:=Lib.hid hb
  clear hb
  simp only [List.drop_succ_cons,List.drop_zero,List.take_succ_cons,List.take_zero]
  go_wp2
  refine hK _ _ (fun h=>absurd h hst) ?_
  clear hK K
  refine Lg.move _ (fun _ _=>step_region_end) (fun h=>h) ?_
  refine Lg.move _ (fun _ _=>step_cond (t:=false) rfl) (fun h=>h) ?_
  refine Lg.move _ (fun _ _=>step_skip) (fun h=>h) ?_
  refine Lg.move _ (fun _ _=>step_seq) (fun h=>h) ?_
  refine Lg.code fun K hK y τ n' hy=>?_
  subst hy
  have hb : s.At W y∧(y.os = W.os∧y.output = W.output)∧W.heap.size ≤ y.heap.size:=⟨HB.out.1.keep fun _ _ _ _ h=>h,HB.out.2⟩
  clear HB
  have HB:=Lib.hid hb
  clear hb
  go_wp2_with fail
  refine (start_ok s W y HB.out.2.2 HB.out.1).mono ?_
  rintro e w2 ⟨vb,rfl,hrow,hk2⟩
  obtain ⟨bA,bc,rfl⟩:=own_slice hrow
  have hb : s.At W w2∧(w2.os = W.os∧w2.output = W.output)∧W.heap.size ≤ w2.heap.size∧w2.ownsRow y.heap.size 2 1 (.slice bA s.start.length bc) s.start.length (s.start.map (Value.int .i64))∧y.heap.size ≤ w2.heap.size:=
    ⟨HB.out.1.keep (cells_kept HB.out.2.2 hk2),⟨hk2.os.trans HB.out.2.1.1,hk2.output.trans HB.out.2.1.2⟩,Nat.le_trans HB.out.2.2 hk2.size,hrow,hk2.size⟩
  clear HB hrow hk2
  have HB:=Lib.hid hb
  clear hb
  generalize y.heap.size = B0 at HB
  go_wp2
  refine hK _ _ (fun h=>absurd h hst) ?_
  clear hK K
  refine Lg.move _ (fun _ _=>step_seq) (fun h=>h) ?_
  refine Lg.code fun K hK y2 τ n' hy=>?_
  subst hy
  have hb : s.At W y2∧(y2.os = W.os∧y2.output = W.output)∧W.heap.size ≤ y2.heap.size∧y2.ownsRow B0 2 1 (.slice bA s.start.length bc) s.start.length (s.start.map (Value.int .i64))∧B0 ≤ y2.heap.size:=⟨HB.out.1.keep fun _ _ _ _ h=>h,HB.out.2.1,HB.out.2.2.1,own_near HB.out.2.2.2.1 (fun _ _ _ h=>h),HB.out.2.2.2.2⟩
  clear HB
  have HB:=Lib.hid hb
  clear hb
  go_wp2_with fail
  refine (offers_ok s W y2 HB.out.2.2.1 HB.out.1).mono ?_
  rintro e w3 ⟨tA,tc,rows,rfl,hC,hk3⟩
  have hb : s.At W w3∧RuAt s W B0 bA bc y2.heap.size tA tc rows w3:=
    ⟨HB.out.1.keep (cells_kept HB.out.2.2.1 hk3),⟨hk3.os.trans HB.out.2.1.1,hk3.output.trans HB.out.2.1.2⟩,Nat.le_trans HB.out.2.2.1 hk3.size,own_kept HB.out.2.2.2.1 hk3 (fun _ _ z=>z),hC⟩
  clear HB hC hk3
  have HB:=Lib.hid hb
  clear hb
  generalize y2.heap.size = B1 at HB
  go_wp2
  refine hK _ _ (fun h=>absurd h hst) ?_
  clear hK K
  refine Lg.move _ (fun _ _=>step_seq) (fun h=>h) ?_
  refine Lg.move _ (fun _ _=>step_region) (fun h=>h) ?_
  refine Lg.pre 0 3 3 (by simp) fun K hK q τ n' hq=>?_
  subst hq
  have hb : s.At W q∧RuAt s W B0 bA bc B1 tA tc rows q:=⟨HB.out.1.keep fun _ _ _ _ h=>h,HB.out.2.io,HB.out.2.size,own_near HB.out.2.b (fun _ _ _ h=>h),HB.out.2.o.near fun _ _ _ h=>h⟩
  clear HB
  have HB:=Lib.hid hb
  clear hb
  simp only [List.drop_zero,List.take_succ_cons,List.take_zero]
  go_wp2
  refine hK _ _ (fun h=>absurd h hst) ?_
  clear hK K
  have hT6 : s.T ≤ 6:=by unfold Rn.T; omega
  obtain ⟨Tb,hTb,hrows⟩ : ∃ Tb,(0 < s.T → tA = some ⟨Tb,0,none⟩)∧RowsAt q Tb 0 s.T (fun i=>vAd (rows i)) (fun i=>(s.ops i).length) (fun i=>vCap (rows i)):=by
    by_cases h : 0 < s.T
    · obtain ⟨Tb,h1,h2⟩:=HB.out.2.o.rowsAt h
      exact ⟨Tb,fun _=>h1,h2⟩
    · exact ⟨0,fun z=>absurd z h,⟨fun i hi=>by omega,fun i hi=>by omega,fun i hi=>by omega,fun i hi=>by omega⟩⟩
  have hsi:=s.n_le hz0
  have hfs:=s.fs_le
  have hn64 : min s.T 64 = s.T:=by omega
  have hkO : kO s.start = min s.ds.length 6:=by unfold kO; rw [s.start_len]; omega
  have hplay:=multi_play Try.tame (PostT (.bool true) W) W s.n s.start bA bc rfl hsi.1 (by omega) (s.bits hz0) hfs.1 (by show s.fs < _; omega) (by rw [s.start_len]; omega)
    tA Tb 0 s.T tc hTb (by unfold maxLen; omega) (fun i=>vAd (rows i)) (fun i=>(s.ops i).length) (fun i=>vCap (rows i)) s.ops (.slice s.sA s.xs.length s.sc) s.xs 1048576 q
    HB.out.2.size (nums_own HB.out.2.b rfl) (by rw [hn64]; exact hrows) (by rw [hn64]; exact HB.out.2.o.opsCells (fun i hi o ho=>by obtain ⟨_,h1,h2,h3,h4⟩:=s.ops_ok i hi o ho; unfold SG; omega) fun i _=>s.ops_len i) (HB.out.1.schi _)
    (multi_sound _ _ _ _ _ _ (by show -1 ≤ s.fs - 1; omega) (by show s.fs - 1 < _; omega))
  rw [hn64] at hplay
  refine Lg.call (i:=3) (rest:=[4,5]) (f:=10) (args:=#[.slice bA s.start.length bc,.slice tA s.T tc,.slice s.sA s.xs.length s.sc,.int .i64 1048576]) rfl rfl (fun y=>by go_simp) hplay ?_
  rintro vv t' w4 hdone
  clear hplay hrows
  obtain ⟨hleft,g,hI,hp⟩:=multi_runs (s.par hz0) s.xs
  have hheld : (heldI 1048576 1048576).toNat = 1048576:=by decide
  rw [hheld,hkO] at hdone
  obtain ⟨R,hR⟩ : ∃ R : Run MSS,R = playRun (brQ (doM (M0 s.n (firstO s.start)) (min s.ds.length 6)) s.ops) s.T 1048576 s.xs (s0O s.start,fun _=>[]):=⟨_,rfl⟩
  have hR2 : playRun (brQ (doM (M0 (s.par hz0).n (s.par hz0).fs) (s.par hz0).k) (s.par hz0).ops) (s.par hz0).T 1048576 s.xs ((s.par hz0).S0,fun _=>[]) = R:=by rw [hR]; rfl
  rw [hR2] at hleft hI hp
  rw [← hR] at hdone
  have hleft : R.m.left s.T = 0:=hleft
  have hLd : LaidOk s.fs s.T (R.m.s.1.cursor - s.fs + 1).toNat s.ops R.m.s.2 (fun e=>g.who (s.fs + e)) (fun e=>g.val (s.fs + e)):=laidOk_of (s.par hz0) hI hp
  have hfr:=free_of (s.par hz0) hI hp
  have hc0 : s.fs - 1 ≤ R.m.s.1.cursor:=hI.c0
  have hc1 : R.m.s.1.cursor + sumB g.rem s.T ≤ s.fs - 1 + sumB (fun i=>bsum (s.ops i)) s.T:=hI.c1
  have htp : R.m.s.1.cursor ≤ s.fs - 1 + 288:=by have h1:=hI.top; have h2:=(s.par hz0).top_le; exact Int.le_trans h1 h2
  obtain ⟨N,hN⟩ : ∃ N,N = (R.m.s.1.cursor - s.fs + 1).toNat:=⟨_,rfl⟩
  rw [← hN] at hLd
  have hcur : R.m.s.1.cursor = s.fs - 1 + N:=by omega
  have hNle : N ≤ sumB (fun i=>bsum (s.ops i)) s.T:=by omega
  have hN3 : N ≤ 4096:=by omega
  obtain ⟨ab,ov,tv,H,hab,rfl,hov,htv,hans,hH1,hH2⟩:=hdone.ex
  rw [hleft,show decide (0 < 0) = false from rfl]
  obtain ⟨oA,oc,rfl⟩:=own_slice hov
  obtain ⟨zA,zc,rfl⟩:=own_slice htv
  have htr : TraceAt w4 s.T R.m.s.2 R.order (stateM s.n (min s.ds.length 6) R.m.s.1) (some ⟨ab,0,none⟩) s.T (.slice oA R.order.length oc) (.slice zA (stateM s.n (min s.ds.length 6) R.m.s.1).length zc):=hans.trace hov htv
  have hth : ThreadsAt w4 tA s.T s.ops:=(HB.out.2.o.near fun b c t h=>hdone.near b c t (0,0) (.inr (by decide)) h).threads
  have hbn : w4.ownsRow B0 2 1 (.slice bA s.start.length bc) s.start.length (s.start.map (Value.int .i64)):=own_near HB.out.2.b fun b c t h=>hdone.near b c t (0,0) (.inr (by decide)) h
  have hfin : w4.os = W.os∧w4.output = W.output:=⟨hdone.io.1.trans HB.out.2.io.1,hdone.io.2.trans HB.out.2.io.2⟩
  have hwr : ∀ i : Nat,i < N → N - s.n ≤ i → (stateM s.n (min s.ds.length 6) R.m.s.1).getD (2 + min s.ds.length 6 + ((s.fs + i) % s.n).toNat) 0 = 2 * ((s.fs + i) / s.n)∧(stateM s.n (min s.ds.length 6) R.m.s.1).getD (2 + min s.ds.length 6 + s.n + ((s.fs + i) % s.n).toNat) 0 = ((List.range N).map fun (e : Nat)=>g.val (s.fs + e)).getD i 0:=fun i hi1 hi2=>by
    have hm1:=Int.emod_lt_of_pos (s.fs + i) (show (0 : Int) < s.n by omega)
    have hm0:=Int.emod_nonneg (s.fs + i) (show (s.n : Int) ≠ 0 by omega)
    have hw : R.m.s.1.st (((s.fs + i) % (s.n : Int)).toNat) = 2 * ((s.fs + i) / (s.n : Int))∧R.m.s.1.va (((s.fs + i) % (s.n : Int)).toNat) = g.val (s.fs + i):=hI.wr (s.fs + i) (show s.fs ≤ s.fs + i by omega) (by omega) (show R.m.s.1.cursor - s.n < s.fs + i by omega) (hfr _)
    rw [stateM_st _ _ _ _ (by omega),stateM_va _ _ _ _ (by omega),hw.1,hw.2]
    refine ⟨rfl,?_⟩
    rw [List.getD_eq_getElem?_getD,List.getElem?_map,List.getElem?_range hi1]
    rfl
  have hhe : ∀ i,2 ≤ i → i < s.start.length → R.m.s.1.cursor ≤ s.start.getD i 0 + s.n∧-1 ≤ s.start.getD i 0∧s.start.getD i 0 ≤ 2199023255552:=fun i h1 h2=>by
    obtain ⟨j,rfl⟩ : ∃ j,i = 2 + j:=⟨i - 2,by omega⟩
    have hj : j < min s.ds.length 6:=by rw [s.start_len] at h2; omega
    have h3 : R.m.s.1.cursor ≤ s.start.getD (2 + j) 0 + s.n:=hI.he j hj
    refine ⟨h3,?_⟩
    rw [s.start_get j hj]
    omega
  have hS0 : (stateM s.n (min s.ds.length 6) R.m.s.1).getD 0 0 = s.fs - 1 + N:=by rw [stateM_0]; exact hcur
  have hSn : (stateM s.n (min s.ds.length 6) R.m.s.1).length = 2 + min s.ds.length 6 + 2 * s.n:=stateM_len _ _ _
  have hzc : (stateM s.n (min s.ds.length 6) R.m.s.1).length ≤ zc∧zc ≤ maxLen:=row_cap2 htv
  clear htv
  rw [hcur] at hhe
  generalize stateM s.n (min s.ds.length 6) R.m.s.1 = sta at htr hwr hS0 hSn hzc ⊢
  have HZ:=Lib.hid (And.intro hS0 (And.intro hSn hzc))
  have HX:=Lib.hid (And.intro htr (And.intro hth (And.intro hbn (And.intro hfin (And.intro hLd (And.intro hNle (And.intro hwr hhe)))))))
  have hsl : s.start.length = 2 + min s.ds.length 6:=s.start_len
  have HSL:=Lib.hid hsl
  clear htr hth hbn hfin hLd hNle hwr hhe hS0 hSn hzc hcur hfr hc0 hc1 htp hN hdone hov hans hH1 hH2 hab HB hI hp hleft hR hR2 hsl hTb hkO hheld hn64
  rw [Frame.finish_at]
  walk_nrm
  refine (show (lgA Try.tame (PostT (.bool true) W) W).T _ (Frame.at _ ⟨_,[]⟩ (.inRegion _ (List.range' 4 (2 + 0)) :: _)) [] w4 from ?_)
  refine Lg.pre 4 2 0 (by simp) fun K hK q2 τ2 n2 hq=>?_
  subst hq
  simp only [List.drop_succ_cons,List.drop_zero,List.take_succ_cons,List.take_zero]
  go_wp2
  refine hK _ _ (fun h=>absurd h hst) ?_
  clear hK K
  have hbz : TraceAt (q2.alloc (.cells #[.slice (some ⟨ab,0,none⟩) s.T s.T,.slice oA R.order.length oc,.slice zA sta.length zc,.bool false] 29)) s.T R.m.s.2 R.order sta (some ⟨ab,0,none⟩) s.T (.slice oA R.order.length oc) (.slice zA sta.length zc) ∧
      ThreadsAt (q2.alloc (.cells #[.slice (some ⟨ab,0,none⟩) s.T s.T,.slice oA R.order.length oc,.slice zA sta.length zc,.bool false] 29)) tA s.T s.ops ∧
      (q2.alloc (.cells #[.slice (some ⟨ab,0,none⟩) s.T s.T,.slice oA R.order.length oc,.slice zA sta.length zc,.bool false] 29)).ownsRow B0 2 1 (.slice bA s.start.length bc) s.start.length (s.start.map (Value.int .i64)) ∧
      ((q2.alloc (.cells #[.slice (some ⟨ab,0,none⟩) s.T s.T,.slice oA R.order.length oc,.slice zA sta.length zc,.bool false] 29)).os = W.os∧(q2.alloc (.cells #[.slice (some ⟨ab,0,none⟩) s.T s.T,.slice oA R.order.length oc,.slice zA sta.length zc,.bool false] 29)).output = W.output) ∧
      Blk (q2.alloc (.cells #[.slice (some ⟨ab,0,none⟩) s.T s.T,.slice oA R.order.length oc,.slice zA sta.length zc,.bool false] 29)) q2.heap.size 29 #[.slice (some ⟨ab,0,none⟩) s.T s.T,.slice oA R.order.length oc,.slice zA sta.length zc,.bool false]:=by
    have h1 : TraceAt q2 s.T R.m.s.2 R.order sta (some ⟨ab,0,none⟩) s.T (.slice oA R.order.length oc) (.slice zA sta.length zc):=⟨HX.out.1.ord,HX.out.1.sta,HX.out.1.row⟩
    have h2 : ThreadsAt q2 tA s.T s.ops:=HX.out.2.1
    have h3 : q2.ownsRow B0 2 1 (.slice bA s.start.length bc) s.start.length (s.start.map (Value.int .i64)):=own_near HX.out.2.2.1 (fun _ _ _ h=>h)
    exact ⟨h1.below (Kept.alloc (S:=fun _=>False) _ _).bel,h2.below (Kept.alloc (S:=fun _=>False) _ _).bel,h3.alloc _,HX.out.2.2.2.1,Blk.new _ _ _⟩
  have HF:=Lib.hid HX.out.2.2.2.2
  clear HX
  generalize q2.alloc _ = z2 at hbz ⊢
  generalize q2.heap.size = tb at hbz ⊢
  refine Lg.move _ (fun _ _=>step_region_end) (fun h=>h) ?_
  refine lgA_rest Try.tame rfl Try.func4 (by kernel_rfl) (fun tm w v h w'=>?_) fun u τ3 n3 hu=>?_
  · simp [results,Try.f4] at h ⊢
    exact h
  subst hu
  have hbz : TraceAt u s.T R.m.s.2 R.order sta (some ⟨ab,0,none⟩) s.T (.slice oA R.order.length oc) (.slice zA sta.length zc)∧ThreadsAt u tA s.T s.ops∧u.ownsRow B0 2 1 (.slice bA s.start.length bc) s.start.length (s.start.map (Value.int .i64))∧(u.os = W.os∧u.output = W.output) ∧
      Blk u tb 29 #[.slice (some ⟨ab,0,none⟩) s.T s.T,.slice oA R.order.length oc,.slice zA sta.length zc,.bool false]:=
    ⟨⟨hbz.1.ord,hbz.1.sta,hbz.1.row⟩,hbz.2.1,own_near hbz.2.2.1 (fun _ _ _ h=>h),hbz.2.2.2.1,hbz.2.2.2.2⟩
  have c0 : u.cell? ⟨tb,0,none⟩ = some (.slice (some ⟨ab,0,none⟩) s.T s.T):=hbz.2.2.2.2.cell 0
  have c1 : u.cell? ⟨tb,1,none⟩ = some (.slice oA R.order.length oc):=hbz.2.2.2.2.cell 1
  have c2 : u.cell? ⟨tb,2,none⟩ = some (.slice zA sta.length zc):=hbz.2.2.2.2.cell 2
  have c3 : u.cell? ⟨tb,3,none⟩ = some (.bool false):=hbz.2.2.2.2.cell 3
  have HU:=Lib.hid hbz
  clear hbz
  go_wp2_with fail
  obtain ⟨hLd,hNle,hwr,hhe⟩:=HF.out
  obtain ⟨hS0,hSn,hzc⟩:=HZ.out
  refine (laid_ok u s.fs tA tc s.T N s.ops R.m.s.2 R.order sta (some ⟨ab,0,none⟩) s.T (.slice oA R.order.length oc) (.slice zA sta.length zc) _ _ hLd hT6 hfs.1 hfs.2 (fun i _=>s.ops_len i) hNle hS0 (by omega) HU.out.2.1 HU.out.1).mono ?_
  rintro e w5 ⟨v,rfl,hiv,hk5⟩
  dsimp only
  have hvl : ((List.range N).map fun (e : Nat)=>g.val (s.fs + e)).length = N:=by simp
  generalize ((List.range N).map fun (e : Nat)=>g.val (s.fs + e)) = vals at hiv hwr hvl
  obtain ⟨vA,vc,rfl,-⟩:=id hiv
  rw [hvl] at hiv ⊢
  have hI5:=HU.out.1.sta.1.below hk5.bel
  have hb5:=own_kept HU.out.2.2.1 hk5 (fun _ _ z=>z)
  have hS5 : IntsAt w5 (.slice bA s.start.length bc) s.start:=IntsAt.of_own hb5
  have hm5:=own_max hb5
  have hbk5:=HU.out.2.2.2.2.kept hk5 id
  have hio5 : w5.os = W.os∧w5.output = W.output:=⟨hk5.os.trans HU.out.2.2.2.1.1,hk5.output.trans HU.out.2.2.2.1.2⟩
  clear c0 c1 c2 c3 hb5 HU HF HZ hLd hNle hk5
  obtain ⟨SS,hSS⟩ : ∃ SS,SS = sta.length:=⟨_,rfl⟩
  obtain ⟨L0,hL0⟩ : ∃ L0,L0 = s.start.length:=⟨_,rfl⟩
  obtain ⟨kk,hkk⟩ : ∃ kk,kk = min s.ds.length 6:=⟨_,rfl⟩
  have hsl:=HSL.out
  rw [← hL0,← hkk] at hsl
  rw [← hkk] at hSn hwr
  rw [← hSS] at hSn hzc hI5 hbk5 ⊢
  rw [← hL0] at hS5 hm5 hhe ⊢
  obtain ⟨zb,zo,rfl,hzz⟩:=hI5.fix (by omega)
  have q0:=hzz 0 (by omega)
  rw [Nat.add_zero,hS0] at q0
  clear hzz
  have c2 : w5.cell? ⟨tb,2,none⟩ = some (.slice (some ⟨zb,zo,none⟩) SS zc):=hbk5.cell 2
  have eK : (L0 : Int) - 2 = kk:=by omega
  have p0 : 0 < SS:=by omega
  have hzc2:=hzc.2
  unfold maxLen at hzc2 hm5
  have p1 : SS ≤ 9223372036854775807:=by omega
  have HQ:=Lib.hid (And.intro hS0 (And.intro hSn (And.intro hwr (And.intro hhe (And.intro hiv (And.intro hI5 (And.intro hS5 (And.intro hio5 (And.intro hbk5 (And.intro hSS (And.intro hvl (And.intro hL0 (And.intro hkk (And.intro hsl hzc))))))))))))))
  have hN4 : N ≤ 4096:=hN3
  have hL8 : L0 ≤ 8:=by omega
  clear hS0 hSn hwr hhe hiv hI5 hS5 hio5 hbk5 hSS hvl hL0 hkk hsl hzc HSL
  go_wp2_with fail
  obtain ⟨hS0,hSn,hwr,hhe,hiv,hI5,hS5,hio5,hbk5,hSS,hvl,hL0,hkk,hsl,hzc⟩:=HQ.out
  refine (written_ok w5 s.n s.fs kk vA (some ⟨zb,zo,none⟩) N vc SS zc vals sta hvl.symm hSS hiv hI5 hsi.1 hsi.2.1 (by omega) hN4 hzc.1 hzc.2 hfs.1 hfs.2 hSn hwr).mono ?_
  rintro e w6 ⟨rfl,hk6⟩
  dsimp only
  have c2 : w6.cell? ⟨tb,2,none⟩ = some (.slice (some ⟨zb,zo,none⟩) SS zc):=(hbk5.kept hk6 id).cell 2
  have q0 : w6.cell? ⟨zb,zo,none⟩ = some (.int .i64 (s.fs - 1 + N)):=(World.cell?_of_block (w:=w5) (a:=⟨zb,zo,none⟩) (hk6.block zb (lt_of_cell q0) id)).trans q0
  have HW:=Lib.hid (And.intro (hS5.below hk6.bel) (And.intro hhe (And.intro hL0 (show w6.os = W.os∧w6.output = W.output from ⟨hk6.os.trans hio5.1,hk6.output.trans hio5.2⟩))))
  clear hS0 hSn hwr hhe hiv hI5 hS5 hio5 hbk5 hSS hvl hL0 hkk hsl hzc HQ hk6
  go_wp2_with fail
  go_simp
  go_wp2_with fail
  refine (held_ok w6 s.n bA L0 bc s.start (s.fs - 1 + N) HW.out.2.2.1 HW.out.1 (by unfold maxLen; omega) hsi.2.1 HW.out.2.1).mono ?_
  rintro e w7 ⟨rfl,hk7⟩
  dsimp only
  have hfin : w7.os = W.os∧w7.output = W.output:=⟨hk7.os.trans HW.out.2.2.2.1,hk7.output.trans HW.out.2.2.2.2⟩
  clear hk7 HW c2 q0 eK p0
  go_wp2
  go_ret
  exact ⟨rfl,hfin⟩
end Go.Proofs.Ytphbolckbfnhaaa
namespace Go.Proofs.Ytphbolckbfnhaaa
open Go.ChangeShapes Go.WideShapes Go.ChangeAt Go.RowKit Go.Deep
theorem spot_none {w : World} {p : Addr} {v : Value} (h : w.cell? p = some v) : p.spot = none∧p.block < w.heap.size:=by
  unfold World.cell? at h
  cases ho : w.heap[p.block]? with
  | none=>rw [ho] at h; cases h
  | some x =>
    have hlt : p.block < w.heap.size:=(Array.getElem?_eq_some_iff.1 ho).1
    rw [ho] at h
    cases x with
    | cells c t r =>
      simp only at h
      split at h
      · cases h
      · rename_i hs
        exact ⟨by simpa using hs,hlt⟩
    | _=>cases h
theorem Try.opCells : Try.prog.cellsOf 87 = 4:=by kernel_rfl
theorem Try.intCells : Try.prog.cellsOf 3 = 1:=by kernel_rfl
section
variable {H : Type} {enc : TypeId × Value → H}
end
end Go.Proofs.Ytphbolckbfnhaaa
namespace Go.Proofs.Ytphbolckbfnhaaa
open Go.ChangeShapes Go.WideShapes Go.ChangeAt Go.RowKit Go.Deep
theorem list_of1 {α : Type} {Q : Nat → α → Prop} (m : Nat) (h : ∀ j,j < m → ∃ x,Q j x) : ∃ l : List α,l.length = m∧∀ j x,l[j]? = some x → Q j x:=by
  induction m with
  | zero=>exact ⟨[],rfl,fun j x hx=>by simp at hx⟩
  | succ m ih =>
    obtain ⟨l,hl,hq⟩:=ih fun j hj=>h j (by omega)
    obtain ⟨y,hy⟩:=h m (by omega)
    refine ⟨l ++ [y],by simp [hl],fun j x hx=>?_⟩
    rcases Nat.lt_or_ge j m with hlt | hge
    · rw [List.getElem?_append_left (by omega)] at hx
      exact hq j x hx
    · have hj : j < (l ++ [y]).length:=(List.getElem?_eq_some_iff.1 hx).1
      have : j = m:=by simp [hl] at hj; omega
      subst this
      rw [List.getElem?_append_right (by omega),hl] at hx
      simp at hx
      subst hx
      exact hy
section
variable {H : Type} {enc : TypeId × Value → H}
set_option maxRecDepth 100000 in
theorem open_kind {W : World} {sp : Nat → Bool} {fuel : Nat} {cs : List Value} {x : DataW H × List MemPlace} {t e : TypeId} {k : IntKind} (ht : Try.prog.underlying t = some (.slice e)) (he : Try.prog.underlying e = some (.int k)) (hc : Try.prog.cellsOf e = 1) (h : DataW.trod enc Try.prog W 0 sp true fuel t cs = some x) :
    ∃ (A : Option Addr) (cap : Nat) (xs : List Int),cs = [.slice A xs.length cap]∧xs.length ≤ cap∧cap ≤ maxLen∧(A = none → cap = 0)∧(∀ i,i < xs.length → ∃ b o,A = some ⟨b,o,none⟩∧b < W.heap.size∧W.cell? ⟨b,o + i,none⟩ = some (.int k (xs.getD i 0)))∧∀ y ∈ xs,(Lit.int k y).wf = true:=by
  rcases open_slice1 ht hc h with ⟨rfl,rfl⟩ | ⟨a,len,cap,m,n,V,D,Pl,rfl,hb,hl,hm,hmm,rfl,hx⟩
  · exact ⟨none,0,[],rfl,Nat.le_refl _,by unfold maxLen; omega,fun _=>rfl,fun i hi=>(by simp at hi),fun y hy=>(by cases hy)⟩
  have hlm : len ≤ m:=by rw [hmm]; split <;> omega
  obtain ⟨xs,hxl,hxs⟩:=list_of1 (α:=Int) (Q:=fun j y=>(Lit.int k y).wf = true∧∃ b o,a = ⟨b,o,none⟩∧b < W.heap.size∧W.cell? ⟨b,o + j,none⟩ = some (.int k y)) len fun j hj=>by
    obtain ⟨c1,c2⟩:=hx j (by omega)
    obtain ⟨y,e0,_,hw⟩:=DataW.trod_int he c2
    simp only [List.cons.injEq,and_true] at e0
    rw [e0] at c1
    have ha : a.spot = none:=by
      obtain ⟨c0,_⟩:=hx 0 (by omega)
      have : W.cell? a = some (V 0):=by simpa [Addr.add] using c0
      exact (spot_none this).1
    obtain ⟨b,o,s⟩:=a
    simp only at ha
    subst ha
    have e : (⟨b,o,none⟩ : Addr).add j = ⟨b,o + j,none⟩:=by
      unfold Addr.add
      by_cases h4 : j = 0 <;> simp [h4]
    rw [e] at c1
    exact ⟨y,hw,b,o,rfl,(spot_none c1).2,c1⟩
  refine ⟨some a,cap,xs,by rw [hxl],by omega,hm,fun h=>(by cases h),fun i hi=>?_,fun y hy=>?_⟩
  · obtain ⟨_,b,o,e1,e2,e3⟩:=hxs i xs[i] (List.getElem?_eq_getElem hi)
    exact ⟨b,o,by rw [e1],e2,by rw [e3,List.getD_eq_getElem?_getD,List.getElem?_eq_getElem hi]; rfl⟩
  · obtain ⟨j,hj,e⟩:=List.mem_iff_getElem.1 hy
    exact (hxs j y (by rw [List.getElem?_eq_getElem hj,e])).1
theorem wf_u8 {y : Int} (h : (Lit.int .u8 y).wf = true) : 0 ≤ y∧y < 256:=by
  simp [Lit.wf,IntKind.min,IntKind.max,IntKind.signed,IntKind.bits] at h
  omega
theorem wf_i64 {y : Int} (h : (Lit.int .i64 y).wf = true) : -9223372036854775808 ≤ y∧y < 9223372036854775808:=by
  simp [Lit.wf,IntKind.min,IntKind.max,IntKind.signed,IntKind.bits] at h
  omega
theorem open_u8ss {W : World} {sp : Nat → Bool} {fuel : Nat} {cs : List Value} {x : DataW H × List MemPlace} {t r e : TypeId} (ht : Try.prog.underlying t = some (.slice r)) (hr : Try.prog.underlying r = some (.slice e)) (he : Try.prog.underlying e = some (.int .u8)) (hc : Try.prog.cellsOf e = 1) (hcr : Try.prog.cellsOf r = 1) (h : DataW.trod enc Try.prog W 0 sp true fuel t cs = some x) :
    ∃ (rA : Option Addr) (rn rc : Nat) (A : Nat → Option Addr) (cap : Nat → Nat) (rows : Nat → List Int),cs = [.slice rA rn rc]∧rn ≤ rc∧rc ≤ maxLen∧(rA = none → rc = 0) ∧
      ∀ i,i < rn → (∃ b o,rA = some ⟨b,o,none⟩∧b < W.heap.size∧W.cell? ⟨b,o + i,none⟩ = some (.slice (A i) (rows i).length (cap i)))∧(rows i).length ≤ cap i∧cap i ≤ maxLen∧(A i = none → cap i = 0) ∧
        (∀ j,j < (rows i).length → ∃ b o,A i = some ⟨b,o,none⟩∧b < W.heap.size∧W.cell? ⟨b,o + j,none⟩ = some (.int .u8 ((rows i).getD j 0)))∧∀ y ∈ rows i,0 ≤ y∧y < 256:=by
  rcases open_slice1 ht hcr h with ⟨rfl,rfl⟩ | ⟨a,rn,rc,m,n,V,D,Pl,rfl,hb,hl,hm,hmm,rfl,hx⟩
  · exact ⟨none,0,0,fun _=>none,fun _=>0,fun _=>[],rfl,Nat.le_refl _,by unfold maxLen; omega,fun _=>rfl,fun i hi=>absurd hi (by omega)⟩
  have hlm : rn ≤ m:=by rw [hmm]; split <;> omega
  by_cases h0 : rn = 0
  · subst h0
    exact ⟨some a,0,rc,fun _=>none,fun _=>0,fun _=>[],rfl,by omega,hm,fun h=>(by cases h),fun i hi=>absurd hi (by omega)⟩
  have ha : a.spot = none:=by
    obtain ⟨c0,_⟩:=hx 0 (by omega)
    have : W.cell? a = some (V 0):=by simpa [Addr.add] using c0
    exact (spot_none this).1
  obtain ⟨Tb,To,s⟩:=a
  simp only at ha
  subst ha
  have hex : ∀ i,∃ p : Option Addr × Nat × List Int,i < rn → (∃ b o,(some ⟨Tb,To,none⟩ : Option Addr) = some ⟨b,o,none⟩∧b < W.heap.size∧W.cell? ⟨b,o + i,none⟩ = some (.slice p.1 p.2.2.length p.2.1))∧p.2.2.length ≤ p.2.1∧p.2.1 ≤ maxLen∧(p.1 = none → p.2.1 = 0) ∧
      (∀ j,j < p.2.2.length → ∃ b o,p.1 = some ⟨b,o,none⟩∧b < W.heap.size∧W.cell? ⟨b,o + j,none⟩ = some (.int .u8 (p.2.2.getD j 0)))∧∀ y ∈ p.2.2,0 ≤ y∧y < 256:=fun i=>by
    by_cases hi : i < rn
    · obtain ⟨c1,c2⟩:=hx i (by omega)
      obtain ⟨A,cap,xs,e,h1,h2,h3,h4,h5⟩:=open_kind hr he hc c2
      simp only [List.cons.injEq,and_true] at e
      rw [e] at c1
      have ea : (⟨Tb,To,none⟩ : Addr).add i = ⟨Tb,To + i,none⟩:=by
        unfold Addr.add
        by_cases h4 : i = 0 <;> simp [h4]
      rw [ea] at c1
      exact ⟨(A,cap,xs),fun _=>⟨⟨Tb,To,rfl,(spot_none c1).2,c1⟩,h1,h2,h3,h4,fun y hy=>wf_u8 (h5 y hy)⟩⟩
    · exact ⟨(none,0,[]),fun h=>absurd h hi⟩
  obtain ⟨F,hF⟩:=Classical.axiomOfChoice hex
  exact ⟨some ⟨Tb,To,none⟩,rn,rc,fun i=>(F i).1,fun i=>(F i).2.1,fun i=>(F i).2.2,rfl,by omega,hm,fun h=>(by cases h),fun i hi=>hF i hi⟩
end
end Go.Proofs.Ytphbolckbfnhaaa
namespace Go.Proofs.Ytphbolckbfnhaaa.multiRuns
open Go.ChangeShapes Go.WideShapes Go.ChangeAt Go.RowKit Go.Deep Go.Turn
theorem own : ownKnob Try.prog.godebug = none:=by kernel_rfl
theorem laidOut : laidOutB Try.prog = true:=by kernel_rfl
theorem u8Cells : Try.prog.cellsOf 5 = 1:=by kernel_rfl
theorem u8sCells : Try.prog.cellsOf 32 = 1:=by kernel_rfl
theorem intCells : Try.prog.cellsOf 3 = 1:=by kernel_rfl
set_option maxRecDepth 100000 in
theorem lifted (os : Os) (started : os.Started) (H : Type) (enc : TypeId × Value → H) :
    ReturnsInLeavingWide {} Try.checked os 4 .any (Rows.multiRunsSpec.pre6 enc Try.prog Try.f4 Rows.multiRunsRow.domain false) (Rows.multiRunsSpec.post enc Try.prog Try.f4 false true false false):=by
  refine returnsInLeavingWide_of_change_sized (C:=Try.checked) own started Try.func4
    (ChangeSpec.witness6 (enc:=enc) (C:=Try.checked) false ⟨#[],#[.int .u8 0,.int .i64 0,.slice none 0 0,.slice none 0 0,.slice none 0 0],[]⟩ 8 (by kernel_rfl) (by kernel_rfl) (by kernel_rfl) (by kernel_rfl)) ?_
  intro W base args ds gs before hval0 hW _ _ _
  have hval : ∀ (j : Nat) t v,Try.f4.params[j]? = some t → args[j]? = some v → Value.okWide Try.prog W .any base t v:=hval0
  have hW':=hW
  obtain ⟨p,q,hA0,hV,rfl,hfz,hnd⟩:=hW
  have hA : DataW.TrodAll enc Try.prog W 0 (fun _=>true) true Try.f4.params.toList args.toList ds p:=hA0
  rw [Try.params4] at hA hval
  obtain ⟨v0,vs0,d0,ds0,p0,q0,hargs,rfl,rfl,h0,r0⟩:=trodAll_cons hA
  obtain ⟨v1,vs1,d1,ds1,p1,q1,rfl,rfl,rfl,h1,r1⟩:=trodAll_cons r0
  obtain ⟨v2,vs2,d2,ds2,p2,q2,rfl,rfl,rfl,h2,r2⟩:=trodAll_cons r1
  obtain ⟨v3,vs3,d3,ds3,p3,q3,rfl,rfl,rfl,h3,r3⟩:=trodAll_cons r2
  obtain ⟨v4,vs4,d4,ds4,p4,q4,rfl,rfl,rfl,h4,r4⟩:=trodAll_cons r3
  obtain ⟨rfl,rfl,rfl⟩:=trodAll_nil r4
  obtain rfl : args = #[v0,v1,v2,v3,v4]:=by cases args; simp_all
  obtain ⟨rfl,rfl⟩:=trodVars_none hV
  obtain ⟨a0,rfl,rfl,rfl,w0⟩:=open_int Try.underlying5 (hval 0 5 v0 rfl rfl) h0
  obtain ⟨a1,rfl,rfl,rfl,w1⟩:=open_int Try.underlying2 (hval 1 2 v1 rfl rfl) h1
  obtain ⟨A2,n2,c2,rfl⟩:=okWide_slice Try.underlying32 (hval 2 32 v2 rfl rfl)
  obtain ⟨A3,n3,c3,rfl⟩:=okWide_slice Try.underlying33 (hval 3 33 v3 rfl rfl)
  obtain ⟨A4,n4,c4,rfl⟩:=okWide_slice Try.underlying24 (hval 4 24 v4 rfl rfl)
  have h2k:=h2
  have h3k:=h3
  have h4k:=h4
  have hlt2 : ∀ x ∈ p2,x.block < W.heap.size:=fun x hx=>by simpa using hW'.lt x (by simp [hx])
  have hlt3 : ∀ x ∈ p3,x.block < W.heap.size:=fun x hx=>by simpa using hW'.lt x (by simp [hx])
  have hlt4 : ∀ x ∈ p4,x.block < W.heap.size:=fun x hx=>by simpa using hW'.lt x (by simp [hx])
  obtain ⟨fuel2,h2⟩:=h2
  obtain ⟨fuel3,h3⟩:=h3
  obtain ⟨fuel4,h4⟩:=h4
  obtain ⟨dA,dc,ds',e2,a1',a2,a3,a4,a5⟩:=open_kind Try.underlying32 Try.underlying5 u8Cells h2
  obtain ⟨rA,rn,rc,A,cap,rows,e3,b1,b2,b3,b4⟩:=open_u8ss Try.underlying33 Try.underlying32 Try.underlying5 u8Cells u8sCells h3
  obtain ⟨sA,sc,xs,e4,c1,c2',c3',c4',_⟩:=open_kind Try.underlying24 Try.underlying3 intCells h4
  simp only [Value.cells,List.cons.injEq,and_true,Value.slice.injEq] at e2 e3 e4
  obtain ⟨rfl,rfl,rfl⟩:=e2
  obtain ⟨rfl,rfl,rfl⟩:=e3
  obtain ⟨rfl,rfl,rfl⟩:=e4
  simp only [List.append_nil] at hW'
  have hsm : (⟨a0,a1,A2,ds',c2,A3,n3,c3,A,rows,cap,A4,xs,c4⟩ : Rn).At W W:=⟨wf_u8 w0,by have:=wf_i64 w1; omega,⟨a1',a2,a3,a4,fun y hy=>wf_u8 (a5 y hy)⟩,b1,b2,b3,fun i hi=>by
    obtain ⟨z1,z2,z3,z4,z5,z6⟩:=b4 i hi
    exact ⟨z1,z2,z3,z4,z5,z6⟩,c1,c2',c3',c4'⟩
  obtain ⟨M,last,o,w',t',r1,r2,r3,r4⟩:=run_good Try.tame (runs_true W _ hsm)
  refine ⟨M,last,o,w',t',r1,r2,r3,r4.mono fun v hF=>?_⟩
  have hb : Below W.heap.size W { w' with tape:=W.tape }:=⟨hF.os,rfl,hF.output,hF.size,hF.old⟩
  obtain rfl:=hF.val
  exact ⟨_,_,_,[],_,[],hW',trodAll_cons_mk (shut_bool Try.underlying4 _) trodAll_mk0,
    trodAll_cons_mk (shut_int Try.underlying5 w0) (trodAll_cons_mk (shut_int Try.underlying2 w1) (trodAll_cons_mk ((Below.trod laidOut (by kernel_rfl) (of_decide_eq_true (by kernel_rfl)) h2k hb hlt2).of_heap (by rfl))
      (trodAll_cons_mk ((Below.trod laidOut (by kernel_rfl) (of_decide_eq_true (by kernel_rfl)) h3k hb hlt3).of_heap (by rfl)) (trodAll_cons_mk ((Below.trod laidOut (by kernel_rfl) (of_decide_eq_true (by kernel_rfl)) h4k hb hlt4).of_heap (by rfl)) trodAll_mk0)))),rfl,hF.frame _,fun h=>by cases h⟩
theorem over : Rows.multiRunsRow.holds Try.pinned (OpenSpec.ofChange Rows.multiRunsSpec):=
  OpenClaim.holds_of_wide_leaving 4 Try.f4 rfl rfl rfl rfl rfl rfl rfl ⟨rfl,rfl,rfl,rfl,rfl⟩ rfl rfl rfl rfl rfl (by kernel_rfl) Try.func4 (by kernel_rfl)
    (of_decide_eq_true (by kernel_rfl)) (by unfold Func.isWrapper; first | (rw [if_pos (by decide +kernel)]; kernel_rfl) | (rw [if_neg (by decide +kernel)]; exact ⟨rfl,rfl⟩))
    (fun os started H enc _=>lifted os started H enc)
theorem proved : Rows.MultiRunsSaid:=over
end Go.Proofs.Ytphbolckbfnhaaa.multiRuns
