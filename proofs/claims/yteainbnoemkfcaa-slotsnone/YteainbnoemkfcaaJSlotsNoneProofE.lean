/- DERIVED. A region that draws its order and whose last operation stores where the region has loaded. No program of this claim is in sight. -/
import Derived.Test.YteainbnoemkfcaaJSlotsNoneProofD
import Derived.Test.YteainbnoemkfcaaRows
import Derived.WalkKit
import Derived.ProofKit
import Derived.WalkSpells
import Derived.Outline
import Derived.Lib.Hide
import Derived.BigQuiet
import Derived.Deep.QuietTactic
import Derived.Deep.RegionWith
import Derived.Deep.Draws
import Derived.Laws.OwnMore
import Derived.Laws.Rows
import Derived.Conc.TokenWords
import Derived.WalkSmall
import Derived.Conc.SmallLaws
import Derived.RegionTactic
import Derived.Deep.RegionHeld3
import Derived.OrdersHeld
/- DERIVED. Threads that go by turns as a pure machine over trees: a schedule's run. And rules for walking goroutine 0 among them. No program of this claim is in sight. -/
namespace Go.Turn
set_option linter.unusedVariables false
open Go.Conc Go.Tame
open Go.ConcN (upd upd_ne upd_same)
section
variable {S X : Type}
/-- Nowhere is it unknown what comes. -/
def Tree.Whole : Tree S X → Prop
  | .ret _ => True
  | .yield _ k => ∀ s, (k s).Whole
  | .cut => False
theorem Tree.Whole.ne {t : Tree S X} (h : t.Whole) : t ≠ .cut := fun e => by rw [e] at h; exact h
/-- What follows a tree's end. -/
def Tree.bind {Y : Type} (f : X → Tree S Y) : Tree S X → Tree S Y
  | .ret x => f x
  | .yield s k => .yield s fun s' => (k s').bind f
  | .cut => .cut
theorem Tree.Whole.bind {Y : Type} {f : X → Tree S Y} (hf : ∀ x, (f x).Whole) : ∀ {t : Tree S X}, t.Whole → (t.bind f).Whole
  | .ret x, _ => hf x
  | .yield _ _, h => fun s => Tree.Whole.bind hf (h s)
  | .cut, h => h
def Stg.Good : Stg S → Prop
  | .unborn => False
  | .wait _ => True
  | .over => True
/-- Behind a turn of thread i's that does as the tree says. -/
def Mach.did (m : Mach S) (i : Nat) : Tree S S → Mach S
  | .yield s k => ⟨s, upd m.th i (.wait k)⟩
  | .ret s => ⟨s, upd m.th i .over⟩
  | .cut => m
theorem Mach.put_did {m : Mach S} {i : Nat} {t : Tree S S} (h : t ≠ .cut) : m.put i t = some (m.did i t) := by
  cases t with
  | cut => exact absurd rfl h
  | _ => rfl
/-- Thread i goes on. -/
def Mach.go (m : Mach S) (i : Nat) : Mach S := match m.th i with
  | .wait k => m.did i (k m.s)
  | _ => m
/-- Thread i is ended. -/
def Mach.fin (m : Mach S) (i : Nat) : Mach S := match m.th i with
  | .wait _ => ⟨m.s, upd m.th i .over⟩
  | _ => m
/-- The machine, and who did each step. -/
structure Run (S : Type) where
  m : Mach S
  order : List Int
/-- Is it thread i's turn? -/
def Run.may (n most : Nat) (c : Run S) (i : Int) : Bool := decide (0 ≤ i) && decide (i < n) && !(c.m.th i.toNat).isOver && !(c.order.length == most)
def Run.turn (n most : Nat) (c : Run S) (i : Int) : Run S := if c.may n most i then ⟨c.m.go i.toNat, c.order ++ [i]⟩ else c
def Run.turns (n most : Nat) (c : Run S) (l : List Int) : Run S := l.foldl (Run.turn n most) c
/-- How many have not ended. -/
def Mach.left (m : Mach S) : Nat → Nat
  | 0 => 0
  | n + 1 => m.left n + if (m.th n).isOver then 0 else 1
def Run.rounds (n most : Nat) : Nat → Run S → Run S
  | 0, c => c
  | f + 1, c => if 0 < c.m.left n ∧ c.order.length < most then Run.rounds n most f (c.turns n most ((List.range n).map (fun (i : Nat) => (i : Int)))) else c
/-- The births, one after the other. -/
def Mach.born (birth : Nat → S → Tree S S) (m : Mach S) : Nat → Mach S
  | 0 => m
  | n + 1 => (m.born birth n).did n (birth n (m.born birth n).s)
def Mach.ended (m : Mach S) : Nat → Mach S
  | 0 => m
  | n + 1 => (m.ended n).fin n
/-- A run by a schedule, up to where what is left is ended. -/
def playRun (birth : Nat → S → Tree S S) (n most : Nat) (sched : List Int) (s : S) : Run S :=
  ((⟨Mach.born birth ⟨s, fun _ => .unborn⟩ n, []⟩ : Run S).turns n most sched).rounds n most most
theorem did_other {m : Mach S} {i j : Nat} {t : Tree S S} (h : j ≠ i) : (m.did i t).th j = m.th j := by
  cases t with
  | cut => rfl
  | _ => exact upd_ne _ _ h
theorem did_good {m : Mach S} {i : Nat} {t : Tree S S} (h : t ≠ .cut ∨ (m.th i).Good) : ((m.did i t).th i).Good := by
  cases t with
  | cut => exact h.resolve_left (fun h => h rfl)
  | ret s => simp [Mach.did, upd_same, Stg.Good]
  | yield s k => simp only [Mach.did, upd_same, Stg.Good]
theorem go_other {m : Mach S} {i j : Nat} (h : j ≠ i) : (m.go i).th j = m.th j := by
  unfold Mach.go
  split
  · exact did_other h
  · rfl
theorem go_good {m : Mach S} {i j : Nat} (h : (m.th j).Good) : ((m.go i).th j).Good := by
  by_cases e : j = i
  · subst e
    unfold Mach.go
    split
    · exact did_good (.inr h)
    · exact h
  · rw [go_other e]; exact h
theorem fin_other {m : Mach S} {i j : Nat} (h : j ≠ i) : (m.fin i).th j = m.th j := by
  unfold Mach.fin
  split
  · exact upd_ne _ _ h
  · rfl
theorem fin_s {m : Mach S} {i : Nat} : (m.fin i).s = m.s := by unfold Mach.fin; split <;> rfl
theorem fin_over {m : Mach S} {i : Nat} (h : (m.th i).Good) : (m.fin i).th i = .over := by
  unfold Mach.fin
  split
  · exact upd_same ..
  · rename_i h1
    cases ht : m.th i with
    | over => rfl
    | unborn => rw [ht] at h; exact h.elim
    | wait k => exact absurd ht (h1 k)
theorem ended_s (m : Mach S) : ∀ n, (m.ended n).s = m.s
  | 0 => rfl
  | n + 1 => fin_s.trans (ended_s m n)
theorem ended_other (m : Mach S) : ∀ n j, n ≤ j → (m.ended n).th j = m.th j
  | 0, _, _ => rfl
  | n + 1, j, h => (fin_other (by omega)).trans (ended_other m n j (by omega))
theorem ended_over {m : Mach S} {n : Nat} (hg : ∀ i, i < n → (m.th i).Good) : ∀ k, k ≤ n → ∀ i, i < k → (m.ended k).th i = .over
  | 0, _, _, h => by omega
  | k + 1, hk, i, h => by
    by_cases e : i = k
    · subst e
      exact fin_over (by rw [ended_other m i i (Nat.le_refl _)]; exact hg i (by omega))
    · exact (fin_other e).trans (ended_over hg k (by omega) i (by omega))
theorem born_other (birth : Nat → S → Tree S S) (m : Mach S) : ∀ n j, n ≤ j → (m.born birth n).th j = m.th j
  | 0, _, _ => rfl
  | n + 1, j, h => (did_other (by omega)).trans (born_other birth m n j (by omega))
theorem born_good {birth : Nat → S → Tree S S} (m : Mach S) : ∀ n, (∀ i, i < n → birth i (m.born birth i).s ≠ .cut) → ∀ i, i < n → ((m.born birth n).th i).Good
  | 0, _, _, h => by omega
  | n + 1, hb, i, h => by
    by_cases e : i = n
    · subst e; exact did_good (.inl (hb _ (by omega)))
    · show (((m.born birth n).did n _).th i).Good
      rw [did_other e]
      exact born_good m n (fun i hi => hb i (by omega)) i (by omega)
theorem left_upd {m m' : Mach S} {i : Nat} (hm : ∀ j, j ≠ i → m'.th j = m.th j) : ∀ n, n ≤ i → m'.left n = m.left n
  | 0, _ => rfl
  | n + 1, h => by simp only [Mach.left]; rw [hm n (by omega), left_upd hm n (by omega)]
/-- The count behind a turn of i's. -/
theorem left_turn {m m' : Mach S} {i : Nat} (hm : ∀ j, j ≠ i → m'.th j = m.th j) (ho : (m.th i).isOver = false) : ∀ n, i < n → m.left n = m'.left n + if (m'.th i).isOver then 1 else 0
  | 0, h => by omega
  | n + 1, h => by
    simp only [Mach.left]
    by_cases e : i = n
    · subst e
      rw [left_upd hm i (Nat.le_refl _), ho]
      cases (m'.th i).isOver <;> simp
    · rw [hm n (by omega), left_turn hm ho n (by omega)]
      omega
theorem left_le (m : Mach S) : ∀ n, m.left n ≤ n
  | 0 => Nat.le_refl _
  | n + 1 => by
    have := left_le m n
    simp only [Mach.left]
    split <;> omega
theorem left_pos {m : Mach S} : ∀ n, 0 < m.left n → ∃ i, i < n ∧ (m.th i).isOver = false
  | 0, h => by simp [Mach.left] at h
  | n + 1, h => by
    simp only [Mach.left] at h
    by_cases e : (m.th n).isOver = true
    · obtain ⟨i, h1, h2⟩ := left_pos (m := m) n (by simpa [e] using h)
      exact ⟨i, by omega, h2⟩
    · exact ⟨n, by omega, by simpa using e⟩
theorem turn_order_le {n most : Nat} {c : Run S} {i : Int} (h : c.order.length ≤ most) : (c.turn n most i).order.length ≤ most ∧ c.order.length ≤ (c.turn n most i).order.length := by
  unfold Run.turn
  split
  · rename_i hm
    simp only [Run.may, Bool.and_eq_true, Bool.not_eq_true', beq_eq_false_iff_ne, ne_eq] at hm
    simp only [List.length_append, List.length_cons, List.length_nil]
    omega
  · exact ⟨h, Nat.le_refl _⟩
theorem turns_order_le {n most : Nat} : ∀ (l : List Int) {c : Run S}, c.order.length ≤ most → (c.turns n most l).order.length ≤ most ∧ c.order.length ≤ (c.turns n most l).order.length
  | [], c, h => ⟨h, Nat.le_refl _⟩
  | i :: l, c, h => by
    have h1 := turn_order_le (n := n) (i := i) h
    have h2 := turns_order_le (n := n) l h1.1
    exact ⟨h2.1, Nat.le_trans h1.2 h2.2⟩
theorem turn_good {n most : Nat} {c : Run S} {i : Int} (h : ∀ j, j < n → (c.m.th j).Good) : ∀ j, j < n → ((c.turn n most i).m.th j).Good := fun j hj => by
  unfold Run.turn
  split
  · exact go_good (h j hj)
  · exact h j hj
theorem turns_good {n most : Nat} : ∀ (l : List Int) {c : Run S}, (∀ j, j < n → (c.m.th j).Good) → ∀ j, j < n → ((c.turns n most l).m.th j).Good
  | [], _, h => h
  | i :: l, c, h => turns_good l (turn_good h)
theorem turns_snoc (n most : Nat) (c : Run S) (l : List Int) (i : Int) : c.turns n most (l ++ [i]) = (c.turns n most l).turn n most i := by simp [Run.turns]
/-- A round does something, while somebody is left and steps are left. -/
theorem turns_move {n most : Nat} : ∀ (l : List Int) (c : Run S), c.order.length < most → (∃ i : Nat, i < n ∧ (i : Int) ∈ l ∧ (c.m.th i).isOver = false) → c.order.length < (c.turns n most l).order.length
  | [], _, _, ⟨i, _, h, _⟩ => by cases h
  | x :: l, c, hc, ⟨i, hi, hm, ho⟩ => by
    by_cases hx : c.may n most x = true
    · have h1 : (c.turn n most x).order.length = c.order.length + 1 := by simp [Run.turn, hx]
      have h2 := (turns_order_le (n := n) (most := most) l (c := c.turn n most x) (by omega)).2
      show _ < ((c.turn n most x).turns n most l).order.length
      omega
    · have e : c.turn n most x = c := by simp [Run.turn, hx]
      show _ < ((c.turn n most x).turns n most l).order.length
      rw [e]
      rcases List.mem_cons.1 hm with rfl | hm
      · refine absurd ?_ hx
        simp only [Run.may, Bool.and_eq_true, decide_eq_true_eq, Bool.not_eq_true', beq_eq_false_iff_ne, ne_eq, Int.toNat_natCast, ho, and_true]
        omega
      · exact turns_move l c hc ⟨i, hi, hm, ho⟩
theorem rounds_stop {n most : Nat} {c : Run S} (h : ¬ (0 < c.m.left n ∧ c.order.length < most)) : ∀ f, Run.rounds n most f c = c
  | 0 => rfl
  | f + 1 => by simp [Run.rounds, h]
/-- More rounds than steps change nothing. -/
theorem rounds_fuel {n most : Nat} : ∀ (f g : Nat) (c : Run S), most - c.order.length ≤ f → most - c.order.length ≤ g → c.order.length ≤ most → Run.rounds n most f c = Run.rounds n most g c
  | 0, g, c, h1, h2, h3 => by rw [rounds_stop (fun h => by omega) g]; rfl
  | f + 1, 0, c, h1, h2, h3 => by rw [rounds_stop (fun h => by omega) (f + 1)]; rfl
  | f + 1, g + 1, c, h1, h2, h3 => by
    simp only [Run.rounds]
    by_cases h : 0 < c.m.left n ∧ c.order.length < most
    · rw [if_pos h, if_pos h]
      obtain ⟨i, hi, ho⟩ := left_pos n h.1
      have hm := turns_move (n := n) (most := most) ((List.range n).map fun (i : Nat) => (i : Int)) c h.2 ⟨i, hi, List.mem_map.2 ⟨i, List.mem_range.2 hi, rfl⟩, ho⟩
      have hl := (turns_order_le (n := n) ((List.range n).map fun (i : Nat) => (i : Int)) h3).1
      exact rounds_fuel f g _ (by omega) (by omega) hl
    · rw [if_neg h, if_neg h]
theorem rounds_good {n most : Nat} : ∀ (f : Nat) {c : Run S}, (∀ j, j < n → (c.m.th j).Good) → ∀ j, j < n → ((Run.rounds n most f c).m.th j).Good
  | 0, _, h => h
  | f + 1, c, h => by
    simp only [Run.rounds]
    split
    · exact rounds_good f (turns_good _ h)
    · exact h
end
/-- A machine's invariant: from it nobody comes to what is unknown. -/
structure MInv {S : Type} (MI : Mach S → Prop) (n : Nat) : Prop where
  step : ∀ m i k, MI m → i < n → m.th i = .wait k → k m.s ≠ .cut ∧ MI (m.did i (k m.s))
theorem turn_mi {S : Type} {MI : Mach S → Prop} {n most : Nat} (hM : MInv MI n) {c : Run S} (h : MI c.m) (i : Int) : MI (c.turn n most i).m := by
  unfold Run.turn
  split
  · rename_i hm
    simp only [Run.may, Bool.and_eq_true, decide_eq_true_eq] at hm
    show MI (c.m.go i.toNat)
    unfold Mach.go
    split
    · rename_i k hk
      exact (hM.step _ _ _ h (by omega) hk).2
    · exact h
  · exact h
/-! ### goroutine 0's logic, the number of goroutines with it -/
section
variable {P : Program} {e : Env P}
def lgM (hP : Prog P) (e : Env P) : Lg P (Nat × Mach e.S) where
  T t fr mid x := Mn e t.1 t.2 fr mid x
  tail := [poison P]
  strict := False
  re τ n h := h.re τ n
  close h := mn_close hP fun τ n => by
    obtain ⟨fr', mid', x', ⟨NN, hs⟩, _, hT⟩ := h τ n
    exact ⟨NN, fr', mid', x', hs, hT⟩
/-- Goroutine 0 beside others that only leave, however many. -/
def lgA (hP : Prog P) (Post : Value → World → Prop) (W0 : World) : Lg P Unit where
  T _ fr mid x := ∀ N, Al P Post W0 N fr mid x
  tail := [poison P]
  strict := False
  re τ n h := fun N => (h N).re τ n
  close h := fun N => al_close hP fun τ n => by
    obtain ⟨fr', mid', x', ⟨NN, hs⟩, _, hT⟩ := h τ n
    exact ⟨NN, fr', mid', x', hs, hT N⟩
theorem lgm_tu {hP : Prog P} {N : Nat} {m : Mach e.S} {fr : Frame} {mid : List Frame} {x : World} (h : ∀ ov br, Tv e.g ov br x → (∀ i, i < e.g.n → ov i = (m.th i).isOver) → (lgM hP e).T (N, m) fr mid x) : (lgM hP e).T (N, m) fr mid x := mn_tu h
theorem HeldM.refl (x : World) : HeldM x x := ⟨Nat.le_refl _, fun _ _ _ _ h _ => h⟩
theorem HeldM.trans {a b c : World} (h : HeldM a b) (k : HeldM b c) : HeldM a c := ⟨Nat.le_trans h.size k.size, fun b c t r h1 h2 => k.block b c t r (h.block b c t r h1 h2) h2⟩
/-- What is near is held but for the blocks of Z. -/
structure HeldX (Z : Nat → Prop) (x x' : World) : Prop where
  size : x.heap.size ≤ x'.heap.size
  block : ∀ (b : Nat) (c : Array Value) (t : TypeId) (r : Nat × Nat), ¬ Z b → x.heap[b]? = some (Obj.cells c t r) → (r.2 < big ∨ r.2 % 2 = 1) → x'.heap[b]? = some (Obj.cells c t r)
theorem HeldX.refl (Z : Nat → Prop) (x : World) : HeldX Z x x := ⟨Nat.le_refl _, fun _ _ _ _ _ h _ => h⟩
theorem HeldX.trans {Z : Nat → Prop} {a b c : World} (h : HeldX Z a b) (k : HeldX Z b c) : HeldX Z a c := ⟨Nat.le_trans h.size k.size, fun b c t r hz h1 h2 => k.block b c t r hz (h.block b c t r hz h1 h2) h2⟩
theorem HeldM.x {Z : Nat → Prop} {a b : World} (h : HeldM a b) : HeldX Z a b := ⟨h.size, fun b c t r _ h1 h2 => h.block b c t r h1 h2⟩
theorem HeldX.mono {Z Z' : Nat → Prop} {a b : World} (h : HeldX Z a b) (hz : ∀ b, Z b → Z' b) : HeldX Z' a b := ⟨h.size, fun b c t r h0 h1 h2 => h.block b c t r (fun z => h0 (hz b z)) h1 h2⟩
end
section
variable {P : Program} {κ : Type} {L : Lg P κ} {t : κ} {a : Act} {w : World}
/-- A call, met in a region. -/
theorem Lg.call {b : Frame} {k : List Item} {mid : List Frame} {ops : Array Oper} {i : Nat} {rest : List Nat} {o : Oper} {f : FuncId} {args : Array Value} {R : Value → κ → World → Prop} (ho : ops[i]? = some o) (hw : Region.wanted o (yielded ops a.tmps) = true) (he : ∀ y, (execOp a.eval o).run P y = .ok (.enter f args) y)
    (h : Ccalls L f args t w R) (hT : ∀ v t' w', R v t' w' → L.T t' ((b.at a (.inRegion ops (i :: rest) :: k)).finish v) mid w') : L.T t (b.at a (.inRegion ops (i :: rest) :: k)) mid w := by
  refine L.steps fun y τ n hy => ⟨Frame.enter P f args .normal, b.at a (.inRegion ops (i :: rest) :: k) :: mid, y, .one (step_op_enter ho hw (he y)), fun _ hn => ⟨rfl, fun g hg => ?_⟩, ?_⟩
  · rcases List.mem_cons.1 hg with rfl | hg
    · exact ⟨hn.top, rfl⟩
    · exact hn.below g hg
  · have := h (b.at a (.inRegion ops (i :: rest) :: k)) mid fun v t' w' r => hT v t' w' r
    rw [hy] at this
    exact L.re_iff.1 this
/-- The slots of a list, at what they hold in f. -/
def fillL (f : Nat → Value) (tmps : List Value) : List Nat → List Value
  | [] => tmps
  | s :: l => (fillL f tmps l).set s (f s)
def fill (f : Nat → Value) (tmps : Array Value) (ns : List Nat) : Array Value := (fillL f tmps.toList ns).toArray
/-- A frame without what stands in the slots of a list. -/
def eraL (tmps : List Value) : List Nat → List Value
  | [] => tmps
  | s :: l => (eraL tmps l).set s undef
def era (tmps : Array Value) (ns : List Nat) : List Value := eraL tmps.toList ns
theorem fill_size (f : Nat → Value) (tmps : List Value) : ∀ ns, (fillL f tmps ns).length = tmps.length
  | [] => rfl
  | s :: l => by simp [fillL, fill_size f tmps l]
theorem era_size (tmps : List Value) : ∀ ns, (eraL tmps ns).length = tmps.length
  | [] => rfl
  | s :: l => by simp [eraL, era_size tmps l]
theorem fill_get (f : Nat → Value) (tmps : List Value) : ∀ (ns : List Nat) (j : Nat), j < tmps.length → (fillL f tmps ns)[j]? = if j ∈ ns then some (f j) else tmps[j]?
  | [], j, _ => by simp [fillL]
  | s :: l, j, h => by
    simp only [fillL, List.getElem?_set, fill_size, fill_get f tmps l j h, List.mem_cons]
    by_cases e : s = j
    · subst e; simp [h]
    · have e' : j ≠ s := fun z => e z.symm
      simp [e, e']
theorem era_get (tmps : List Value) : ∀ (ns : List Nat) (j : Nat), j < tmps.length → (eraL tmps ns)[j]? = if j ∈ ns then some undef else tmps[j]?
  | [], j, _ => by simp [eraL]
  | s :: l, j, h => by
    simp only [eraL, List.getElem?_set, era_size, era_get tmps l j h, List.mem_cons]
    by_cases e : s = j
    · subst e; simp [h]
    · have e' : j ≠ s := fun z => e z.symm
      simp [e, e']
theorem fill_era {a b : Array Value} {ns : List Nat} (h : era a ns = era b ns) : a = fill (fun s => a.getD s undef) b ns := by
  unfold era at h
  have hs : a.toList.length = b.toList.length := by have := congrArg List.length h; simpa [era_size] using this
  apply Array.ext'
  apply List.ext_getElem?
  intro j
  simp only [fill]
  by_cases hj : j < a.toList.length
  · rw [fill_get _ _ _ _ (by omega)]
    have := congrArg (·[j]?) h
    simp only [era_get a.toList ns j hj, era_get b.toList ns j (by omega)] at this
    by_cases hm : j ∈ ns
    · have hj' : j < a.size := by simpa using hj
      simp [hm, Array.getD, hj']
    · simpa [hm] using this
  · rw [List.getElem?_eq_none (by omega), List.getElem?_eq_none (by rw [fill_size]; omega)]
/-- ████ A LOOP. ████ 'ns': the slots that its body writes; 'rel': what stands in them at each round's head. -/
theorem cwp_loop_f {c : Code} {Q : Exit → κ → Act → World → Prop} (ns : List Nat) (rel : (Nat → Value) → κ → World → Prop) (μ : (Nat → Value) → κ → World → Nat) (h0 : rel (fun s => a.tmps.getD s undef) t w)
    (round : ∀ f t w, rel f t w → Cwp L c (then' (fun t' a' w' => a'.defers = a.defers ∧ era a'.tmps ns = era a.tmps ns ∧ rel (fun s => a'.tmps.getD s undef) t' w' ∧ μ (fun s => a'.tmps.getD s undef) t' w' < μ f t w) Q) t ⟨fill f a.tmps ns, a.defers⟩ w) : Cwp L (.loop c) Q t a w := by
  refine cwp_loop (fun t' a' w' => a'.defers = a.defers ∧ era a'.tmps ns = era a.tmps ns ∧ rel (fun s => a'.tmps.getD s undef) t' w') (fun t' a' w' => μ (fun s => a'.tmps.getD s undef) t' w') ⟨rfl, rfl, h0⟩ ?_
  rintro t' a' w' ⟨h1, h2, h3⟩
  have e : a' = ⟨fill (fun s => a'.tmps.getD s undef) a.tmps ns, a.defers⟩ := by
    cases a' with
    | mk tm df =>
      simp only at h1 h2
      subst h1
      simp only [Act.mk.injEq, and_true]
      exact fill_era h2
  have key := round _ _ _ h3
  rw [← e] at key
  refine cwp_mono key fun e' t2 a2 w2 q => ?_
  cases e' with
  | normal => exact ⟨⟨q.1, q.2.1, q.2.2.1⟩, q.2.2.2⟩
  | _ => exact q
/-- Frame a', but for the slots ns, is frame a; and R of what stands in them. -/
def Fra (a : Act) (ns : List Nat) (R : (Nat → Value) → World → Prop) (a' : Act) (w' : World) : Prop := a'.defers = a.defers ∧ era a'.tmps ns = era a.tmps ns ∧ R (fun s => a'.tmps.getD s undef) w'
theorem Fra.eq {ns : List Nat} {R : (Nat → Value) → World → Prop} {a a' : Act} {w' : World} (h : Fra a ns R a' w') : ∃ f, a' = ⟨fill f a.tmps ns, a.defers⟩ ∧ R f w' := by
  obtain ⟨h1, h2, h3⟩ := h
  refine ⟨_, ?_, h3⟩
  cases a' with
  | mk tm df =>
    simp only at h1 h2
    subst h1
    simp only [Act.mk.injEq, and_true]
    exact fill_era h2
/-- A lone piece, and what is known behind it. 'ns': the slots that it writes. -/
theorem Lg.codeF {b : Frame} {k : List Item} {mid : List Frame} {c : Code} (hs : ¬ L.strict) (ns : List Nat) (R : (Nat → Value) → World → Prop) (h : ∀ (y : World) τ n, w = y.re τ n → c.wp P (Exit.then (Fra a ns R) fun _ _ _ => False) a y)
    (hT : ∀ f w', R f w' → L.T t (b.at ⟨fill f a.tmps ns, a.defers⟩ k) mid w') : L.T t (b.at a (.code c :: k)) mid w := by
  refine Lg.code fun K hK y τ n hy => ?_
  refine wp_mono (h y τ n hy) fun e a' w' q => ?_
  cases e with
  | normal =>
    obtain ⟨f, rfl, hR⟩ := Fra.eq q
    exact hK _ w' (fun z => absurd z hs) (hT f w' hR)
  | _ => exact q
/-- What a frame holds in the slots of a list, by a function. -/
theorem Lg.reframe {b : Frame} {k : List Item} {mid : List Frame} {tm tm' : Array Value} {df : List Deferred} (ns : List Nat) {R : (Nat → Value) → Prop} (h : ∀ f, R f → L.T t (b.at ⟨fill f tm ns, df⟩ k) mid w) (he : era tm' ns = era tm ns) (hR : R fun s => tm'.getD s undef) : L.T t (b.at ⟨tm', df⟩ k) mid w := by
  have e : tm' = fill (fun s => tm'.getD s undef) tm ns := fill_era he
  have := h _ hR
  rw [← e] at this
  exact this
/-- Frames of a family. -/
theorem Lg.family {b : Frame} {k : List Item} {mid : List Frame} {tm : Array Value} {df : List Deferred} (FR : (Nat → Value) → Array Value) {R : (Nat → Value) → Prop} (h : ∀ f, R f → L.T t (b.at ⟨FR f, df⟩ k) mid w) (he : tm = FR fun s => tm.getD s undef) (hR : R fun s => tm.getD s undef) : L.T t (b.at ⟨tm, df⟩ k) mid w := by
  rw [he]
  exact h _ hR
/-- ████ A LOOP, its frames of a family. ████ -/
theorem cwp_loop_fr {c : Code} {Q : Exit → κ → Act → World → Prop} (FR : (Nat → Value) → Array Value) (rel : (Nat → Value) → κ → World → Prop) (μ : (Nat → Value) → κ → World → Nat) {df : List Deferred} {f0 : Nat → Value} (h0 : rel f0 t w)
    (round : ∀ f t w, rel f t w → Cwp L c (then' (fun t' a' w' => ∃ f', a' = ⟨FR f', df⟩ ∧ rel f' t' w' ∧ μ f' t' w' < μ f t w) Q) t ⟨FR f, df⟩ w) : Cwp L (.loop c) Q t ⟨FR f0, df⟩ w := by
  intro b k mid hQ
  refine L.move (fun _ _ => step_loop) id ?_
  have key : ∀ n f t w, μ f t w = n → rel f t w → L.T t (b.at ⟨FR f, df⟩ (.code c :: .inLoop c :: k)) mid w := by
    intro n
    induction n using Nat.strongRecOn with
    | _ n ih =>
      intro f t w hn hI
      refine round f t w hI b (.inLoop c :: k) mid fun e t' a' w' q => ?_
      cases e with
      | normal =>
        obtain ⟨f', rfl, h1, h2⟩ := q
        exact L.move (fun _ _ => step_inLoop) (fun h => h) (ih _ (hn ▸ h2) _ _ _ rfl h1)
      | exit id => exact arr_pass rfl (by simp) (hQ (.exit id) _ _ _ q)
      | goto l => exact arr_pass rfl (by simp) (hQ (.goto l) _ _ _ q)
      | ret => exact arr_pass (e := .ret) rfl (by simp) (hQ .ret _ _ _ q)
      | panic ch => exact arr_pass (e := .panic ch) rfl (by simp) (hQ (.panic ch) _ _ _ q)
      | outgrown => exact hQ .outgrown _ _ _ q
  exact key _ f0 t w rfl h0
/-- The same, the rest at hand. -/
theorem Lg.loop_fr {b : Frame} {k : List Item} {mid : List Frame} {c : Code} (FR : (Nat → Value) → Array Value) (rel : (Nat → Value) → κ → World → Prop) (μ : (Nat → Value) → κ → World → Nat) {df : List Deferred} {f0 : Nat → Value} (h0 : rel f0 t w)
    (round : ∀ f t w, rel f t w → (∀ f' t' w', rel f' t' w' → μ f' t' w' < μ f t w → L.T t' (b.at ⟨FR f', df⟩ (.inLoop c :: k)) mid w') → L.T t (b.at ⟨FR f, df⟩ (.code c :: .inLoop c :: k)) mid w) : L.T t (b.at ⟨FR f0, df⟩ (.code (.loop c) :: k)) mid w := by
  refine L.move (fun _ _ => step_loop) id ?_
  have key : ∀ n f t w, μ f t w = n → rel f t w → L.T t (b.at ⟨FR f, df⟩ (.code c :: .inLoop c :: k)) mid w := by
    intro n
    induction n using Nat.strongRecOn with
    | _ n ih =>
      intro f t w hn hI
      exact round f t w hI fun f' t' w' h1 h2 => L.move (fun _ _ => step_inLoop) (fun h => h) (ih _ (hn ▸ h2) _ _ _ rfl h1)
  exact key _ f0 t w rfl h0
def seqL : Code → Code
  | .seq x _ => x
  | c => c
def seqR : Code → Code
  | .seq _ y => y
  | c => c
end
end Go.Turn
/- DERIVED. Plain words for memory used by the walks of this claim: blocks known whole; what is kept below and outside a set of blocks. -/
namespace Go.Proofs.Yteainbnoemkfcaa
open Go.RowKit

/-- Block g is just the cells cs of element type t, none frozen. -/
def Blk (w : World) (g : Nat) (t : TypeId) (cs : Array Value) : Prop := w.heap[g]? = some (.cells cs t (0, 0))
section
variable {w w' : World} {g : Nat} {t : TypeId} {cs : Array Value}
theorem Blk.lt (h : Blk w g t cs) : g < w.heap.size := by
  rcases Nat.lt_or_ge g w.heap.size with hlt | hge
  · exact hlt
  · unfold Blk at h; rw [Array.getElem?_eq_none hge] at h; cases h
theorem Blk.cell (h : Blk w g t cs) (i : Nat) : w.cell? ⟨g, i, none⟩ = cs[i]? := cell_of_row w g i cs t (0, 0) h
theorem Blk.frozen (h : Blk w g t cs) (i : Nat) : w.frozen? ⟨g, i, none⟩ = false := by
  unfold Blk at h
  simp [World.frozen?, h]
theorem Blk.new (w : World) (t : TypeId) (cs : Array Value) : Blk (w.alloc (.cells cs t)) w.heap.size t cs := heap_alloc_new w _
theorem Blk.drew (h : Blk w g t cs) : Blk w.drew g t cs := h
theorem Blk.drewN (h : Blk w g t cs) (n : Nat) : Blk (w.drewN n) g t cs := h
theorem Blk.alloc (h : Blk w g t cs) (o : Obj) : Blk (w.alloc o) g t cs := (Below.heap_alloc w o g h.lt).trans h
theorem Blk.set_ (h : Blk w g t cs) (i : Nat) (u : Value) : Blk (w.setCell ⟨g, i, none⟩ u) g t (cs.setIfInBounds i u) := by
  unfold Blk at h ⊢
  simp [World.setCell, Array.getElem?_modify, h]
theorem Blk.far (h : Blk w g t cs) {p : Addr} (hp : g ≠ p.block) (u : Value) : Blk (w.setCell p u) g t cs := (Below.heap_setCell w p u g hp).trans h
theorem Blk.below {B : Nat} (h : Blk w g t cs) (hb : Below B w w') (hg : g < B) : Blk w' g t cs := (hb.block g hg).trans h
theorem Blk.grown {row : Option Nat} (h : Blk w g t cs) (hb : w.grownBy w' row) (hg : some g ≠ row) : Blk w' g t cs := (hb.block g h.lt hg).trans h
end

theorem Below.drewN {B : Nat} {a w : World} (h : Below B a w) (k : Nat) : Below B a (w.drewN k) := ⟨h.os, h.tape, h.output, h.size, h.block⟩
/-- Outside the blocks of S nothing that was there has turned. -/
structure Kept (S : Nat → Prop) (w w' : World) : Prop where
  os : w'.os = w.os
  tape : w'.tape = w.tape
  output : w'.output = w.output
  size : w.heap.size ≤ w'.heap.size
  block : ∀ k, k < w.heap.size → ¬ S k → w'.heap[k]? = w.heap[k]?
section
variable {S S' : Nat → Prop} {w w' w'' : World}
theorem Kept.refl (S : Nat → Prop) (w : World) : Kept S w w := ⟨rfl, rfl, rfl, Nat.le_refl _, fun _ _ _ => rfl⟩
theorem Kept.trans (h : Kept S w w') (k : Kept S w' w'') : Kept S w w'' :=
  ⟨k.os.trans h.os, k.tape.trans h.tape, k.output.trans h.output, Nat.le_trans h.size k.size, fun i hi hs => (k.block i (Nat.lt_of_lt_of_le hi h.size) hs).trans (h.block i hi hs)⟩
/-- What follows turns, of what was there at first, nothing but S's. -/
theorem Kept.later (h : Kept S w w') (k : Kept S' w' w'') (hS : ∀ b, S' b → w.heap.size ≤ b) : Kept S w w'' :=
  ⟨k.os.trans h.os, k.tape.trans h.tape, k.output.trans h.output, Nat.le_trans h.size k.size, fun i hi hs => (k.block i (Nat.lt_of_lt_of_le hi h.size) (fun s => by have := hS i s; omega)).trans (h.block i hi hs)⟩
theorem Kept.mono (h : Kept S w w') (hS : ∀ k, k < w.heap.size → S k → S' k) : Kept S' w w' := ⟨h.os, h.tape, h.output, h.size, fun k hk hs => h.block k hk (fun x => hs (hS k hk x))⟩
theorem Kept.drew (w : World) : Kept S w w.drew := ⟨rfl, rfl, rfl, Nat.le_refl _, fun _ _ _ => rfl⟩
theorem Kept.drewN (S : Nat → Prop) (w : World) (n : Nat) : Kept S w (w.drewN n) := ⟨rfl, rfl, rfl, Nat.le_refl _, fun _ _ _ => rfl⟩
theorem Kept.alloc (w : World) (o : Obj) : Kept S w (w.alloc o) := ⟨rfl, rfl, rfl, by simp, fun k hk _ => Below.heap_alloc _ _ _ hk⟩
theorem Kept.setCell (w : World) {p : Addr} (hp : S p.block) (u : Value) : Kept S w (w.setCell p u) :=
  ⟨rfl, rfl, rfl, by simp [World.setCell], fun k _ hs => Below.heap_setCell _ _ _ _ (fun e => hs (e ▸ hp))⟩
theorem Kept.grown {row : Option Nat} (h : w.grownBy w' row) (hr : ∀ k, row = some k → S k) : Kept S w w' :=
  ⟨h.os, h.tape, h.output, h.size, fun k hk hs => h.block k hk (fun e => hs (hr k e.symm))⟩
theorem Kept.of_below (h : Below w.heap.size w w') : Kept S w w' := ⟨h.os, h.tape, h.output, h.size, fun k hk _ => h.block k hk⟩
theorem Kept.to_below {B : Nat} (h : Kept S w w') (hB : ∀ k, S k → B ≤ k) (hBw : B ≤ w.heap.size) : Below B w w' :=
  ⟨h.os, h.tape, h.output, h.size, fun k hk => h.block k (by omega) (fun s => by have := hB k s; omega)⟩
theorem Blk.kept {g : Nat} {t : TypeId} {cs : Array Value} (h : Blk w g t cs) (hk : Kept S w w') (hg : ¬ S g) : Blk w' g t cs := (hk.block g h.lt hg).trans h
end
theorem own_kept {w w' : World} {Z : Nat → Prop} {base : Nat} {e : TypeId} {size n : Nat} {v : Value} {xs : List Value} (h : w.ownsRow base e size v n xs) (hk : Kept Z w w') (hz : ∀ b, base ≤ b → ¬ Z b) : w'.ownsRow base e size v n xs := by
  obtain ⟨h1, h2⟩ := h
  refine ⟨h1, ?_⟩
  rcases h2 with h2 | ⟨g, cap, cur, hv, hg, hh, r⟩
  · exact .inl h2
  · have hlt : g < w.heap.size := by
      rcases Nat.lt_or_ge g w.heap.size with hlt | hge
      · exact hlt
      · rw [Array.getElem?_eq_none hge] at hh; cases hh
    exact .inr ⟨g, cap, cur, hv, hg, (hk.block g hlt (hz g hg)).trans hh, r⟩
theorem own_slice {w : World} {base : Nat} {e : TypeId} {size n : Nat} {v : Value} {xs : List Value} (h : w.ownsRow base e size v n xs) : ∃ A cap, v = .slice A n cap := by
  rcases h.2 with ⟨rfl, rfl⟩ | ⟨g, cap, cur, rfl, _⟩
  · have := h.1
    rcases h.2 with ⟨e1, e2⟩ | ⟨g, cap, cur, e1, _⟩
    · exact ⟨_, _, e1⟩
    · exact ⟨_, _, e1⟩
  · exact ⟨_, _, rfl⟩
/-- A slice of numbers that reads as a list. -/
def IntsAt (w : World) (v : Value) (xs : List Int) : Prop :=
  ∃ A c, v = .slice A xs.length c ∧ ∀ i, i < xs.length → ∃ b o, A = some ⟨b, o, none⟩ ∧ b < w.heap.size ∧ w.cell? ⟨b, o + i, none⟩ = some (.int .i64 (xs.getD i 0))
theorem lt_of_cell {w : World} {b o : Nat} {v : Value} (h : w.cell? ⟨b, o, none⟩ = some v) : b < w.heap.size := by
  rcases Nat.lt_or_ge b w.heap.size with hlt | hge
  · exact hlt
  · simp [World.cell?, Array.getElem?_eq_none hge] at h
theorem IntsAt.of_own {w : World} {base : Nat} {e : TypeId} {v : Value} {n : Nat} {xs : List Int} (h : w.ownsRow base e 1 v n (xs.map (Value.int .i64))) : IntsAt w v xs := by
  have hl : xs.length = n := by simpa using h.1
  subst hl
  rcases h.2 with ⟨rfl, h0⟩ | ⟨g, cap, cur, rfl, _⟩
  · exact ⟨none, 0, by rw [h0], fun i hi => by omega⟩
  · refine ⟨_, _, rfl, fun i hi => ⟨g, 0, rfl, ?_⟩⟩
    have hc := h.cellAt (g := g) i (by omega)
    rw [List.getElem?_map, List.getElem?_eq_getElem hi] at hc
    have hc' : w.cell? ⟨g, 0 + i, none⟩ = some (.int .i64 (xs.getD i 0)) := by rw [Nat.zero_add, hc, List.getD_eq_getElem?_getD, List.getElem?_eq_getElem hi]; rfl
    exact ⟨lt_of_cell hc', hc'⟩
theorem IntsAt.kept {w w' : World} {Z : Nat → Prop} {v : Value} {xs : List Int} (h : IntsAt w v xs) (hk : Kept Z w w') (hz : ∀ A n c, v = .slice (some A) n c → ¬ Z A.block) : IntsAt w' v xs := by
  obtain ⟨A, c, rfl, hc⟩ := h
  refine ⟨A, c, rfl, fun i hi => ?_⟩
  obtain ⟨b, o, rfl, hb, h1⟩ := hc i hi
  exact ⟨b, o, rfl, Nat.lt_of_lt_of_le hb hk.size, (World.cell?_of_block (w := w) (a := ⟨b, o + i, none⟩) (hk.block b hb (hz _ _ _ rfl))).trans h1⟩
/-- A Stepper, as a value, and how often it has been called: 'own': the blocks that its Step writes. -/
structure Stepper where
  v : Value
  own : Nat → Prop
  at_ : Nat → World → Prop
  keep : ∀ {k : Nat} {w w' : World} {Z : Nat → Prop}, at_ k w → Kept Z w w' → (∀ b, own b → ¬ Z b) → at_ k w'
  old : ∀ {k : Nat} {w : World} {b : Nat}, at_ k w → own b → b < w.heap.size
/-- No Stepper. -/
def Stepper.none : Stepper := { v := .nilIface, own := fun _ => False, at_ := fun _ _ => True, keep := fun _ _ _ => trivial, old := fun _ h => h.elim }
/-- What a package's own 'step' does with it. -/
def Stepper.Steps (X : Stepper) (P : Program) (f : FuncId) : Prop :=
  ∀ (k : Nat) (w : World), X.at_ k w → Calls P f #[X.v] w fun e w' => e = .returned (.tuple #[]) ∧ X.at_ (k + 1) w' ∧ Kept X.own w w' ∧ w'.heap.size = w.heap.size
/-- A contract 'the world is left as it is', met inside a region that draws its order. -/
theorem quietS {P : Program} {f : FuncId} {args : Array Value} {w : World} {n : Nat} {v : Value}
    (h : Calls P f args (w.drewN n) fun e w' => e = .returned v ∧ w.drewN n = w') : Calls P f args (w.drewN n) fun e w'' => e = .returned v ∧ ∃ m, w'' = w.drewN m :=
  h.mono fun _ _ ⟨he, hm⟩ => ⟨he, n, hm.symm⟩
end Go.Proofs.Yteainbnoemkfcaa
/- DERIVED. The turnstile (package turn), the threads' side: Step at a stand. -/
namespace Go.Proofs.Yteainbnoemkfcaa
open Go.RowKit Go.Turn Go.Tame Go.Conc
set_option linter.unusedVariables false
theorem lg_tu {P : Program} {hP : Prog P} {e : Env P} {i : Nat} {bot : List Frame} {t : Tree e.S e.S} {fr : Frame} {mid : List Frame} {x : World} (h : ∀ ov br, Tv e.g ov br x → i < e.g.n → (lgTh hP e i bot).T t fr mid x) : (lgTh hP e i bot).T t fr mid x :=
  fun hn => th_tu fun ov br tv hi _ _ => h ov br tv hi hn
theorem send_step {P : Program} {b : Frame} {a : Act} {kk : List Item} {cs : List Frame} {ops : Array Oper} {i : Nat} {rest : List Nat} {o : Oper} {c : Nat} {v z' : Value} (ho : ops[i]? = some o) (hw : Region.wanted o (yielded ops a.tmps) = true) (hk : b.kind ≠ .early)
    (hr : ∀ w, (execOp a.eval o).run P w = .ok (.comm #[scase c v z'] true .send) w) (he : ∀ w, (execOp a.eval o).events P w #[] = #[]) (main : Bool) (w : World) :
    stepG P main (G (b.at a (.inRegion ops (i :: rest) :: kk)) cs) w = .comm (G (b.at a (.inRegion ops (i :: rest) :: kk)) cs) #[scase c v z'] true .send w #[] := by
  rw [stepG_comm ho hw hk (hr w), listed_none (he w)]
theorem inv_fin {P : Program} {f g c : Frame} {cs : List Frame} (hk : f.kind = .normal ∨ f.kind = .deferred) (hr : f.roundOf = none) (hall : AllOk P true f.todo) (hd : f.defers = []) (v : Value) (hI : Inv P g (c :: cs)) : Inv P (f.finish v) (c :: cs) :=
  ⟨FrOk.on ⟨hk, hr, hall, fun d h => by rw [hd] at h; cases h⟩ (on_finish v hall), hI.2⟩
/-- What a thread panics with that is ended. -/
def endE (g : Gs) : PanicEntry := { v := .iface 128 (.agg #[.iface 111 (.pointer (some ⟨g.tb, 0, none⟩))]), recovered := false }
set_option maxRecDepth 100000 in
/-- The law of Step at a stand; 'Cap': what else the thread holds. -/
theorem stand_step (hP : Prog Try.prog) (e : Env Try.prog) (i : Nat) (botR : Frame) (rest : List Frame) (Cap : (Nat → Prop) → World → Prop) (hre : ∀ H w τ n, Cap H w → Cap H (w.re τ n)) (hcap : ∀ H w H' w', Cap H w → Held H w H' w' → Cap H' w')
    (hend : ∀ σ H x, e.Rep σ H x → Cap H x → Th e i (.ret σ) (botR.raise [endE e.g]) rest x) (s : e.S) (H₀ : Nat → Prop) (k : e.S → Tree e.S e.S) (w : World) (hrep : e.Rep s H₀ w) (hc : Cap H₀ w) :
    Ccalls (lgTh hP e i (botR :: rest)) 79 #[.pointer (some ⟨e.g.sb i, 0, none⟩)] (.yield s k) w fun u t' w' => u = .tuple #[] ∧ ∃ s' H', t' = k s' ∧ (e.Rep s' H' w' ∧ Cap H' w') ∧ Held H₀ w H' w' := by
  intro c mid hR
  refine lg_tu fun ov br tv hi => ?_
  rw [show Frame.enter Try.prog 79 #[.pointer (some ⟨e.g.sb i, 0, none⟩)] .normal = Frame.at { (default : Frame) with fn := 79, kind := .normal } ⟨#[.pointer (some ⟨e.g.sb i, 0, none⟩)] ++ Array.replicate (Try.f79.ntmps - 1) undef, []⟩ [.code (Try.f79.body.getD .skip)] from by simp [Frame.enter, Frame.at, Try.func79]; rfl]
  simp only [Try.f79, Option.getD_some, Nat.reduceSub, Array.replicate_succ, Array.replicate_zero, List.push_toArray, List.append_toArray, List.nil_append, List.cons_append]
  refine Lg.move _ (fun _ _ => step_seq) id ?_
  refine Lg.move _ (fun _ _ => step_region) id ?_
  refine Lg.pre 0 8 1 (by simp) fun K hK y τ n hy => ?_
  subst hy
  have h1 : y.cell? ⟨e.g.sb i, 0, none⟩ = some (.pointer (some ⟨e.g.tb, 0, none⟩)) := tv.s0 i hi
  have h2 : y.cell? ⟨e.g.tb, 0, none⟩ = some (.chan (some e.g.bk)) := tv.t0
  simp only [List.drop_zero, List.take_succ_cons, List.take_zero]
  go_wp2
  refine hK _ _ (fun _ => rfl) ?_
  have hrep' : e.Rep s H₀ y := e.rep s H₀ _ y hrep (fun _ _ => rfl) (fun b c t r _ h => ⟨r, h⟩)
  have hc' : Cap H₀ y := hre H₀ (y.re τ n) y.tape y.drawn hc
  intro hn
  show Th e i _ (Frame.at _ _ (.inRegion _ [8] :: _)) ((c :: mid) ++ botR :: rest) y
  clear hK K
  apply th_yield (s := s) (H₀ := H₀) (k := k) hrep'
  case hsend => exact send_step (z' := .tuple #[]) rfl rfl (by decide) (fun w => by simp [execOp, scase, Act.eval]) (fun w => by simp [go_sem, execOp, Act.eval])
  case hway =>
    intro B b1 b2 b3
    refine .inl ⟨7, default, rfl, ?_⟩
    rw [show (Frame.finish _ undef) = _ from Frame.finish_at ..]
    walk_nrm
    k_c stepG_region_end
    k_c stepG_seq
    k_reg
    (k_in; refine goes_oper_k rfl rfl (by decide) (fun K hK => ?_); go_simp; refine hK _ _ ⟨⟨rfl, fun e he => by (have hm := mem_listed he; simp [go_sem] at hm)⟩, ?_⟩; clear hK K)
    (k_in; refine goes_oper_k rfl rfl (by decide) (fun K hK => ?_); go_simp; refine hK _ _ ⟨⟨rfl, fun e he => by (have hm := mem_listed he; simp [go_sem] at hm)⟩, ?_⟩; clear hK K)
    (k_in; refine goes_oper_k rfl rfl (by decide) (fun K hK => ?_); go_simp; refine hK _ _ ⟨⟨rfl, fun e he => by (have hm := mem_listed he; simp [go_sem] at hm)⟩, ?_⟩; clear hK K)
    (k_in; refine goes_oper_k rfl rfl (by decide) (fun K hK => ?_); have := h₁.s i hi; go_simp; refine hK _ _ ⟨⟨rfl, fun e he => by (have hm := mem_listed he; simp [go_sem, *] at hm; subst hm; exact evC_read _ ⟨_, rfl, .inr (.inr ⟨i, hi, rfl⟩)⟩ (b3 i hi))⟩, ?_⟩; clear hK K)
    exact fun _ _ => ⟨_, atIn_of (s := wSeat e.g i _) rfl rfl (by decide) (fun w => by simp [go_sem, execOp, rcase, Act.eval, wSeat, Seat.one]) (fun w => by simp [go_sem, execOp, Act.eval]) rfl⟩
  case hinv =>
    refine fun hI v => inv_fin (.inl rfl) rfl ?_ rfl v hI
    simp only [Frame.at, AllOk, List.forall_mem_cons, List.not_mem_nil, false_implies, implies_true, and_true]
    refine ⟨?_, ?_⟩ <;> (simp only [ItemOk]; kernel_rfl)
  case hgo =>
    intro σ H₁ x' hr hh
    have hR' : ∀ x, e.Rep σ H₁ x → Held H₀ y H₁ x → (lgTh hP e i (botR :: rest)).T (k σ) (c.finish (.tuple #[])) mid x := fun x h1 h2 => hR _ _ _ ⟨rfl, σ, H₁, rfl, ⟨h1, hcap _ _ _ _ hc' h2⟩, re_held.2 h2⟩
    clear hR
    rw [Frame.finish_at]
    walk_nrm
    refine (show (lgTh hP e i (botR :: rest)).T (k σ) (Frame.at _ ⟨_, []⟩ (.inRegion _ (List.range' 5 (1 + 0)) :: _)) (c :: mid) x' from ?_) ⟨rfl, hn.below⟩
    refine Lg.pre 5 1 0 (by simp) fun K hK z τ' n' hz => ?_
    subst hz
    have hr' : e.Rep σ H₁ z := e.rep σ H₁ _ z hr (fun _ _ => rfl) (fun b c t r _ h => ⟨r, h⟩)
    have hh' : Held H₀ y H₁ z := held_re.1 hh
    simp only [List.drop_succ_cons, List.drop_zero, List.take_succ_cons, List.take_zero]
    go_wp2
    refine hK _ _ (fun _ => rfl) ?_
    clear hK K
    refine Lg.move _ (fun _ _ => step_region_end) id ?_
    refine Lg.move _ (fun _ _ => step_cond rfl) id ?_
    refine Lg.move _ (fun _ _ => step_skip) id ?_
    refine Lg.move _ (fun _ _ => step_end) id ?_
    exact Lg.leave rfl Try.func79 rfl (fun _ _ _ _ => by simp [results, Try.f79]) (hR' z hr' hh')
  case hout =>
    intro σ H₁ x' hr hh
    have hcx : Cap H₁ x' := hcap _ _ _ _ hc' hh
    clear hR
    rw [Frame.finish_at]
    walk_nrm
    refine (show (lgTh hP e i (botR :: rest)).T (.ret σ) (Frame.at _ ⟨_, []⟩ (.inRegion _ (List.range' 5 (1 + 0)) :: _)) (c :: mid) x' from ?_) ⟨rfl, hn.below⟩
    refine lg_tu fun ov br tv hi => ?_
    refine Lg.pre 5 1 0 (by simp) fun K hK z τ' n' hz => ?_
    subst hz
    have hr' : e.Rep σ H₁ z := e.rep σ H₁ _ z hr (fun _ _ => rfl) (fun b c t r _ h => ⟨r, h⟩)
    have hcx' : Cap H₁ z := hre H₁ (z.re τ' n') z.tape z.drawn hcx
    have h1 : z.cell? ⟨e.g.sb i, 0, none⟩ = some (.pointer (some ⟨e.g.tb, 0, none⟩)) := tv.s0 i hi
    simp only [List.drop_succ_cons, List.drop_zero, List.take_succ_cons, List.take_zero]
    go_wp2
    refine hK _ _ (fun _ => rfl) ?_
    clear hK K
    refine Lg.move _ (fun _ _ => step_region_end) id ?_
    refine Lg.move _ (fun _ _ => step_cond rfl) id ?_
    refine Lg.move _ (fun _ _ => step_region) id ?_
    refine Lg.pre 0 7 1 (by simp) fun K hK u τ2 n2 hu => ?_
    subst hu
    have hr2 : e.Rep σ H₁ u := e.rep σ H₁ _ u hr' (fun _ _ => rfl) (fun b c t r _ h => ⟨r, h⟩)
    have hcx2 : Cap H₁ u := hre H₁ (u.re τ2 n2) u.tape u.drawn hcx'
    have h2 : u.cell? ⟨e.g.sb i, 0, none⟩ = some (.pointer (some ⟨e.g.tb, 0, none⟩)) := h1
    simp only [List.drop_zero, List.take_succ_cons, List.take_zero]
    go_wp2
    refine hK _ _ (fun _ => rfl) ?_
    clear hK K
    refine Lg.pan (i := 7) rfl rfl [endE e.g] (fun v τ3 n3 hv => ?_) fun todo => ?_
    · go_simp
      go_simp
      rfl
    · intro hn2
      refine th_tu fun ov br tv hi hI _ => ?_
      refine th_close hP fun τ4 n4 => ?_
      obtain ⟨N, hs⟩ := pop_all (y := u.re τ4 n4) (c :: mid) _ rfl rfl hn.below hI
      exact ⟨N, botR.raise [endE e.g], rest, u.re τ4 n4, by simpa using hs, (hend σ H₁ u hr2 hcx2).re τ4 n4⟩
end Go.Proofs.Yteainbnoemkfcaa
/- DERIVED. The turnstile (package turn), goroutine 0's side: let, and Over's step. -/
namespace Go.Proofs.Yteainbnoemkfcaa
open Go.RowKit Go.Turn Go.Tame Go.Conc
set_option linter.unusedVariables false
set_option maxRecDepth 100000 in
theorem let_calls (hP : Prog Try.prog) (e : Env Try.prog) (hn : e.g.n ≤ 64) (N : Nat) (m : Mach e.S) (i : Nat) (hi : i < e.g.n) (k : e.S → Tree e.S e.S) (hk : m.th i = .wait k) (pass : Bool) (κ : Tree e.S e.S) (hκ : κ = if pass then k m.s else .ret m.s) (hw : κ ≠ .cut) (w : World) :
    Ccalls (lgM hP e) 56 #[.pointer (some ⟨e.g.tb, 0, none⟩), .int .i64 i, .bool pass] (N, m) w fun u t' w' => u = .tuple #[] ∧ t' = (N, m.did i κ) ∧ HeldM w w' := by
  intro c mid hR
  refine lgm_tu fun ov br tv _ => ?_
  rw [show Frame.enter Try.prog 56 #[.pointer (some ⟨e.g.tb, 0, none⟩), .int .i64 i, .bool pass] .normal = Frame.at { (default : Frame) with fn := 56, kind := .normal } ⟨#[.pointer (some ⟨e.g.tb, 0, none⟩), .int .i64 i, .bool pass] ++ Array.replicate (Try.f56.ntmps - 3) undef, []⟩ [.code (Try.f56.body.getD .skip)] from by simp [Frame.enter, Frame.at, Try.func56]; rfl]
  simp only [Try.f56, Option.getD_some, Nat.reduceSub, Array.replicate_succ, Array.replicate_zero, List.push_toArray, List.append_toArray, List.nil_append, List.cons_append]
  refine Lg.move _ (fun _ _ => step_seq) id ?_
  refine Lg.move _ (fun _ _ => step_region) id ?_
  refine Lg.pre 0 11 1 (by simp) fun K hK y τ n hy => ?_
  subst hy
  have h1 : y.cell? ⟨e.g.tb, 1, none⟩ = some (.slice (some ⟨e.g.ab, 0, none⟩) e.g.n e.g.cap) := tv.t1
  have h2 : y.cell? ⟨e.g.ab, i, none⟩ = some (.pointer (some ⟨e.g.sb i, 0, none⟩)) := tv.a i hi
  have h3 : y.cell? ⟨e.g.sb i, 1, none⟩ = some (.chan (some (e.g.ps i))) := tv.s1 i hi
  simp only [List.drop_zero, List.take_succ_cons, List.take_zero]
  go_wp2
  refine hK _ _ (fun h => h.elim) ?_
  clear hK K
  show Mn e N m (Frame.at _ _ (.inRegion _ [11] :: _)) (c :: mid) y
  apply mn_let (i := i) (pass := pass) (k := k) hi hk κ hκ hw
  case hsend => exact send_step (z' := .tuple #[]) rfl rfl (by decide) (fun w => by simp [execOp, scase, Act.eval]) (fun w => by simp [go_sem, execOp, Act.eval])
  case hway =>
    intro B b1 b2 b3
    refine .inl ⟨6, default, rfl, ?_⟩
    rw [show (Frame.finish _ undef) = _ from Frame.finish_at ..]
    walk_nrm
    k_c stepG_region_end
    k_reg
    (k_in; refine goes_oper_k rfl rfl (by decide) (fun K hK => ?_); go_simp; refine hK _ _ ⟨⟨rfl, fun e he => by (have hm := mem_listed he; simp [go_sem] at hm)⟩, ?_⟩; clear hK K)
    (k_in; refine goes_oper_k rfl rfl (by decide) (fun K hK => ?_); go_simp; refine hK _ _ ⟨⟨rfl, fun e he => by (have hm := mem_listed he; simp [go_sem] at hm)⟩, ?_⟩; clear hK K)
    (k_in; refine goes_oper_k rfl rfl (by decide) (fun K hK => ?_); go_simp; refine hK _ _ ⟨⟨rfl, fun e he => by (have hm := mem_listed he; simp [go_sem] at hm)⟩, ?_⟩; clear hK K)
    (k_in; refine goes_oper_k rfl rfl (by decide) (fun K hK => ?_); have := h₁.t; go_simp; refine hK _ _ ⟨⟨rfl, fun e he => by (have hm := mem_listed he; simp [go_sem, *] at hm; subst hm; exact evC_read _ ⟨_, rfl, .inr (.inl rfl)⟩ b2)⟩, ?_⟩; clear hK K)
    exact fun _ _ => ⟨_, atIn_of (s := mainSeat e.g _) rfl rfl (by decide) (fun w => by simp [go_sem, execOp, rcase, Act.eval, mainSeat, Seat.one]) (fun w => by simp [go_sem, execOp, Act.eval]) rfl⟩
  case hinv =>
    refine fun hI => inv_fin (.inl rfl) rfl ?_ rfl _ hI
    simp only [Frame.at, AllOk, List.forall_mem_cons, List.not_mem_nil, false_implies, implies_true, and_true]
    simp only [ItemOk]
    kernel_rfl
  case hgo =>
    intro m' hm' x' hh
    rw [Mach.put_did hw] at hm'
    cases hm'
    rw [Frame.finish_at]
    walk_nrm
    refine (show (lgM hP e).T (N, m.did i κ) _ _ x' from ?_)
    refine Lg.move _ (fun _ _ => step_region_end) id ?_
    refine Lg.move _ (fun _ _ => step_end) id ?_
    exact Lg.leave rfl Try.func56 rfl (fun _ _ _ _ => by simp [results, Try.f56]) (hR _ _ _ ⟨rfl, rfl, ⟨hh.size, hh.block⟩⟩)
end Go.Proofs.Yteainbnoemkfcaa
/- DERIVED. The turnstile (package turn), goroutine 0's side: Over's step. -/
namespace Go.Proofs.Yteainbnoemkfcaa
open Go.RowKit Go.Turn Go.Tame Go.Conc
set_option linter.unusedVariables false
theorem Try.infoInt : (Try.prog.info? 3).map (fun i => (i.zero, i.size, i.bytes)) = some (some (.int .i64 0), 1, 8) := by kernel_rfl
/-- What goroutine 0 holds while the threads go by turns. -/
structure OvS (e : Env Try.prog) (base bn bo bm bl most : Nat) (c : Run e.S) (x : World) : Prop where
  n : Blk x bn 3 #[.int .i64 e.g.n]
  m : Blk x bm 3 #[.int .i64 most]
  l : Blk x bl 3 #[.int .i64 (c.m.left e.g.n)]
  o : ∃ v, Blk x bo 24 #[v] ∧ x.ownsRow base 3 1 v c.order.length (c.order.map (Value.int .i64))
  lt : bn < base ∧ bo < base ∧ bm < base ∧ bl < base ∧ base ≤ x.heap.size
  ne : bo ≠ bn ∧ bo ≠ bm ∧ bo ≠ bl ∧ bl ≠ bn ∧ bl ≠ bm
/-- The blocks that it writes. -/
def OvZ (base bo bl : Nat) (b : Nat) : Prop := b = bo ∨ b = bl ∨ base ≤ b
section
variable {bn bo bm bl n most : Nat} {i : Int} {w : World}
/-- What step finds. -/
structure StepAt (g : Gs) (bn bo bm bl most k : Nat) (ov : Bool) (i : Int) (w : World) : Prop where
  n : w.cell? ⟨bn, 0, none⟩ = some (.int .i64 g.n)
  m : w.cell? ⟨bm, 0, none⟩ = some (.int .i64 most)
  o : ∃ A cap, w.cell? ⟨bo, 0, none⟩ = some (.slice A k cap)
  tv : w.cell? ⟨g.tv, 0, none⟩ = some (.pointer (some ⟨g.tb, 0, none⟩))
  t1 : w.cell? ⟨g.tb, 1, none⟩ = some (.slice (some ⟨g.ab, 0, none⟩) g.n g.cap)
  a : 0 ≤ i → i < g.n → w.cell? ⟨g.ab, i.toNat, none⟩ = some (.pointer (some ⟨g.sb i.toNat, 0, none⟩))
  s : 0 ≤ i → i < g.n → w.cell? ⟨g.sb i.toNat, 2, none⟩ = some (.bool ov)
theorem step_neg {g : Gs} {k : Nat} {ov : Bool} (hg : g.n ≤ 64) (hi : i < 0) (h : StepAt g bn bo bm bl most k ov i w) : Calls Try.prog 55 #[.int .i64 i, .pointer (some ⟨bn, 0, none⟩), .pointer (some ⟨g.tv, 0, none⟩), .pointer (some ⟨bo, 0, none⟩), .pointer (some ⟨bm, 0, none⟩), .pointer (some ⟨bl, 0, none⟩)] w fun e w' => e = .returned (.tuple #[]) ∧ w = w' := by
  have h1 : decide (i < 0) = true := by simpa using hi
  clear h
  go_enter Try.func55, Try.ntmps55
  go_wp2
  (try simp only [Exit.inBlock, Exit.then]); refine bodyPost_ret (results_none rfl _ _ _) rfl ?_
  exact ⟨rfl, rfl⟩
theorem step_big {g : Gs} {k : Nat} {ov : Bool} (hg : g.n ≤ 64) (h0 : 0 ≤ i) (hi : (g.n : Int) ≤ i) (h : StepAt g bn bo bm bl most k ov i w) : Calls Try.prog 55 #[.int .i64 i, .pointer (some ⟨bn, 0, none⟩), .pointer (some ⟨g.tv, 0, none⟩), .pointer (some ⟨bo, 0, none⟩), .pointer (some ⟨bm, 0, none⟩), .pointer (some ⟨bl, 0, none⟩)] w fun e w' => e = .returned (.tuple #[]) ∧ w = w' := by
  have h1 : decide (i < 0) = false := by simpa using h0
  have h2 : decide ((g.n : Int) ≤ i) = true := by simpa using hi
  have h3 := h.n
  clear h
  go_enter Try.func55, Try.ntmps55
  go_wp2
  (try simp only [Exit.inBlock, Exit.then]); refine bodyPost_ret (results_none rfl _ _ _) rfl ?_
  exact ⟨rfl, rfl⟩
theorem step_over {g : Gs} {k : Nat} (hg : g.n ≤ 64) (h0 : 0 ≤ i) (hi : i < g.n) (h : StepAt g bn bo bm bl most k true i w) : Calls Try.prog 55 #[.int .i64 i, .pointer (some ⟨bn, 0, none⟩), .pointer (some ⟨g.tv, 0, none⟩), .pointer (some ⟨bo, 0, none⟩), .pointer (some ⟨bm, 0, none⟩), .pointer (some ⟨bl, 0, none⟩)] w fun e w' => e = .returned (.tuple #[]) ∧ w = w' := by
  have h1 : decide (i < 0) = false := by simpa using h0
  have h2 : decide ((g.n : Int) ≤ i) = false := by simpa using hi
  have h3 := h.n
  have h4 := h.tv
  have h5 := h.t1
  have h6 := h.a h0 hi
  have h7 := h.s h0 hi
  clear h
  go_enter Try.func55, Try.ntmps55
  go_wp2
  (try simp only [Exit.inBlock, Exit.then]); refine bodyPost_ret (results_none rfl _ _ _) rfl ?_
  exact ⟨rfl, rfl⟩
theorem step_full {g : Gs} (hg : g.n ≤ 64) (h0 : 0 ≤ i) (hi : i < g.n) (h : StepAt g bn bo bm bl most most false i w) : Calls Try.prog 55 #[.int .i64 i, .pointer (some ⟨bn, 0, none⟩), .pointer (some ⟨g.tv, 0, none⟩), .pointer (some ⟨bo, 0, none⟩), .pointer (some ⟨bm, 0, none⟩), .pointer (some ⟨bl, 0, none⟩)] w fun e w' => e = .returned (.tuple #[]) ∧ w = w' := by
  have h1 : decide (i < 0) = false := by simpa using h0
  have h2 : decide ((g.n : Int) ≤ i) = false := by simpa using hi
  have h3 := h.n
  have h4 := h.tv
  have h5 := h.t1
  have h6 := h.a h0 hi
  have h7 := h.s h0 hi
  obtain ⟨A, cap, h8⟩ := h.o
  have h9 := h.m
  clear h
  go_enter Try.func55, Try.ntmps55
  go_wp2
  (try simp only [Exit.inBlock, Exit.then]); refine bodyPost_ret (results_none rfl _ _ _) rfl ?_
  exact ⟨rfl, rfl⟩
end
theorem heldx_of {Z : Nat → Prop} {w w' : World} (hs : w.heap.size ≤ w'.heap.size) (h : ∀ b, ¬ Z b → b < w.heap.size → w'.heap[b]? = w.heap[b]?) : HeldX Z w w' :=
  ⟨hs, fun b c t r hz hb _ => (h b hz (lt_of_some hb)).trans hb⟩
theorem blk_heldx {Z : Nat → Prop} {w w' : World} (h : HeldX Z w w') {b : Nat} {t : TypeId} {cs : Array Value} (hb : Blk w b t cs) (hz : ¬ Z b) : Blk w' b t cs := h.block b cs t (0, 0) hz hb (.inl (by decide))
theorem own_heldm {w w' : World} {base : Nat} {e : TypeId} {size n : Nat} {v : Value} {xs : List Value} (hh : HeldM w w') (h : w.ownsRow base e size v n xs) : w'.ownsRow base e size v n xs := by
  obtain ⟨h1, h2⟩ := h
  refine ⟨h1, ?_⟩
  rcases h2 with h2 | ⟨g, cap, cur, hv, hg, hh', r⟩
  · exact .inl h2
  · exact .inr ⟨g, cap, cur, hv, hg, hh.block _ _ _ _ hh' (.inl (by decide)), r⟩
theorem OvS.heldm {e : Env Try.prog} {base bn bo bm bl most : Nat} {c : Run e.S} {x x' : World} (h : OvS e base bn bo bm bl most c x) (hh : HeldM x x') : OvS e base bn bo bm bl most c x' := by
  have hx : HeldX (fun _ => False) x x' := hh.x
  obtain ⟨v, h1, h2⟩ := h.o
  exact ⟨blk_heldx hx h.n id, blk_heldx hx h.m id, blk_heldx hx h.l id, ⟨v, blk_heldx hx h1 id, own_heldm hh h2⟩, by have := h.lt; have := hh.size; omega, h.ne⟩
theorem own_len {w : World} {base : Nat} {e : TypeId} {n : Nat} {v : Value} {xs : List Value} (h : w.ownsRow base e 1 v n xs) : ∃ A cap, v = .slice A n cap := own_slice h
theorem OvS.at {e : Env Try.prog} {base bn bo bm bl most : Nat} {c : Run e.S} {x : World} {ov br : Nat → Bool} {i : Int} (h : OvS e base bn bo bm bl most c x) (tv : Tv e.g ov br x) (ho : ∀ j, j < e.g.n → ov j = (c.m.th j).isOver) : StepAt e.g bn bo bm bl most c.order.length (c.m.th i.toNat).isOver i x := by
  refine ⟨h.n.cell 0, h.m.cell 0, ?_, tv.v, tv.t1, fun h0 h1 => tv.a _ (by omega), fun h0 h1 => ?_⟩
  · obtain ⟨v, h1, h2⟩ := h.o
    obtain ⟨A, cap, rfl⟩ := own_len h2
    exact ⟨A, cap, h1.cell 0⟩
  · rw [← ho _ (by omega)]; exact tv.s2 _ (by omega)
/-- Where it is nobody's turn. -/
theorem over_idle (hP : Prog Try.prog) (e : Env Try.prog) (hn : e.g.n ≤ 64) {base bn bo bm bl most N : Nat} {c : Run e.S} {i : Int} {w : World} (h : OvS e base bn bo bm bl most c w) (hmay : c.may e.g.n most i = false) :
    Ccalls (lgM hP e) 55 #[.int .i64 i, .pointer (some ⟨bn, 0, none⟩), .pointer (some ⟨e.g.tv, 0, none⟩), .pointer (some ⟨bo, 0, none⟩), .pointer (some ⟨bm, 0, none⟩), .pointer (some ⟨bl, 0, none⟩)] (N, c.m) w fun u t' w' => u = .tuple #[] ∧ t' = (N, c.m) ∧ OvS e base bn bo bm bl most c w' ∧ HeldM w w' := by
  intro c' mid hR
  refine lgm_tu fun ov br tv ho => ?_
  have hs := h.at tv ho (i := i)
  refine (ccalls_lone (R := fun u t' w' => u = .tuple #[] ∧ t' = (N, c.m) ∧ OvS e base bn bo bm bl most c w' ∧ HeldM w w') (fun y τ n hy => ?_) : Ccalls (lgM hP e) _ _ (N, c.m) w _) c' mid hR
  subst hy
  have key : Calls Try.prog 55 #[.int .i64 i, .pointer (some ⟨bn, 0, none⟩), .pointer (some ⟨e.g.tv, 0, none⟩), .pointer (some ⟨bo, 0, none⟩), .pointer (some ⟨bm, 0, none⟩), .pointer (some ⟨bl, 0, none⟩)] y fun e' w' => e' = .returned (.tuple #[]) ∧ y = w' := by
    have hs' : StepAt e.g bn bo bm bl most c.order.length (c.m.th i.toNat).isOver i y := ⟨hs.n, hs.m, hs.o, hs.tv, hs.t1, hs.a, hs.s⟩
    simp only [Run.may, Bool.and_eq_false_iff, decide_eq_false_iff_not, Bool.not_eq_false', beq_iff_eq] at hmay
    by_cases h0 : i < 0
    · exact step_neg hn h0 hs'
    · by_cases h1 : (e.g.n : Int) ≤ i
      · exact step_big hn (by omega) h1 hs'
      · by_cases h2 : (c.m.th i.toNat).isOver = true
        · rw [h2] at hs'
          exact step_over hn (by omega) (by omega) hs'
        · have h2 : (c.m.th i.toNat).isOver = false := by simpa using h2
          have h3 : c.order.length = most := by
            rcases hmay with ((h | h) | h) | h
            · omega
            · omega
            · rw [h2] at h; cases h
            · exact h
          rw [h2, h3] at hs'
          exact step_full hn (by omega) (by omega) hs'
  refine key.mono fun e' w' hw => ?_
  obtain ⟨rfl, rfl⟩ := hw
  exact ⟨_, rfl, rfl, rfl, ⟨h.n, h.m, h.l, h.o, h.lt, h.ne⟩, ⟨Nat.le_refl _, fun _ _ _ _ hb _ => hb⟩⟩
end Go.Proofs.Yteainbnoemkfcaa
/- DERIVED. The turnstile (package turn), goroutine 0's side: Over's step, where it is a thread's turn. -/
namespace Go.Proofs.Yteainbnoemkfcaa
open Go.RowKit Go.Turn Go.Tame Go.Conc
set_option linter.unusedVariables false
theorem OvS.re {e : Env Try.prog} {base bn bo bm bl most : Nat} {c : Run e.S} {y : World} {τ : Nat → Question → Nat} {n : Nat} (h : OvS e base bn bo bm bl most c (y.re τ n)) : OvS e base bn bo bm bl most c y := ⟨h.n, h.m, h.l, h.o, h.lt, h.ne⟩
theorem blk_z {base bo bl b : Nat} (h1 : b < base) (h2 : b ≠ bo) (h3 : b ≠ bl) : ¬ OvZ base bo bl b := by unfold OvZ; omega
theorem new_one (w : World) (v : Value) (t : TypeId) : ∀ j u, [v][j]? = some u → (w.alloc (.cells #[v] t)).cell? ((⟨w.heap.size, 0, none⟩ : Addr).add j) = some u := by
  intro j u h
  cases j with
  | zero =>
    simp only [List.getElem?_cons_zero, Option.some.injEq] at h
    subst h
    exact (Blk.new w t #[v]).cell 0
  | succ j => simp at h
theorem one_cell (k : IntKind) (n : Int) : ∀ u ∈ [Value.int k n], u.oneCell' = true := by simp [Value.oneCell']
/-- Behind an append to a slice of its own. -/
theorem blk_app {u w1 : World} {o : Obj} {v : Value} {base b : Nat} {t : TypeId} {cs : Array Value} {e : TypeId} {n : Nat} {xs : List Value} (hb : Blk u b t cs) (hown : u.ownsRow base e 1 v n xs) (hg : (u.alloc o).grownBy w1 v.ownBlock) (hlt : b < base) : Blk w1 b t cs := by
  refine (hb.alloc o).grown hg fun h => ?_
  rcases hown.2 with ⟨rfl, _⟩ | ⟨g, cap, cur, rfl, hg', _⟩
  · cases h
  · simp [Value.ownBlock] at h; omega
theorem heap_app {u w1 : World} {o : Obj} {v : Value} {base b : Nat} {e : TypeId} {n : Nat} {xs : List Value} (hown : u.ownsRow base e 1 v n xs) (hg : (u.alloc o).grownBy w1 v.ownBlock) (hb : b < base) (hlt : b < u.heap.size) : w1.heap[b]? = u.heap[b]? := by
  refine (hg.block b (by simp; omega) fun h => ?_).trans (Below.heap_alloc _ _ _ hlt)
  rcases hown.2 with ⟨rfl, _⟩ | ⟨g, cap, cur, rfl, hg', _⟩
  · cases h
  · simp [Value.ownBlock] at h; omega
set_option maxRecDepth 100000 in
theorem over_turn (hP : Prog Try.prog) (e : Env Try.prog) (hn : e.g.n ≤ 64) {base bn bo bm bl most N : Nat} {c : Run e.S} {j : Nat} {w : World} (hmost : most ≤ 1048576) (hle : c.order.length ≤ most) (hgood : ∀ j, j < e.g.n → (c.m.th j).Good) (hmi : ∀ k, c.m.th j = .wait k → k c.m.s ≠ .cut) (h : OvS e base bn bo bm bl most c w) (hmay : c.may e.g.n most j = true) :
    Ccalls (lgM hP e) 55 #[.int .i64 j, .pointer (some ⟨bn, 0, none⟩), .pointer (some ⟨e.g.tv, 0, none⟩), .pointer (some ⟨bo, 0, none⟩), .pointer (some ⟨bm, 0, none⟩), .pointer (some ⟨bl, 0, none⟩)] (N, c.m) w fun u t' w' => u = .tuple #[] ∧ t' = (N, c.m.go j) ∧ OvS e base bn bo bm bl most ⟨c.m.go j, c.order ++ [(j : Int)]⟩ w' ∧ HeldX (OvZ base bo bl) w w' := by
  simp only [Run.may, Bool.and_eq_true, decide_eq_true_eq, Bool.not_eq_true', beq_eq_false_iff_ne, ne_eq, Int.toNat_natCast] at hmay
  obtain ⟨⟨⟨_, hj⟩, ho0⟩, hfull⟩ := hmay
  have hj : j < e.g.n := by omega
  have hlt : c.order.length < most := by omega
  obtain ⟨k, hk⟩ : ∃ k, c.m.th j = .wait k := by
    have := hgood j hj
    cases ht : c.m.th j with
    | wait k => exact ⟨k, rfl⟩
    | unborn => rw [ht] at this; exact this.elim
    | over => rw [ht] at ho0; cases ho0
  have hwhole : k c.m.s ≠ .cut := hmi k hk
  have hgo : c.m.go j = c.m.did j (k c.m.s) := by simp [Mach.go, hk]
  rw [hgo]
  have hleft := left_turn (m := c.m) (m' := c.m.did j (k c.m.s)) (fun i hi => did_other hi) ho0 e.g.n hj
  clear hfull hgood hgo
  intro c' mid hR
  refine lgm_tu fun ov br tv ho => ?_
  rw [show Frame.enter Try.prog 55 #[.int .i64 j, .pointer (some ⟨bn, 0, none⟩), .pointer (some ⟨e.g.tv, 0, none⟩), .pointer (some ⟨bo, 0, none⟩), .pointer (some ⟨bm, 0, none⟩), .pointer (some ⟨bl, 0, none⟩)] .normal = Frame.at { (default : Frame) with fn := 55, kind := .normal } ⟨#[.int .i64 j, .pointer (some ⟨bn, 0, none⟩), .pointer (some ⟨e.g.tv, 0, none⟩), .pointer (some ⟨bo, 0, none⟩), .pointer (some ⟨bm, 0, none⟩), .pointer (some ⟨bl, 0, none⟩)] ++ Array.replicate (Try.f55.ntmps - 6) undef, []⟩ [.code (Try.f55.body.getD .skip)] from by simp [Frame.enter, Frame.at, Try.func55]; rfl]
  simp only [Try.f55, Option.getD_some, Nat.reduceSub, Array.replicate_succ, Array.replicate_zero, List.push_toArray, List.append_toArray, List.nil_append, List.cons_append]
  refine Lg.move _ (fun _ _ => step_seq) id ?_
  refine Lg.code fun K hK y τ n hy => ?_
  subst hy
  have hS : OvS e base bn bo bm bl most c y := ⟨h.n, h.m, h.l, h.o, h.lt, h.ne⟩
  have tvy : Tv e.g ov br y := ⟨tv.v, tv.t0, tv.t1, tv.t2, tv.a, tv.s0, tv.s1, tv.s2, tv.b⟩
  have hRy : ∀ v t' w', v = .tuple #[] ∧ t' = (N, c.m.did j (k c.m.s)) ∧ OvS e base bn bo bm bl most ⟨c.m.did j (k c.m.s), c.order ++ [(j : Int)]⟩ w' ∧ HeldX (OvZ base bo bl) y w' → (lgM hP e).T t' (c'.finish v) mid w' := fun v t' w' ⟨a, b, c2, d⟩ => hR v t' w' ⟨a, b, c2, ⟨d.size, d.block⟩⟩
  clear hR h tv
  have h1 : decide ((j : Int) < 0) = false := by simp
  have h2 : decide (e.g.n ≤ j) = false := by simpa using hj
  have h3 : y.cell? ⟨bn, 0, none⟩ = some (.int .i64 e.g.n) := hS.n.cell 0
  have h4 := tvy.v
  have h5 := tvy.t1
  have h6 := tvy.a j hj
  have h7 : y.cell? ⟨e.g.sb j, 2, none⟩ = some (.bool false) := by have := tvy.s2 j hj; rw [ho j hj, ho0] at this; exact this
  obtain ⟨v, hv, hown⟩ := hS.o
  have hown' := hown
  obtain ⟨A, cap, rfl⟩ := own_len hown'
  have h8 : y.cell? ⟨bo, 0, none⟩ = some (.slice A c.order.length cap) := hv.cell 0
  have h9 : y.cell? ⟨bm, 0, none⟩ = some (.int .i64 most) := hS.m.cell 0
  have h10 : (c.order.length == most) = false := by simp; omega
  clear hown'
  have Hown := Lib.hid hown
  have Ho := Lib.hid ho
  have HL := Lib.hid hleft
  have H0 := Lib.hid ho0
  have Hk := Lib.hid hk
  clear hown ho hleft ho0 hk
  go_wp2
  refine hK _ _ (fun h => h.elim) ?_
  clear hK K
  clear h1 h2 h3 h4 h5 h6 h7 h9 h10 tvy
  refine Lg.move _ (fun _ _ => step_seq) id ?_
  refine Lg.code fun K hK u τ n hu => ?_
  subst hu
  have hSu : OvS e base bn bo bm bl most c u := ⟨hS.n, hS.m, hS.l, hS.o, hS.lt, hS.ne⟩
  have hRu : ∀ v t' w', v = .tuple #[] ∧ t' = (N, c.m.did j (k c.m.s)) ∧ OvS e base bn bo bm bl most ⟨c.m.did j (k c.m.s), c.order ++ [(j : Int)]⟩ w' ∧ HeldX (OvZ base bo bl) u w' → (lgM hP e).T t' (c'.finish v) mid w' := fun v t' w' ⟨a, b, c2, d⟩ => hRy v t' w' ⟨a, b, c2, ⟨d.size, d.block⟩⟩
  have hown : u.ownsRow base 3 1 (.slice A c.order.length cap) c.order.length (c.order.map (Value.int .i64)) := Hown.out
  have g8 : u.cell? ⟨bo, 0, none⟩ = some (.slice A c.order.length cap) := h8
  have hbo : Blk u bo 24 #[.slice A c.order.length cap] := hv
  have g9 : u.frozen? ⟨bo, 0, none⟩ = false := hbo.frozen 0
  obtain ⟨hl1, hl2, hl3, hl4, hl5⟩ := hSu.lt
  obtain ⟨hd1, hd2, hd3, hd4, hd5⟩ := hSu.ne
  clear hS hRy h8 hv Hown
  obtain ⟨i0, hi, hz0, hz1, hz2⟩ := info_parts Try.infoInt
  have hRu := Lib.hid hRu
  have Hbo := Lib.hid hbo
  have HS := Lib.hid hSu
  clear hbo hSu
  go_wp2_with (at_builtin; refine wpList_append_own _ rfl _ _ 24 rfl base 3 i0 (.int .i64 0) 1 8 Try.underlying24 hi hz0 hz1 hz2 rfl (by decide) _ _ _ rfl (hown.alloc _) ⟨u.heap.size, 0, none⟩ 1 1 [.int .i64 (j : Int)] rfl rfl ?c1 ?c2 ?c3 ?c4 ?c5 ?_)
  case c1 => exact new_one _ _ _
  case c2 => exact one_cell _ _
  case c3 => unfold maxLen; omega
  case c4 => omega
  case c5 => exact Nat.le_trans hl5 (by simp)
  intro v' w1 hown1 hgrow _
  obtain ⟨A', cap', rfl⟩ := own_len hown1
  have hb1 := blk_app Hbo.out hown hgrow hl2
  have f1 : w1.cell? ⟨bo, 0, none⟩ = some (.slice A c.order.length cap) := hb1.cell 0
  have f2 : w1.frozen? ⟨bo, 0, none⟩ = false := hb1.frozen 0
  have Hb1 := Lib.hid hb1
  have Hown := Lib.hid hown
  have Hg := Lib.hid hgrow
  have Hown1 := Lib.hid hown1
  clear hb1 hown hgrow hown1 g8 g9
  go_wp2
  refine hK _ _ (fun h => h.elim) ?_
  clear hK K f1 f2
  -- the world behind the append
  have hm1 : HeldX (OvZ base bo bl) u (w1.setCell ⟨bo, 0, none⟩ (.slice A' (c.order.length + 1) cap')) := by
    refine heldx_of ?_ fun b hz hb => ?_
    · have := Hg.out.size
      simp [World.setCell] at this ⊢; omega
    · unfold OvZ at hz
      rw [Below.heap_setCell w1 ⟨bo, 0, none⟩ _ b (by simp; omega)]
      exact heap_app Hown.out Hg.out (by omega) hb
  have hS1 : OvS e base bn bo bm bl most ⟨c.m, c.order ++ [(j : Int)]⟩ (w1.setCell ⟨bo, 0, none⟩ (.slice A' (c.order.length + 1) cap')) := by
    have hs := HS.out
    have far : ∀ {b : Nat} {t : TypeId} {cs : Array Value}, Blk u b t cs → b < base → b ≠ bo → Blk (w1.setCell ⟨bo, 0, none⟩ (.slice A' (c.order.length + 1) cap')) b t cs := fun hb h1 h2 => (blk_app hb Hown.out Hg.out h1).far h2 _
    refine ⟨far hs.n hl1 (Ne.symm hd1), far hs.m hl3 (Ne.symm hd2), far hs.l hl4 (Ne.symm hd3), ⟨_, Hb1.out.set_ 0 _, ?_⟩, ⟨hl1, hl2, hl3, hl4, ?_⟩, hs.ne⟩
    · have := own_kept (Z := fun b => b = bo) Hown1.out (Kept.setCell (S := fun b => b = bo) w1 (p := ⟨bo, 0, none⟩) rfl (.slice A' (c.order.length + 1) cap')) (fun b h1 h2 => by omega)
      simpa using this
    · have := hm1.size; omega
  clear HS Hb1 Hown1 Hg Hown Hbo
  have hRu := hRu.out
  generalize w1.setCell ⟨bo, 0, none⟩ (.slice A' (c.order.length + 1) cap') = z at hm1 hS1 ⊢
  refine Lg.move _ (fun _ _ => step_seq) id ?_
  refine Lg.move _ (fun _ _ => step_region) id ?_
  refine lgm_tu fun ov2 br2 tv2 ho2 => ?_
  refine Lg.pre 0 2 1 (by simp) fun K hK y τ n hy => ?_
  subst hy
  have h1 : y.cell? ⟨e.g.tv, 0, none⟩ = some (.pointer (some ⟨e.g.tb, 0, none⟩)) := tv2.v
  have Ho2 := Lib.hid ho2
  clear ho2
  simp only [List.drop_zero, List.take_succ_cons, List.take_zero]
  go_wp2
  refine hK _ _ (fun h => h.elim) ?_
  clear hK K h1
  refine Lg.call (i := 2) (rest := []) (t := (N, c.m)) rfl rfl (fun y => by go_simp) (let_calls hP e hn N c.m j hj k Hk.out true (k c.m.s) rfl hwhole y) ?_
  rintro v t' w' ⟨rfl, rfl, hh⟩
  have hh : HeldM y w' := ⟨hh.size, hh.block⟩
  have hS2 := (OvS.re hS1).heldm hh
  have hm2 : HeldX (OvZ base bo bl) u w' := HeldX.trans (b := y) ⟨hm1.size, hm1.block⟩ hh.x
  rw [Frame.finish_at]
  walk_nrm
  refine Lg.move _ (fun _ _ => step_region_end) id ?_
  clear hS1 hm1 hh tv2 Ho2 Ho
  refine lgm_tu fun ov br tv ho => ?_
  refine Lg.move _ (fun _ _ => step_seq) id ?_
  refine Lg.move _ (fun _ _ => step_region) id ?_
  refine Lg.pre 0 10 0 (by simp) fun K hK y τ n hy => ?_
  subst hy
  have h1 : y.cell? ⟨e.g.tv, 0, none⟩ = some (.pointer (some ⟨e.g.tb, 0, none⟩)) := tv.v
  have h2 : y.cell? ⟨e.g.tb, 1, none⟩ = some (.slice (some ⟨e.g.ab, 0, none⟩) e.g.n e.g.cap) := tv.t1
  have h3 : y.cell? ⟨e.g.ab, j, none⟩ = some (.pointer (some ⟨e.g.sb j, 0, none⟩)) := tv.a j hj
  have h4 : y.cell? ⟨e.g.sb j, 2, none⟩ = some (.bool ((c.m.did j (k c.m.s)).th j).isOver) := by rw [← ho j hj]; exact tv.s2 j hj
  clear ho
  simp only [List.drop_zero, List.take_succ_cons, List.take_zero]
  go_wp2
  refine hK _ _ (fun h => h.elim) ?_
  clear hK K h1 h2 h3 h4
  refine Lg.move _ (fun _ _ => step_region_end) id ?_
  have hS3 := OvS.re hS2
  have hm3 : HeldX (OvZ base bo bl) u y := ⟨hm2.size, hm2.block⟩
  clear hS2 hm2 tv
  have HL := HL.out
  cases hov : ((c.m.did j (k c.m.s)).th j).isOver with
  | false =>
    refine Lg.move _ (fun _ _ => step_cond rfl) id ?_
    refine Lg.move _ (fun _ _ => step_skip) id ?_
    refine Lg.move _ (fun _ _ => step_end) id ?_
    refine Lg.leave rfl Try.func55 rfl (fun _ _ _ _ => by simp [results, Try.f55]) (hRu _ _ _ ⟨rfl, rfl, ?_, hm3⟩)
    have he : c.m.left e.g.n = (c.m.did j (k c.m.s)).left e.g.n := by simpa [hov] using HL
    refine ⟨hS3.n, hS3.m, ?_, hS3.o, hS3.lt, hS3.ne⟩
    show Blk y bl _ #[.int .i64 ((c.m.did j (k c.m.s)).left e.g.n : Nat)]
    rw [← he]
    exact hS3.l
  | true =>
    refine Lg.move _ (fun _ _ => step_cond rfl) id ?_
    refine Lg.move _ (fun _ _ => step_region) id ?_
    refine Lg.pre 0 3 0 (by simp) fun K hK v τ n hv => ?_
    subst hv
    have hS4 := OvS.re hS3
    have hm4 : HeldX (OvZ base bo bl) u v := ⟨hm3.size, hm3.block⟩
    clear hS3 hm3
    have h1 : v.cell? ⟨bl, 0, none⟩ = some (.int .i64 (c.m.left e.g.n)) := hS4.l.cell 0
    have h2 : v.frozen? ⟨bl, 0, none⟩ = false := hS4.l.frozen 0
    have hl : c.m.left e.g.n = (c.m.did j (k c.m.s)).left e.g.n + 1 := by simpa [hov] using HL
    have hb : c.m.left e.g.n ≤ 64 := Nat.le_trans (left_le _ _) hn
    have h3 : (1 : Int) ≤ (c.m.left e.g.n : Int) := by omega
    have h4 : (c.m.left e.g.n : Int) ≤ 64 := by omega
    have Hl := Lib.hid hl
    have HS := Lib.hid hS4
    have Hov := Lib.hid hov
    clear hl HL hb hS4 hov
    simp only [List.drop_zero, List.take_succ_cons, List.take_zero]
    go_wp2
    refine hK _ _ (fun h => h.elim) ?_
    clear hK K h1 h2
    refine Lg.move _ (fun _ _ => step_region_end) id ?_
    refine Lg.move _ (fun _ _ => step_end) id ?_
    refine Lg.leave rfl Try.func55 rfl (fun _ _ _ _ => by simp [results, Try.f55]) (hRu _ _ _ ⟨rfl, rfl, ?_, ?_⟩)
    · have hs := HS.out
      have he : ((c.m.left e.g.n : Int) - 1) = ((c.m.did j (k c.m.s)).left e.g.n : Int) := by have := Hl.out; omega
      rw [he]
      refine ⟨hs.n.far (p := ⟨bl, 0, none⟩) (Ne.symm hd4) _, hs.m.far (p := ⟨bl, 0, none⟩) (Ne.symm hd5) _, hs.l.set_ 0 _, ?_, by have := hs.lt; simpa [World.setCell] using this, hs.ne⟩
      obtain ⟨v', o1, o2⟩ := hs.o
      exact ⟨v', o1.far (p := ⟨bl, 0, none⟩) hd3 _, own_kept (Z := fun b => b = bl) o2 (Kept.setCell (S := fun b => b = bl) v (p := ⟨bl, 0, none⟩) rfl _) (fun b h1 h2 => by omega)⟩
    · refine hm4.trans (heldx_of (by simp [World.setCell]) fun b hz _ => ?_)
      unfold OvZ at hz
      exact Below.heap_setCell v ⟨bl, 0, none⟩ _ b (by simp; omega)
end Go.Proofs.Yteainbnoemkfcaa
/- DERIVED. The turnstile (package turn): how Over begins: up to where the stands are made. -/
namespace Go.Proofs.Yteainbnoemkfcaa
open Go.RowKit Go.Turn Go.Tame Go.Conc
set_option linter.unusedVariables false
/-- Below B nothing has turned; another tape may be read. -/
structure Old (B : Nat) (w w' : World) : Prop where
  size : w.heap.size ≤ w'.heap.size
  block : ∀ b, b < B → w'.heap[b]? = w.heap[b]?
  io : w'.os = w.os ∧ w'.output = w.output
theorem Old.refl (B : Nat) (w : World) : Old B w w := ⟨Nat.le_refl _, fun _ _ => rfl, rfl, rfl⟩
theorem Old.trans {B : Nat} {a b c : World} (h : Old B a b) (k : Old B b c) : Old B a c := ⟨Nat.le_trans h.size k.size, fun i hi => (k.block i hi).trans (h.block i hi), k.io.1.trans h.io.1, k.io.2.trans h.io.2⟩
theorem Old.mono {B B' : Nat} {a b : World} (h : Old B a b) (hb : B' ≤ B) : Old B' a b := ⟨h.size, fun i hi => h.block i (by omega), h.io⟩
theorem Old.of {B : Nat} {a b : World} (h : Below B a b) : Old B a b := ⟨h.size, h.block, h.os, h.output⟩
theorem Old.re {B : Nat} {a y : World} {τ : Nat → Question → Nat} {n : Nat} (h : Old B a (y.re τ n)) : Old B a y := ⟨h.size, h.block, h.io⟩
theorem Old.er {B : Nat} {y b : World} {τ : Nat → Question → Nat} {n : Nat} (h : Old B (y.re τ n) b) : Old B y b := ⟨h.size, h.block, h.io⟩
theorem Old.new {B : Nat} {a w : World} (h : Old B a w) (hB : B ≤ w.heap.size) (o : Obj) : Old B a (w.alloc o) := h.trans ⟨by simp, fun i hi => Below.heap_alloc _ _ _ (by omega), rfl, rfl⟩
theorem Old.set_ {B : Nat} {a w : World} (h : Old B a w) {p : Addr} (hp : B ≤ p.block) (v : Value) : Old B a (w.setCell p v) := h.trans ⟨by simp [World.setCell], fun i hi => Below.heap_setCell _ _ _ _ (by omega), rfl, rfl⟩
theorem Old.drew {B : Nat} {a w : World} (h : Old B a w) : Old B a w.drew := ⟨h.size, h.block, h.io⟩
theorem ret_int' {k : IntKind} {a b : Int} (h : a = b) : Ending.returned (.int k a) = .returned (.int k b) := by rw [h]
def heldI (a b : Int) : Int := min (max a 0) b
theorem held_any (a b : Int) (w : World) : Calls Try.prog 53 #[.int .i64 a, .int .i64 b] w fun e w' => e = .returned (.int .i64 (heldI a b)) ∧ w = w' := by
  go_enter Try.func53, Try.ntmps53
  go_wp2
  all_goals
    go_ret
    exact ⟨ret_int' (by unfold heldI; omega), rfl⟩
/-- The slots that Over's beginning writes. -/
def ns1 : List Nat := [5, 6, 7, 8, 9, 10, 11] ++ List.range' 19 27
/-- Where the turnstile has been made. -/
structure Made (n most : Nat) (w0 : World) (f : Nat → Value) (w : World) (tvb tb bk rb bn bo bm : Nat) : Prop where
  f5 : f 5 = .pointer (some ⟨bm, 0, none⟩)
  f6 : f 6 = .pointer (some ⟨bo, 0, none⟩)
  f7 : f 7 = .bool false
  f9 : f 9 = .pointer (some ⟨bn, 0, none⟩)
  f10 : f 10 = .pointer (some ⟨tvb, 0, none⟩)
  hn : Blk w bn 3 #[.int .i64 n]
  hm : Blk w bm 3 #[.int .i64 most]
  ho : Blk w bo 24 #[.slice none 0 0]
  tv : Blk w tvb 111 #[.pointer (some ⟨tb, 0, none⟩)]
  hk : w.heap[bk]? = some (.chan 0 #[] false 0 0 false)
  hr : Blk w rb 4 (Array.replicate n (.bool false))
  new : Old w0.heap.size w0 w ∧ w0.heap.size ≤ bn ∧ w0.heap.size ≤ bo ∧ w0.heap.size ≤ bm ∧ w0.heap.size ≤ tvb ∧ w0.heap.size ≤ tb ∧ w0.heap.size ≤ bk ∧ w0.heap.size ≤ rb
  ne : bn ≠ bm
theorem two_new (y : World) (c d : Array Value) (s t : TypeId) : Blk ((y.alloc (.cells c s)).alloc (.cells d t)) y.heap.size s c ∧ Blk ((y.alloc (.cells c s)).alloc (.cells d t)) (y.heap.size + 1) t d ∧ Old y.heap.size y ((y.alloc (.cells c s)).alloc (.cells d t)) ∧ ((y.alloc (.cells c s)).alloc (.cells d t)).heap.size = y.heap.size + 2 := by
  refine ⟨(Blk.new y s c).alloc _, ?_, ((Old.refl _ _).new (Nat.le_refl _) _).new (by simp) _, by simp⟩
  have := Blk.new (y.alloc (.cells c s)) t d
  simpa using this
theorem Try.infoUnit : (Try.prog.info? 79).map (fun i => (i.zero, i.size, i.bytes)) = some (some (.agg #[]), 0, 0) := by kernel_rfl
theorem Try.infoBool : (Try.prog.info? 4).map (fun i => (i.zero, i.size, i.bytes)) = some (some (.bool false), 1, 1) := by kernel_rfl
theorem make_back (w : World) : (Instr.makeChan 112 (.int .i64 0)).run Try.prog w = .ok (.chan (some w.heap.size)) (w.alloc (.chan 0 #[] false 0 0 false)) := by
  obtain ⟨i, hi, h0, h1, h2⟩ := info_parts Try.infoUnit
  exact run_makeChan Try.underlying112 hi .i64 0 (by decide) (by simp)
theorem make_pass (w : World) : (Instr.makeChan 117 (.int .i64 0)).run Try.prog w = .ok (.chan (some w.heap.size)) (w.alloc (.chan 0 #[] false 0 0 false)) := by
  obtain ⟨i, hi, h0, h1, h2⟩ := info_parts Try.infoBool
  exact run_makeChan Try.underlying117 hi .i64 0 (by decide) (by simp)
theorem make_broken (w : World) (n : Nat) (hn : n ≤ 64) : (Instr.makeSlice 96 (.int .i64 n) (.int .i64 n)).run Try.prog w = .ok (.slice (some ⟨w.heap.size, 0, none⟩) n n) (w.alloc (.cells (madeCells (Value.bool false).cells (n * 1)) 4)) := by
  obtain ⟨i, hi, h0, h1, h2⟩ := info_parts Try.infoBool
  have := run_make w 96 4 i _ Try.underlying96 hi h0 .i64 .i64 n n (by omega) (by omega) (by rw [h2]; omega) (by omega)
  rw [h1] at this
  exact this
theorem new_broken (n : Nat) : madeCells #[Value.bool false] n = Array.replicate n (.bool false) := by
  apply Array.ext (by simp [madeCells])
  intro i h1 h2
  simp [madeCells, Nat.mod_one]
/-- Four blocks, made one after the other. -/
theorem four (v : World) (o1 o2 o3 o4 : Obj) : ((((v.alloc o1).alloc o2).alloc o3).alloc o4).heap[v.heap.size]? = some o1 ∧ ((((v.alloc o1).alloc o2).alloc o3).alloc o4).heap[v.heap.size + 1]? = some o2 ∧ ((((v.alloc o1).alloc o2).alloc o3).alloc o4).heap[v.heap.size + 1 + 1]? = some o3 ∧ ((((v.alloc o1).alloc o2).alloc o3).alloc o4).heap[v.heap.size + 1 + 1 + 1]? = some o4 := by
  have h (w : World) (o : Obj) (b : Nat) (hb : b < w.heap.size) : (w.alloc o).heap[b]? = w.heap[b]? := Below.heap_alloc w o b hb
  have k (w : World) (o : Obj) : (w.alloc o).heap[w.heap.size]? = some o := heap_alloc_new w o
  have e1 : (v.alloc o1).heap.size = v.heap.size + 1 := by simp
  have e2 : ((v.alloc o1).alloc o2).heap.size = v.heap.size + 1 + 1 := by simp
  have e3 : (((v.alloc o1).alloc o2).alloc o3).heap.size = v.heap.size + 1 + 1 + 1 := by simp
  refine ⟨?_, ?_, ?_, ?_⟩
  · rw [h _ _ _ (by omega), h _ _ _ (by omega), h _ _ _ (by omega), k]
  · rw [h _ _ _ (by omega), h _ _ _ (by omega), ← e1, k]
  · rw [h _ _ _ (by omega), ← e2, k]
  · rw [← e3, k]
theorem old_four (v : World) (o1 o2 o3 o4 : Obj) : Old v.heap.size v ((((v.alloc o1).alloc o2).alloc o3).alloc o4) :=
  ((((Old.refl _ v).new (Nat.le_refl _) o1).new (by simp) o2).new (by simp; omega) o3).new (by simp; omega) o4
theorem Blk.later4 {v : World} {b : Nat} {t : TypeId} {cs : Array Value} (h : Blk v b t cs) (o1 o2 o3 o4 : Obj) : Blk ((((v.alloc o1).alloc o2).alloc o3).alloc o4) b t cs := (((h.alloc o1).alloc o2).alloc o3).alloc o4
theorem heapd (v : World) : v.drew.heap = v.heap := rfl
def Reg3X (n : Nat) (w : World) (bn bm bo mm : Nat) (y : World) (B : Nat) (f : Nat → Value) : Prop :=
  ∃ tvb tb bk rb, f 10 = .pointer (some ⟨tvb, 0, none⟩) ∧ Blk w tvb 111 #[.pointer (some ⟨tb, 0, none⟩)] ∧ Blk w tb 115 #[.chan (some bk), .slice none 0 0, .slice (some ⟨rb, 0, none⟩) n n] ∧ w.heap[bk]? = some (.chan 0 #[] false 0 0 false) ∧ Blk w rb 4 (Array.replicate n (.bool false)) ∧
    (Blk w bn 3 #[.int .i64 n] ∧ Blk w bm 3 #[.int .i64 mm] ∧ Blk w bo 24 #[.slice none 0 0]) ∧ Old B y w ∧ bn < tvb ∧ bn < tb ∧ bn < bk ∧ bn < rb
set_option maxHeartbeats 1000000 in
set_option maxRecDepth 100000 in
theorem over_pre3 {κ : Type} (L : Lg Try.prog κ) (hs : ¬ L.strict) {b : Frame} {k : List Item} {mid : List Frame} {t : κ} (tb : Addr) (nt cap : Nat) (sv : Value) (most : Int) {w : World} (hnt : nt ≤ maxLen)
    (hT : ∀ f w', (∃ tvb tb bk rb bn bo bm, Made (min nt 64) (heldI most 1048576).toNat w f w' tvb tb bk rb bn bo bm ∧ Blk w' tb 115 #[.chan (some bk), .slice none 0 0, .slice (some ⟨rb, 0, none⟩) (min nt 64) (min nt 64)]) → L.T t (b.at ⟨fill f (#[.slice (some tb) nt cap, sv, .int .i64 most] ++ Array.replicate (Try.f42.ntmps - 3) undef) ns1, []⟩ (.code (seqR (seqR (seqR (seqR (Try.f42.body.getD .skip))))) :: k)) mid w') :
    L.T t (b.at ⟨#[.slice (some tb) nt cap, sv, .int .i64 most] ++ Array.replicate (Try.f42.ntmps - 3) undef, []⟩ (.code (Try.f42.body.getD .skip) :: k)) mid w := by
  simp only [Try.f42, Option.getD_some, Nat.reduceSub, Array.replicate_succ, Array.replicate_zero, List.push_toArray, List.append_toArray, List.nil_append, List.cons_append, seqR] at hT ⊢
  unfold maxLen at hnt
  have HT := Lib.hid hT
  clear hT
  refine Lg.move _ (fun _ _ => step_seq) id ?_
  refine Lg.code fun K hK y τ n hy => ?_
  subst hy
  go_wp2
  refine hK _ _ (fun h => absurd h hs) ?_
  clear hK K
  obtain ⟨b1, b2, bel, sz⟩ := two_new y #[.int .i64 most] #[.slice none 0 0] 3 24
  generalize (y.alloc (Obj.cells #[.int .i64 most] 3)).alloc (Obj.cells #[.slice none 0 0] 24) = z at b1 b2 bel sz ⊢
  generalize hbm : y.heap.size = bm at b1 b2 bel sz ⊢
  generalize hbo : bm + 1 = bo at b2 ⊢
  refine Lg.move _ (fun _ _ => step_seq) id ?_
  refine Lg.codeF hs ([9] ++ List.range' 19 3) (fun f w' => ∃ bn, f 9 = .pointer (some ⟨bn, 0, none⟩) ∧ Blk w' bn 3 #[.int .i64 ((min nt 64 : Nat) : Int)] ∧ Blk w' bm 3 #[.int .i64 most] ∧ Blk w' bo 24 #[.slice none 0 0] ∧ Old bm y w' ∧ bo < bn ∧ bn < w'.heap.size) (fun v τ' n' hv => ?_) ?_
  · subst hv
    have b1 : Blk v bm _ _ := b1
    have b2 : Blk v bo _ _ := b2
    have bel := bel.re
    have s0 : v.heap.size = bm + 2 := sz
    have s1 : bo < v.heap.size := by omega
    have s2 : bm ≤ v.heap.size := by omega
    clear sz s0 hbm hbo
    go_wp2
    all_goals
      refine ⟨rfl, rfl, v.heap.size, rfl, ?_, b1.alloc _, b2.alloc _, bel.new s2 _, s1, by simp⟩
      have := Blk.new v 3 #[.int .i64 ((min nt 64 : Nat) : Int)]
      first
        | (rw [show min nt 64 = nt by omega] at this ⊢; exact this)
        | (rw [show min nt 64 = 64 by omega] at this ⊢; exact this)
  rintro f w' ⟨bn, f9, k1, k2, k3, k4, k5, k6⟩
  clear b1 b2 bel sz
  simp only [fill, fillL, List.range', List.cons_append, List.nil_append, List.set_cons_zero, List.set_cons_succ, Nat.reduceAdd]
  simp only [f9]
  clear f9
  generalize f 19 = u19
  generalize f 20 = u20
  generalize f 21 = u21
  clear f
  refine Lg.move _ (fun _ _ => step_seq) id ?_
  have hh : heldI most 1048576 = ((heldI most 1048576).toNat : Int) := by unfold heldI; omega
  have hheld := fun w => held_any most 1048576 w
  rw [hh] at hheld
  generalize (heldI most 1048576).toNat = mm at hheld HT ⊢
  clear hh
  have hbm' := Lib.hid hbm
  have Hheld := Lib.hid hheld
  clear hheld
  refine Lg.codeF hs (List.range' 22 2) (fun f w' => Blk w' bn 3 #[.int .i64 ((min nt 64 : Nat) : Int)] ∧ Blk w' bm 3 #[.int .i64 mm] ∧ Blk w' bo 24 #[.slice none 0 0] ∧ Old bm y w' ∧ bn < w'.heap.size) (fun v τ' n' hv => ?_) ?_
  · subst hv
    have k1 : Blk v bn _ _ := k1
    have k2 : Blk v bm _ _ := k2
    have k3 : Blk v bo _ _ := k3
    have k4 := k4.re
    have k6 : bn < v.heap.size := k6
    have c1 : v.cell? ⟨bm, 0, none⟩ = some (.int .i64 most) := k2.cell 0
    have c2 : v.frozen? ⟨bm, 0, none⟩ = false := k2.frozen 0
    have H1 := Lib.hid k1
    have H2 := Lib.hid k2
    have H3 := Lib.hid k3
    clear k1 k2 k3
    go_wp2_with (go_at_call 53; refine (Hheld.out _).mono ?_; rintro e w' ⟨rfl, rfl⟩)
    refine ⟨rfl, rfl, H1.out.far (by simp; omega) _, H2.out.set_ 0 _, H3.out.far (by simp; omega) _, k4.set_ (by simp) _, by simpa [World.setCell] using k6⟩
  rintro f w' ⟨k1, k2, k3, k4, k7⟩
  simp only [fill, fillL, List.range', List.cons_append, List.nil_append, List.set_cons_zero, List.set_cons_succ, Nat.reduceAdd]
  generalize f 22 = u22
  generalize f 23 = u23
  clear f
  refine Lg.move _ (fun _ _ => step_seq) id ?_
  refine Lg.codeF hs (10 :: List.range' 24 5) (fun f w' => Reg3X (min nt 64) w' bn bm bo mm y bm f) (fun v τ' n' hv => ?_) ?_
  · subst hv
    have k1 : Blk v bn _ _ := k1
    have k2 : Blk v bm _ _ := k2
    have k3 : Blk v bo _ _ := k3
    have k4 := k4.re
    have k7 : bn < v.heap.size := k7
    have k8 : bm ≤ v.heap.size := by omega
    have c1 : v.cell? ⟨bn, 0, none⟩ = some (.int .i64 ((min nt 64 : Nat) : Int)) := k1.cell 0
    have H1 := Lib.hid k1
    have H2 := Lib.hid k2
    have H3 := Lib.hid k3
    have H4 := Lib.hid k4
    clear k1 k2 k3 k4 k5
    have hm : min nt 64 ≤ 64 := by omega
    generalize min nt 64 = n at *
    have m1 := make_back
    have m2 := fun w => make_broken w n hm
    clear hbm hbo
    go_region
    all_goals
      simp only [new_broken]
      refine ⟨rfl, rfl, ?_⟩
      show Reg3X _ _ _ _ _ _ _ _ _
      unfold Reg3X
      iterate 4 apply Exists.intro
      refine ⟨rfl, ?_, ?_, ?_, ?_, ⟨H1.out.later4 _ _ _ _, H2.out.later4 _ _ _ _, H3.out.later4 _ _ _ _⟩, ?_, ?_, ?_, ?_, ?_⟩
      · first | exact (four _ _ _ _ _).1 | exact (four _ _ _ _ _).2.1 | exact (four _ _ _ _ _).2.2.1 | exact (four _ _ _ _ _).2.2.2
      · first | exact (four _ _ _ _ _).1 | exact (four _ _ _ _ _).2.1 | exact (four _ _ _ _ _).2.2.1 | exact (four _ _ _ _ _).2.2.2
      · first | exact (four _ _ _ _ _).1 | exact (four _ _ _ _ _).2.1 | exact (four _ _ _ _ _).2.2.1 | exact (four _ _ _ _ _).2.2.2
      · first | exact (four _ _ _ _ _).1 | exact (four _ _ _ _ _).2.1 | exact (four _ _ _ _ _).2.2.1 | exact (four _ _ _ _ _).2.2.2
      · first | exact H4.out.trans ((old_four _ _ _ _ _).mono k8) | exact (H4.out.trans ((old_four v _ _ _ _).mono k8)).drew
      all_goals ((try simp only [heapd]); omega)
  rintro f w' ⟨tvb, tb', bk, rb, f10, q1, q2, q3, q4, ⟨q5, q6, q7⟩, q8, q9, q10, q11, q12⟩
  simp only [fill, fillL, List.range', List.cons_append, List.nil_append, List.set_cons_zero, List.set_cons_succ, Nat.reduceAdd]
  simp only [f10]
  refine Lg.reframe ns1 (fun f hR => HT.out f w' hR) ?_ ?_
  · simp only [era, eraL, ns1, List.cons_append, List.nil_append, List.range', List.set_cons_zero, List.set_cons_succ, Nat.reduceAdd]
  refine ⟨tvb, tb', bk, rb, bn, bo, bm, ⟨rfl, rfl, rfl, rfl, rfl, q5, q6, q7, q1, q3, q4, ⟨⟨q8.size, fun b hb => q8.block b (by have h : b < y.heap.size := hb; have := hbm'.out; omega), q8.io⟩, ?_⟩, by omega⟩, q2⟩
  have := hbm'.out
  show y.heap.size ≤ _ ∧ y.heap.size ≤ _ ∧ y.heap.size ≤ _ ∧ y.heap.size ≤ _ ∧ y.heap.size ≤ _ ∧ y.heap.size ≤ _ ∧ y.heap.size ≤ _
  omega
end Go.Proofs.Yteainbnoemkfcaa
namespace Go.Turn
set_option linter.unusedVariables false
section
variable {P : Program} {ops : Array Oper} {m : Nat}
/-- Does x wait for y? -/
def waits (md : Region.Mode) (ops : Array Oper) (x y : Nat) : Bool := (ops[x]?).any fun o => o.after.any fun e => Region.binds md e && e.on == y
/-- Does m wait for all others, by one step or two; and does each wait for elder ones alone? -/
def lastB (md : Region.Mode) (ops : Array Oper) (m : Nat) : Bool := decide (m < ops.size) && (List.range ops.size).all (fun i => (ops[i]?).all fun o => o.after.all fun e => decide (e.on < i)) && (List.range ops.size).all (fun j => j == m || waits md ops m j || (List.range ops.size).any (fun i => i != m && waits md ops m i && waits md ops i j))
/-- What is listed stands on what is listed. -/
def Closed (md : Region.Mode) (ops : Array Oper) (listed : Array Bool) : Prop := listed.size = ops.size ∧ ∀ x y, listed.getD x false = true → waits md ops x y = true → listed.getD y false = true
theorem waits_ready {md : Region.Mode} {x y : Nat} {listed : Array Bool} (h : x ∈ Region.ready md ops listed) (hw : waits md ops x y = true) : listed.getD y false = true := by
  obtain ⟨_, o, ho, hall⟩ := mem_ready.1 h
  simp only [waits, ho, Option.any_some, Array.any_eq_true, Bool.and_eq_true, beq_iff_eq] at hw
  obtain ⟨k, hk, hb, he⟩ := hw
  rw [← he]
  exact hall _ (Array.getElem_mem hk) hb
theorem getD_set (l : Array Bool) (i j : Nat) (d : Bool) : (l.setIfInBounds i true).getD j d = if i = j ∧ j < l.size then true else l.getD j d := by
  simp only [Array.getD_eq_getD_getElem?, Array.getElem?_setIfInBounds]
  by_cases h : i = j
  · subst h
    by_cases h2 : i < l.size <;> simp [h2]
  · simp [h]
theorem getD_any (l : Array Bool) {j : Nat} (hj : j < l.size) (d e : Bool) : l.getD j d = l.getD j e := by simp [Array.getD, hj]
theorem closed_step {md : Region.Mode} {i : Nat} {listed : Array Bool} (hc : Closed md ops listed) (h : i ∈ Region.ready md ops listed) : Closed md ops (listed.setIfInBounds i true) := by
  refine ⟨by simpa using hc.1, fun x y hx hw => ?_⟩
  rw [getD_set] at hx ⊢
  split
  · rfl
  · by_cases hxi : i = x ∧ x < listed.size
    · exact waits_ready (hxi.1 ▸ h) (hxi.1 ▸ hw)
    · rw [if_neg hxi] at hx
      exact hc.2 x y hx hw
/-- How many are not listed. -/
def open_ (listed : Array Bool) : Nat → Nat
  | 0 => 0
  | n + 1 => open_ listed n + if listed.getD n false = true then 0 else 1
theorem open_set {listed : Array Bool} {i : Nat} (hi : i < listed.size) (h0 : listed.getD i true = false) : ∀ n, open_ listed n = open_ (listed.setIfInBounds i true) n + if i < n then 1 else 0
  | 0 => rfl
  | n + 1 => by
    simp only [open_, open_set hi h0 n, getD_set]
    by_cases e : i = n
    · subst e
      rw [getD_any listed hi false true, h0]
      simp [hi]
    · have e' : ¬ (i = n ∧ n < listed.size) := fun h => e h.1
      rw [if_neg e']
      have e1 : (if i < n + 1 then 1 else 0) = (if i < n then 1 else 0) := by
        by_cases h1 : i < n
        · rw [if_pos h1, if_pos (by omega)]
        · rw [if_neg h1, if_neg (by omega)]
      rw [e1]
      omega
theorem open_pos {listed : Array Bool} {j : Nat} : ∀ n, j < n → listed.getD j false = false → 0 < open_ listed n
  | 0, h, _ => by omega
  | n + 1, h, h0 => by
    simp only [open_]
    by_cases e : j = n
    · subst e; rw [h0]; simp
    · have := open_pos n (by omega) h0; omega
/-- Somebody may come up, while somebody is not listed. -/
theorem ready_some {md : Region.Mode} {listed : Array Bool} (hb : (List.range ops.size).all (fun i => (ops[i]?).all fun o => o.after.all fun e => decide (e.on < i)) = true) (hs : listed.size = ops.size) : ∀ j, j < ops.size → listed.getD j false = false → Region.ready md ops listed ≠ [] := by
  intro j
  induction j using Nat.strongRecOn with
  | _ j ih =>
    intro hj h0
    obtain ⟨o, ho⟩ : ∃ o, ops[j]? = some o := ⟨_, Array.getElem?_eq_getElem hj⟩
    by_cases hr : ∀ e ∈ o.after, Region.binds md e = true → listed.getD e.on false = true
    · intro hn
      have : j ∈ Region.ready md ops listed := mem_ready.2 ⟨by rw [getD_any listed (by omega) true false]; exact h0, o, ho, hr⟩
      rw [hn] at this; cases this
    · have : ∃ e ∈ o.after, Region.binds md e = true ∧ listed.getD e.on false = false := by
        apply Classical.byContradiction
        intro hn
        refine hr fun e he hb' => ?_
        cases hv : listed.getD e.on false with
        | true => rfl
        | false => exact absurd ⟨e, he, hb', hv⟩ hn
      obtain ⟨e, he, _, hv⟩ := this
      have h1 := (List.all_eq_true.1 hb) j (List.mem_range.2 hj)
      rw [ho] at h1
      simp only [Option.all_some, Array.all_eq_true_iff_forall_mem, decide_eq_true_eq] at h1
      have := h1 e he
      exact ih e.on this (by omega) hv
theorem last_of2 {md : Region.Mode} (hB : lastB md ops m = true) : ∀ (f t : Nat) (listed : Array Bool), Closed md ops listed → listed.getD m true = false → open_ listed ops.size ≤ f → ∃ l, Region.linearise.go md ops f t listed [] = l ++ [m] ∧ m ∉ l := by
  have hB' := hB
  simp only [lastB, Bool.and_eq_true, decide_eq_true_eq] at hB'
  obtain ⟨⟨hm, hb⟩, hall⟩ := hB'
  intro f
  induction f with
  | zero =>
    intro t listed hc h0 hf
    have := open_pos (listed := listed) ops.size hm (by rw [getD_any listed (by rw [hc.1]; exact hm) false true]; exact h0)
    omega
  | succ f ih =>
    intro t listed hc h0 hf
    simp only [Region.linearise.go]
    change ∃ l, (match (Region.ready md ops listed)[t % (Region.ready md ops listed).length]? with
      | some i => Region.linearise.go md ops f (t / (Region.ready md ops listed).length) (listed.setIfInBounds i true) [i]
      | none => [].reverse) = l ++ [m] ∧ m ∉ l
    have hne : Region.ready md ops listed ≠ [] := ready_some hb hc.1 m hm (by rw [getD_any listed (by rw [hc.1]; exact hm) false true]; exact h0)
    have hlt : t % (Region.ready md ops listed).length < (Region.ready md ops listed).length := Nat.mod_lt _ (List.length_pos_iff.2 hne)
    rw [List.getElem?_eq_getElem hlt]
    have hi := List.getElem_mem hlt
    generalize (Region.ready md ops listed)[t % (Region.ready md ops listed).length] = i at hi
    simp only []
    rw [linearise_go_acc]
    by_cases e : i = m
    · subst e
      have key : Region.ready md ops (listed.setIfInBounds i true) = [] := by
        apply Classical.byContradiction
        intro hn
        obtain ⟨j, hj⟩ := List.exists_mem_of_ne_nil _ hn
        obtain ⟨h1, o, ho, _⟩ := mem_ready.1 hj
        have hjlt : j < ops.size := (Array.getElem?_eq_some_iff.1 ho).1
        rw [getD_set] at h1
        split at h1
        · cases h1
        · rename_i hne'
          have hji : j ≠ i := fun z => hne' ⟨z.symm, by rw [hc.1]; exact hjlt⟩
          have h2 := (List.all_eq_true.1 hall) j (List.mem_range.2 hjlt)
          have h3 : listed.getD j false = true := by
            simp only [Bool.or_eq_true, beq_iff_eq, List.any_eq_true, List.mem_range, Bool.and_eq_true, bne_iff_ne, ne_eq] at h2
            rcases h2 with (h2 | h2) | ⟨x, _, ⟨_, h4⟩, h5⟩
            · exact absurd h2 hji
            · exact waits_ready hi h2
            · exact hc.2 x j (waits_ready hi h4) h5
          rw [getD_any listed (by rw [hc.1]; exact hjlt) true false, h3] at h1
          cases h1
      rw [go_nil key]
      exact ⟨[], rfl, by simp⟩
    · have hlt' : i < listed.size := by
        obtain ⟨_, o, ho, _⟩ := mem_ready.1 hi
        rw [hc.1]; exact (Array.getElem?_eq_some_iff.1 ho).1
      have h2 := open_set hlt' (mem_ready.1 hi).1 ops.size
      rw [if_pos (by rw [← hc.1]; exact hlt')] at h2
      obtain ⟨l, h3, h4⟩ := ih (t / (Region.ready md ops listed).length) _ (closed_step hc hi) (by rw [getD_set, if_neg (fun h => e h.1)]; exact h0) (by omega)
      rw [h3]
      exact ⟨i :: l, by simp, by simp [h4, Ne.symm e]⟩
theorem last_begin {md : Region.Mode} (hB : lastB md ops m = true) (t : Nat) : ∃ l, Region.linearise.go md ops ops.size t (Array.replicate ops.size false) [] = l ++ [m] ∧ m ∉ l := by
  have hm : m < ops.size := by simp only [lastB, Bool.and_eq_true, decide_eq_true_eq] at hB; exact hB.1.1
  have e : ∀ x d, x < ops.size → (Array.replicate ops.size false).getD x d = false := fun x d h => by simp [Array.getD, h]
  refine last_of2 hB ops.size t _ ⟨by simp, fun x y hx _ => ?_⟩ (e m true hm) ?_
  · by_cases h : x < ops.size
    · rw [e x false h] at hx; cases hx
    · simp [Array.getD, h] at hx
  · have : ∀ n, open_ (Array.replicate ops.size false) n ≤ n := fun n => by
      induction n with
      | zero => exact Nat.le_refl _
      | succ n ih => simp only [open_]; split <;> omega
    exact this _
theorem wpOps_mono' {Q : Exit → Act → World → Prop} {X Y : Act → World → Prop} {Z : Exit → Act → World → Prop} (h : ∀ a w, X a w → Y a w) (hz : ∀ e a w, e ≠ .normal → Z e a w → Q e a w) : ∀ (l : List Nat) (a : Act) (w : World), wpOps P ops (Exit.then X Z) l a w → wpOps P ops (Exit.then Y Q) l a w
  | [], a, w, hh => h _ _ hh
  | i :: l, a, w, hh => by
    simp only [wpOps] at hh ⊢
    cases ho : ops[i]? with
    | none =>
      simp only [ho] at hh
      exact wpOps_mono' h hz l a w hh
    | some o =>
      simp only [ho] at hh ⊢
      split
      · rename_i hw
        simp only [hw, if_true] at hh
        rcases hh with hh | ⟨h1, a2, w2, h2⟩
        · refine .inl ?_
          have h1 := Oper.wp_mono (K' := wpOps P ops (Exit.then Y Q) l) (fun a w => wpOps_mono' h hz l a w) hh
          unfold Oper.wp at h1 ⊢
          revert h1
          cases (execOp a.eval o).run P w with
          | ok n w' =>
            cases n with
            | enter f args =>
              simp only [Oper.upon_enter]
              refine fun hc => hc.mono fun e w'' q => ?_
              cases e with
              | returned v => exact q
              | panicked c => exact hz (.panic c) _ _ (by simp) q
              | outgrown => obtain ⟨a3, w3, q⟩ := q; exact ⟨a3, w3, hz .outgrown _ _ (by simp) q⟩
            | _ => exact fun q => q
          | halt x w' =>
            cases x with
            | panic v => exact fun q => hz (.panic _) _ _ (by simp) q
            | _ => exact fun q => q
        · exact .inr ⟨h1, a2, w2, hz .outgrown _ _ (by simp) h2⟩
      · rename_i hw
        simp only [hw] at hh
        exact wpOps_mono' h hz l _ w hh
/-- ████ THE LAST OPERATION BY ITSELF. ████ -/
theorem wp_region_last {id : Nat} {Q : Exit → Act → World → Prop} {S : World → Prop} {a : Act} {w : World} (m : Nat) (hm : P.follows .mixedOrders = true) (hlast : lastB .any ops m = true) (hg : noGuard ops m = true)
    (h : wpAnyH P .any (idle ops m) (Exit.then (fun a' w' => wpOps P ops Q [m] a' w') fun _ _ _ => False) S (idle ops m).size (Array.replicate (idle ops m).size false) a w.drew) : (Code.region id ops true).wp P Q a w := by
  refine wp_region_draw fun t => ?_
  rw [show Region.schedule (P.follows .mixedOrders) ops t = Region.linearise.go .any ops ops.size t (Array.replicate ops.size false) [] from by simp [Region.schedule, hm, Region.linearise]]
  obtain ⟨l, hl, hml⟩ := last_begin hlast t
  have hmlt : m < ops.size := by simp only [lastB, Bool.and_eq_true, decide_eq_true_eq] at hlast; exact hlast.1.1
  have hs : (idle ops m).size = ops.size := by simp [idle]
  have h1 := wpAny_sound _ t _ _ _ (wpAny_of_held _ _ _ _ h)
  rw [hs, idle_go, hl, wpOps_split, idle_wp hg l hml] at h1
  rw [hl, wpOps_split]
  refine wpOps_mono' (fun a' w' hz => ?_) (fun e a w he hz => ?_) l a _ h1
  · obtain ⟨o, ho⟩ : ∃ o, ops[m]? = some o := ⟨_, Array.getElem?_eq_getElem hmlt⟩
    have ho' : (idle ops m)[m]? = some { o with dst := none, op := .move (.const undef), guard := none } := by simp [idle, Array.getElem?_modify, ho]
    have hr : (execOp a'.eval { o with dst := none, op := .move (.const undef), guard := none }).run P w' = .ok (.value undef) w' := by simp [execOp, go_sem, Act.eval]
    have hz' : wpOps P (idle ops m) (Exit.then (fun a' w' => wpOps P ops Q [m] a' w') fun _ _ _ => False) [m] a' w' := hz
    simp only [wpOps, ho', Region.wanted, if_true] at hz'
    rcases hz' with hz' | ⟨_, a2, w2, hz'⟩
    · rw [Oper.wp, hr, Oper.upon_value] at hz'
      have : wpOps P ops Q [m] a' w' := hz'
      exact this
    · exact hz'.elim
  · cases e with
    | normal => exact absurd rfl he
    | _ => exact hz.elim
theorem wpOp_of {Q : Exit → Act → World → Prop} {i : Nat} {K : Act → World → Prop} {a : Act} {w : World} {o : Oper} (ho : ops[i]? = some o) (hw : Region.wanted o (yielded ops a.tmps) = true) (h : o.wp P a w K Q) : wpOp P ops Q i K a w := by
  unfold wpOp
  rw [ho]
  simp only [hw, if_true]
  exact .inl h
/-- The one operation that may come up. -/
theorem wpAnyH_one {md : Region.Mode} {Q : Exit → Act → World → Prop} {S : World → Prop} {i fuel : Nat} {listed : Array Bool} {a : Act} {w : World} {o : Oper} (hr : Region.ready md ops listed = [i]) (ho : ops[i]? = some o) (hw : Region.wanted o (yielded ops a.tmps) = true) (h : ∀ K : Act → World → Prop, (∀ a' w', S w' → wpAnyH P md ops Q S fuel (listed.setIfInBounds i true) a' w' → K a' w') → o.wp P a w K Q) : wpAnyH P md ops Q S (fuel + 1) listed a w :=
  wpAnyH_all hr (by simp) fun j hj => by
    simp only [List.mem_singleton] at hj
    subst hj
    exact wpOp_of ho hw (h _ fun _ _ h1 h2 => ⟨h1, h2⟩)
/-- A read, taken first. -/
theorem wpAnyH_read {md : Region.Mode} {Q : Exit → Act → World → Prop} {S : World → Prop} {i fuel : Nat} {listed : Array Bool} {a : Act} {w : World} {o : Oper} (d : Option Tmp) (hi : ops[i]? = some o) (hd : o.dst = d) (hs : Region.noSelect ops = true) (hf : Region.free md ops listed i = true) (hr : (Region.ready md ops listed).contains i = true)
    (hQ' : ∀ c a w, ¬ Q (.panic c) a w) (hg : Region.wanted o (yielded ops a.tmps) = true) (hS : S w)
    (h : ∃ v, (∀ wq, S wq → (execOp a.eval o).run P wq = .ok (.value v) wq) ∧ wpAnyH P md ops Q S fuel (listed.setIfInBounds i true) (a.put d v) w) : wpAnyH P md ops Q S (fuel + 1) listed a w := by
  obtain ⟨v, h1, h2⟩ := h
  subst hd
  exact wpAnyH_take hi hs hf hr (fun c a w q => absurd q (hQ' c _ w)) (.inl ⟨hg, h1⟩) hS h2
theorem wpOps_list {Q : Exit → Act → World → Prop} {a : Act} {w : World} {o : Oper} (ho : ops[m]? = some o) (h : wpList P ops Q [o] a w) : wpOps P ops Q [m] a w := by
  simp only [wpOps, ho]
  simpa [wpList] using h
end
end Go.Turn
