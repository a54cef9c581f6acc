/-
  The claim SlotsKeeps: what is handed in to a run on a ring of slots is left as it is, a trace may be written over and grown, and runs do not meet: for every two scripts; no condition.
-/
import Derived.Test.YteainbnoemkfcaaGi
import Derived.Test.YteainbnoemkfcaaGj
import Derived.Test.YteainbnoemkfcaaGd
import Derived.Test.YteainbnoemkfcaaGh
import Derived.SizedLaws
import Derived.Test.YteainbnoemkfcaaGe
import Derived.Laws.AppendOwn
import Derived.Conc.LeavingOf
set_option linter.unusedVariables false
set_option linter.unusedSectionVars false
set_option linter.unusedSimpArgs false
namespace Go.Proofs.Yteainbnoemkfcaa
open Go.RowKit Go.Turn Go.Tame Go.Conc
def OKb {S : Type} (Q : S → Prop) : Tree S S → Prop
  | .ret s => Q s
  | .yield s k => Q s ∧ ∀ σ, Q σ → OKb Q (k σ)
  | .cut => True
structure MIb {S : Type} (Q : S → Prop) (m : Mach S) : Prop where
  s : Q m.s
  th : ∀ i k, m.th i = .wait k → ∀ σ, Q σ → OKb Q (k σ)
section
variable {S : Type} {Q : S → Prop}
theorem MIb.did {m : Mach S} (h : MIb Q m) {i : Nat} {t : Tree S S} (ht : OKb Q t) : MIb Q (m.did i t) := by
  cases t with
  | cut => exact h
  | ret s =>
    refine ⟨ht, fun j k hj => ?_⟩
    by_cases e : j = i
    · subst e
      simp only [Mach.did, Go.ConcN.upd_same] at hj
      cases hj
    · rw [did_other e] at hj
      exact h.th j k hj
  | yield s k0 =>
    refine ⟨ht.1, fun j k hj => ?_⟩
    by_cases e : j = i
    · subst e
      simp only [Mach.did, Go.ConcN.upd_same, Stg.wait.injEq] at hj
      subst hj
      exact ht.2
    · rw [did_other e] at hj
      exact h.th j k hj
theorem MIb.go {m : Mach S} (h : MIb Q m) (i : Nat) : MIb Q (m.go i) := by
  unfold Mach.go
  split
  · rename_i k hk
    exact h.did (h.th _ _ hk _ h.s)
  · exact h
theorem MIb.turn {n most : Nat} {c : Run S} (h : MIb Q c.m) (i : Int) : MIb Q (c.turn n most i).m := by
  unfold Run.turn
  split
  · exact h.go _
  · exact h
theorem MIb.turns {n most : Nat} : ∀ (l : List Int) {c : Run S}, MIb Q c.m → MIb Q (c.turns n most l).m
  | [], _, h => h
  | i :: l, c, h => MIb.turns (n := n) (most := most) l (c := c.turn n most i) (h.turn i)
theorem MIb.rounds {n most : Nat} : ∀ (f : Nat) {c : Run S}, MIb Q c.m → MIb Q (Run.rounds n most f c).m
  | 0, _, h => h
  | f + 1, c, h => by
    simp only [Run.rounds]
    split
    · exact MIb.rounds f (MIb.turns _ h)
    · exact h
theorem MIb.born {birth : Nat → S → Tree S S} (hb : ∀ i σ, Q σ → OKb Q (birth i σ)) {m : Mach S} (h : MIb Q m) : ∀ n, MIb Q (m.born birth n)
  | 0 => h
  | n + 1 => (MIb.born hb h n).did (hb n _ (MIb.born hb h n).s)
theorem play_bd {birth : Nat → S → Tree S S} (hb : ∀ i σ, Q σ → OKb Q (birth i σ)) (n most : Nat) (sched : List Int) (s : S) (hs : Q s) : Q (playRun birth n most sched s).m.s :=
  (MIb.rounds most (MIb.turns sched (c := ⟨Mach.born birth ⟨s, fun _ => .unborn⟩ n, []⟩) (MIb.born hb ⟨hs, fun i k h => by cases h⟩ n))).s
theorem okb_ite {c : Prop} [Decidable c] {a b : Tree S S} (h1 : c → OKb Q a) (h2 : ¬ c → OKb Q b) : OKb Q (if c then a else b) := by
  by_cases h : c
  · rw [if_pos h]; exact h1 h
  · rw [if_neg h]; exact h2 h
end
def QB (st : RSt2) : Prop := ∀ i, (st.2 i).length ≤ 65536 ∧ ∀ a ∈ st.2 i, a.ls.length ≤ 65536
section
variable {rn : Nat}
theorem get_b (q : Int) (σ : RSt2) (hσ : QB σ) (k : Int → Int → RSt2 → Tree RSt2 RSt2) (hk : ∀ x e σ', QB σ' → OKb QB (k x e σ')) : OKb QB (getT idL rn q σ k) :=
  ⟨hσ, fun σ1 h1 => okb_ite (fun _ => hk _ _ _ h1) fun _ => okb_ite (fun _ => hk _ _ _ h1) fun _ => ⟨h1, fun σ2 h2 => ⟨h2, fun σ3 h3 => okb_ite (fun _ => hk _ _ _ h3) fun _ => hk _ _ _ h3⟩⟩⟩
theorem there_b (q : Int) (σ : RSt2) (hσ : QB σ) (k : Bool → RSt2 → Tree RSt2 RSt2) (hk : ∀ b σ', QB σ' → OKb QB (k b σ')) : OKb QB (thereT idL rn q σ k) := ⟨hσ, fun σ1 h1 => hk _ _ h1⟩
theorem high_b (k : Int → RSt2 → Tree RSt2 RSt2) (hk : ∀ x σ', QB σ' → OKb QB (k x σ')) : ∀ (j : Nat) (q : Int) (σ : RSt2), QB σ → OKb QB (highT idL rn j q σ k)
  | 0, q, σ, h => hk _ _ h
  | j + 1, q, σ, h => there_b q σ h _ fun b σ' h' => okb_ite (fun _ => high_b k hk j (q + 1) σ' h') fun _ => hk _ _ h'
theorem gath_b (k : List Int → Int → RSt2 → Tree RSt2 RSt2) (hk : ∀ ls e σ', ls.length ≤ 65536 → QB σ' → OKb QB (k ls e σ')) : ∀ (j : Nat) (q : Int) (acc : List Int) (σ : RSt2), acc.length + j ≤ 65536 → QB σ → OKb QB (gathT idL rn j q acc σ k)
  | 0, q, acc, σ, hl, h => hk _ _ _ (by omega) h
  | j + 1, q, acc, σ, hl, h => okb_ite (fun _ => hk _ _ _ (by omega) h) fun _ => get_b q σ h _ fun v e σ' h' => okb_ite (fun _ => gath_b k hk j (q + 1) (acc ++ [v]) σ' (by simp; omega) h') fun _ => okb_ite (fun _ => hk _ _ _ (by simp) h') fun _ => hk _ _ _ (by omega) h'
theorem doG_b (hrn : rn ≤ 65536) (o : OpI) (σ : RSt2) (hσ : QB σ) (k : Ans → RSt2 → Tree RSt2 RSt2) (hk : ∀ (a : Ans) σ', a.ls.length ≤ 65536 → QB σ' → OKb QB (k a σ')) : OKb QB (doG rn o σ k) := by
  unfold doG
  have h0 : ([] : List Int).length ≤ 65536 := by simp
  refine okb_ite (fun _ => ?_) fun _ => okb_ite (fun _ => ?_) fun _ => okb_ite (fun _ => ?_) fun _ => okb_ite (fun _ => ?_) fun _ => okb_ite (fun _ => ?_) fun _ => hk _ _ h0 hσ
  · unfold putG
    exact okb_ite (fun _ => ⟨hσ, fun σ1 h1 => ⟨h1, fun σ2 h2 => ⟨h2, fun σ3 h3 => hk _ _ h0 h3⟩⟩⟩) fun _ => hk _ _ h0 hσ
  · unfold getG
    exact okb_ite (fun _ => get_b _ _ hσ _ fun _ _ σ' h => hk _ _ h0 h) fun _ => hk _ _ h0 hσ
  · unfold thereG
    exact okb_ite (fun _ => there_b _ _ hσ _ fun _ σ' h => hk _ _ h0 h) fun _ => hk _ _ h0 hσ
  · unfold highG
    exact okb_ite (fun _ => high_b _ (fun _ σ' h => hk _ _ h0 h) _ _ _ hσ) fun _ => hk _ _ h0 hσ
  · unfold gathG
    exact okb_ite (fun _ => gath_b _ (fun ls _ σ' hl h => hk _ _ hl h) _ _ _ _ (by simp; omega) hσ) fun _ => hk _ _ h0 hσ
theorem thr_b {doT : DoQ RSt} (hd : ∀ o (σ : RSt2), QB σ → ∀ k, (∀ (a : Ans) σ', a.ls.length ≤ 65536 → QB σ' → OKb QB (k a σ')) → OKb QB (doT o σ k)) (i : Nat) : ∀ (l : List OpI) (own : List Ans) (σ : RSt2), own.length + l.length ≤ 65536 → QB σ → OKb QB (thrQ doT i l own σ)
  | [], _, σ, _, h => h
  | o :: l, own, σ, hl, h => hd o σ h _ fun a σ' ha h' => okb_ite (fun e => thr_b hd i l (own ++ [a]) (pushQ i a σ') (by simp at hl ⊢; omega) fun j => by
      show (if j = i then σ'.2 j ++ [a] else σ'.2 j).length ≤ _ ∧ ∀ x ∈ (if j = i then σ'.2 j ++ [a] else σ'.2 j), _
      obtain ⟨g1, g2⟩ := h' j
      split
      · rename_i ej
        subst ej
        rw [e] at g2 ⊢
        refine ⟨by simp at hl ⊢; omega, fun x hx => ?_⟩
        rcases List.mem_append.1 hx with hx | hx
        · exact g2 x hx
        · simp only [List.mem_singleton] at hx
          subst hx
          exact ha
      · exact ⟨g1, g2⟩) fun _ => trivial
end
theorem rnOf_le (ss : List Int) : rnOf ss ≤ 65536 := by
  cases ss with
  | nil => exact Nat.zero_le _
  | cons n vs =>
    by_cases h : RightI n
    · rw [show rnOf (n :: vs) = n.toNat from if_pos h]
      have := h.2.1
      omega
    · rw [show rnOf (n :: vs) = 0 from if_neg h]
      omega
theorem playS_bd (ss : List Int) (ops : Nat → List OpI) (ho : ∀ i, (ops i).length ≤ 65536) (nt : Nat) (xs : List Int) (most : Int) : QB (playS ss ops nt xs most).m.s := by
  refine play_bd (fun i σ hσ => ?_) _ _ _ _ fun i => ⟨by simp, fun a ha => by cases ha⟩
  unfold brQ
  refine okb_ite (fun _ => ?_) fun _ => trivial
  refine thr_b (fun o σ' h' k hk => ?_) i (ops i) [] σ (by simpa using ho i) hσ
  by_cases h0 : rnOf ss = 0
  · simp only [doA, if_pos h0]
    exact hk _ _ (by simp) h'
  · simp only [doA, if_neg h0]
    exact doG_b (rnOf_le ss) o σ' h' k hk
end Go.Proofs.Yteainbnoemkfcaa
namespace Go.Proofs.Yteainbnoemkfcaa
open Go.ChangeShapes Go.WideShapes Go.ChangeAt Go.RowKit Go.Deep Go.Turn Go.Tame Go.Conc
theorem list_ofF {α : Type} {Q : Nat → α → Prop} (m : Nat) (h : ∀ j, j < m → ∃ x, Q j x) : ∃ l : List α, l.length = m ∧ ∀ j x, l[j]? = some x → Q j x := by
  induction m with
  | zero => exact ⟨[], rfl, fun j x hx => by simp at hx⟩
  | succ m ih =>
    obtain ⟨l, hl, hq⟩ := ih fun j hj => h j (by omega)
    obtain ⟨y, hy⟩ := h m (by omega)
    refine ⟨l ++ [y], by simp [hl], fun j x hx => ?_⟩
    rcases Nat.lt_or_ge j m with hlt | hge
    · rw [List.getElem?_append_left (by omega)] at hx
      exact hq j x hx
    · have hj : j < (l ++ [y]).length := (List.getElem?_eq_some_iff.1 hx).1
      have : j = m := by simp [hl] at hj; omega
      subst this
      rw [List.getElem?_append_right (by omega), hl] at hx
      simp at hx
      subst hx
      exact hy
section
variable {H : Type} {enc : TypeId × Value → H}
theorem lit_range {k : Int} (h : (Lit.int .i64 k).wf = true) : -9223372036854775808 ≤ k ∧ k < 9223372036854775808 := by
  simp [Lit.wf, IntKind.min, IntKind.max, IntKind.signed, IntKind.bits] at h
  omega
theorem weights_all {P : Program} {e : TypeId} : ∀ {l : List (DataW H)} {d : DataW H}, d ∈ l → ∀ n ∈ d.weights P e, n ∈ DataW.weightsAll P e l
  | d0 :: l, d, hd, n, hn => by
    simp only [DataW.weightsAll, List.mem_append]
    rcases List.mem_cons.1 hd with rfl | h
    · exact .inl hn
    · exact .inr (weights_all h n hn)
set_option maxRecDepth 100000 in
theorem open_numsF {W : World} {sp : Nat → Bool} {fuel : Nat} {cs : List Value} {x : DataW H × List MemPlace} {t e : TypeId} (ht : Try.prog.underlying t = some (.slice e)) (he : Try.prog.underlying e = some (.int .i64)) (hc : Try.prog.cellsOf e = 1) (h : DataW.trod enc Try.prog W 0 sp true fuel t cs = some x) :
    ∃ (A : Option Addr) (cap : Nat) (xs : List Int), cs = [.slice A xs.length cap] ∧ xs.length ≤ cap ∧ cap ≤ maxLen ∧ (A = none → cap = 0) ∧ (∀ i, i < xs.length → ∃ b o, A = some ⟨b, o, none⟩ ∧ b < W.heap.size ∧ W.cell? ⟨b, o + i, none⟩ = some (.int .i64 (xs.getD i 0))) ∧ (∀ y ∈ xs, -9223372036854775808 ≤ y ∧ y < 9223372036854775808) ∧ (xs.length = 0 ∨ ∃ el spa, x.1 = .slice el spa ∧ xs.length ≤ el.length + spa.length) := by
  rcases open_slice1 ht hc h with ⟨rfl, rfl⟩ | ⟨a, len, cap, m, n, V, D, Pl, rfl, hb, hl, hm, hmm, rfl, hx⟩
  · exact ⟨none, 0, [], rfl, Nat.le_refl _, by unfold maxLen; omega, fun _ => rfl, fun i hi => (by simp at hi), fun y hy => (by cases hy), .inl rfl⟩
  have hlm : len ≤ m := by rw [hmm]; split <;> omega
  obtain ⟨xs, hxl, hxs⟩ := list_ofF (α := Int) (Q := fun j y => (-9223372036854775808 ≤ y ∧ y < 9223372036854775808) ∧ ∃ b o, a = ⟨b, o, none⟩ ∧ b < W.heap.size ∧ W.cell? ⟨b, o + j, none⟩ = some (.int .i64 y)) len fun j hj => by
    obtain ⟨c1, c2⟩ := hx j (by omega)
    obtain ⟨y, e0, _, hw⟩ := DataW.trod_int he c2
    simp only [List.cons.injEq, and_true] at e0
    rw [e0] at c1
    have ha : a.spot = none := by
      obtain ⟨c0, _⟩ := hx 0 (by omega)
      have : W.cell? a = some (V 0) := by simpa [Addr.add] using c0
      exact (spot_none this).1
    obtain ⟨b, o, s⟩ := a
    simp only at ha
    subst ha
    have e : (⟨b, o, none⟩ : Addr).add j = ⟨b, o + j, none⟩ := by
      unfold Addr.add
      by_cases h4 : j = 0 <;> simp [h4]
    rw [e] at c1
    exact ⟨y, lit_range hw, b, o, rfl, (spot_none c1).2, c1⟩
  refine ⟨some a, cap, xs, by rw [hxl], by omega, hm, fun h => (by cases h), fun i hi => ?_, fun y hy => ?_, .inr ⟨_, _, rfl, ?_⟩⟩
  · obtain ⟨_, b, o, e1, e2, e3⟩ := hxs i xs[i] (List.getElem?_eq_getElem hi)
    exact ⟨b, o, by rw [e1], e2, by rw [e3, List.getD_eq_getElem?_getD, List.getElem?_eq_getElem hi]; rfl⟩
  · obtain ⟨j, hj, e⟩ := List.mem_iff_getElem.1 hy
    exact (hxs j y (by rw [List.getElem?_eq_getElem hj, e])).1
  · simp [hxl] <;> omega
set_option maxRecDepth 100000 in
theorem open_opsF {W : World} {sp : Nat → Bool} {fuel : Nat} {cs : List Value} {x : DataW H × List MemPlace} (h : DataW.trod enc Try.prog W 0 sp true fuel 34 cs = some x) :
    ∃ (A : Option Addr) (len cap : Nat) (ops : List OpI), cs = [.slice A len cap] ∧ len ≤ cap ∧ cap ≤ maxLen ∧ (A = none → cap = 0) ∧ ops.length = len ∧ (len = 0 ∨ ∃ el spa, x.1 = .slice el spa ∧ len ≤ el.length + spa.length) ∧ ∀ j o, ops[j]? = some o → (-9223372036854775808 ≤ o.a ∧ o.a < 9223372036854775808) ∧ (-9223372036854775808 ≤ o.b ∧ o.b < 9223372036854775808) ∧ ∃ b f, A = some ⟨b, f, none⟩ ∧ b < W.heap.size ∧ W.cell? ⟨b, f + j * 4, none⟩ = some (.int .i64 o.kind) ∧ W.cell? ⟨b, f + j * 4 + 1, none⟩ = some (.int .i64 o.a) ∧ W.cell? ⟨b, f + j * 4 + 2, none⟩ = some (.int .i64 o.b) ∧ W.cell? ⟨b, f + j * 4 + 3, none⟩ = some (.int .i64 o.c) := by
  rcases open_slice Try.underlying34 h with ⟨rfl, rfl⟩ | ⟨a, len, cap, m, n, D, Pl, rfl, hb, hl, hm, hmm, rfl, hx⟩
  · exact ⟨none, 0, 0, [], rfl, Nat.le_refl _, by unfold maxLen; omega, fun _ => rfl, rfl, .inl rfl, fun j o hj => by simp at hj⟩
  have hlm : len ≤ m := by rw [hmm]; split <;> omega
  obtain ⟨ops, hol, ho⟩ := list_ofF (α := OpI) (Q := fun j o => (-9223372036854775808 ≤ o.a ∧ o.a < 9223372036854775808) ∧ (-9223372036854775808 ≤ o.b ∧ o.b < 9223372036854775808) ∧ ∃ b f, a = ⟨b, f, none⟩ ∧ b < W.heap.size ∧ W.cell? ⟨b, f + j * 4, none⟩ = some (.int .i64 o.kind) ∧ W.cell? ⟨b, f + j * 4 + 1, none⟩ = some (.int .i64 o.a) ∧ W.cell? ⟨b, f + j * 4 + 2, none⟩ = some (.int .i64 o.b) ∧ W.cell? ⟨b, f + j * 4 + 3, none⟩ = some (.int .i64 o.c)) len fun j hj => by
    have ha : a.spot = none := by
      obtain ⟨cs', h1, _⟩ := hx 0 (by omega)
      rw [Try.opCells] at h1
      obtain ⟨_, hlen, hcell⟩ := World.cells?_some h1
      have c0 := hcell 0 (by omega)
      match cs', hlen with
      | [v0, v1, v2, v3], _ =>
        have c0 : W.cell? a = some v0 := by simpa [Addr.add] using c0
        exact (spot_none c0).1
    obtain ⟨b, o, s⟩ := a
    simp only at ha
    subst ha
    obtain ⟨cs', h1, h2⟩ := hx j (by omega)
    rw [Try.opCells] at h1
    obtain ⟨_, hlen, hcell⟩ := World.cells?_some h1
    match cs', hlen with
    | [v1, v2, v3, v4], _ =>
      obtain ⟨xs, k', _, _, _, hlx, hf⟩ := DataW.trod_struct Try.underlying49 h2
      match xs, hlx with
      | [x0, x1, x2, x3], _ =>
        have f0 : DataW.trod enc Try.prog W 0 sp true k' 3 [v1] = some x0 := by
          have h := hf 0 _ rfl
          change DataW.trod enc Try.prog W 0 sp true k' 3 (List.take (Try.prog.cellsOf 3) (List.drop 0 [v1, v2, v3, v4])) = some x0 at h
          rw [Try.intCells] at h
          exact h
        have f1 : DataW.trod enc Try.prog W 0 sp true k' 2 [v2] = some x1 := by
          have h := hf 1 _ rfl
          change DataW.trod enc Try.prog W 0 sp true k' 2 (List.take (Try.prog.cellsOf 2) (List.drop 1 [v1, v2, v3, v4])) = some x1 at h
          rw [Try.longCells] at h
          exact h
        have f2 : DataW.trod enc Try.prog W 0 sp true k' 2 [v3] = some x2 := by
          have h := hf 2 _ rfl
          change DataW.trod enc Try.prog W 0 sp true k' 2 (List.take (Try.prog.cellsOf 2) (List.drop 2 [v1, v2, v3, v4])) = some x2 at h
          rw [Try.longCells] at h
          exact h
        have f3 : DataW.trod enc Try.prog W 0 sp true k' 2 [v4] = some x3 := by
          have h := hf 3 _ rfl
          change DataW.trod enc Try.prog W 0 sp true k' 2 (List.take (Try.prog.cellsOf 2) (List.drop 3 [v1, v2, v3, v4])) = some x3 at h
          rw [Try.longCells] at h
          exact h
        obtain ⟨n0, g0, _, _⟩ := DataW.trod_int Try.underlying3 f0
        obtain ⟨n1, g1, _, hw1⟩ := DataW.trod_int Try.underlying2 f1
        obtain ⟨n2, g2, _, hw2⟩ := DataW.trod_int Try.underlying2 f2
        obtain ⟨n3, g3, _, _⟩ := DataW.trod_int Try.underlying2 f3
        simp only [List.cons.injEq, and_true] at g0 g1 g2 g3
        subst g0; subst g1; subst g2; subst g3
        have c0 := hcell 0 (by omega)
        have c1 := hcell 1 (by omega)
        have c2 := hcell 2 (by omega)
        have c3 := hcell 3 (by omega)
        have e : ∀ k, ((⟨b, o, none⟩ : Addr).add (j * 4)).add k = ⟨b, o + j * 4 + k, none⟩ := fun k => by
          unfold Addr.add
          by_cases h4 : j * 4 = 0 <;> by_cases hk : k = 0 <;> simp [h4, hk]
        rw [e] at c0 c1 c2 c3
        exact ⟨⟨n0, n1, n2, n3⟩, lit_range hw1, lit_range hw2, b, o, rfl, (spot_none c1).2, c0, c1, c2, c3⟩
  refine ⟨some a, len, cap, ops, rfl, hl, hm, fun h => (by cases h), hol, .inr ⟨_, _, rfl, by simp⟩, fun j o hj => ?_⟩
  obtain ⟨h1, h2, b, f, rfl, h3⟩ := ho j o hj
  exact ⟨h1, h2, b, f, rfl, h3⟩
theorem Try.sliceCellsF : Try.prog.cellsOf 34 = 1 := by kernel_rfl
theorem Try.numsCellsF : Try.prog.cellsOf 22 = 1 := by kernel_rfl
theorem Try.thrsCellsF : Try.prog.cellsOf 23 = 1 := by kernel_rfl
theorem Try.intsCellsF : Try.prog.cellsOf 24 = 1 := by kernel_rfl
theorem Try.scriptCellsF : Try.prog.cellsOf 26 = 4 := by kernel_rfl
end
structure RowF (W w : World) (A : Option Addr) (len cap : Nat) (ops : List OpI) : Prop where
  le : len ≤ cap
  max : cap ≤ maxLen
  nil : A = none → cap = 0
  by_ : len * 32 ≤ reachBytes
  olen : ops.length = len
  op : ∀ j o, ops[j]? = some o → (-9223372036854775808 ≤ o.a ∧ o.a < 9223372036854775808) ∧ (-9223372036854775808 ≤ o.b ∧ o.b < 9223372036854775808) ∧ ∃ b f, A = some ⟨b, f, none⟩ ∧ b < W.heap.size ∧ w.cell? ⟨b, f + j * 4, none⟩ = some (.int .i64 o.kind) ∧ w.cell? ⟨b, f + j * 4 + 1, none⟩ = some (.int .i64 o.a) ∧ w.cell? ⟨b, f + j * 4 + 2, none⟩ = some (.int .i64 o.b) ∧ w.cell? ⟨b, f + j * 4 + 3, none⟩ = some (.int .i64 o.c)
structure NumF (W w : World) (A : Option Addr) (cap : Nat) (xs : List Int) : Prop where
  at_ : ∀ i, i < xs.length → ∃ b o, A = some ⟨b, o, none⟩ ∧ b < W.heap.size ∧ w.cell? ⟨b, o + i, none⟩ = some (.int .i64 (xs.getD i 0))
  le : xs.length ≤ cap
  max : cap ≤ maxLen
  nil : A = none → cap = 0
  r64 : ∀ x ∈ xs, -9223372036854775808 ≤ x ∧ x < 9223372036854775808
  by_ : xs.length * 8 ≤ reachBytes
structure ScrF (W w : World) (ss : List Int) (qA : Option Addr) (qc nt : Nat) (tA : Option Addr) (Tb To : Nat) (A : Nat → Option Addr) (len cap : Nat → Nat) (ops : Nat → List OpI) (sA : Option Addr) (sc : Nat) (xs : List Int) : Prop where
  st : NumF W w qA qc ss
  sch : NumF W w sA sc xs
  nmx : nt ≤ maxLen
  nby : nt * 24 ≤ reachBytes
  ta : 0 < nt → tA = some ⟨Tb, To, none⟩
  cell : ∀ i, i < nt → Tb < W.heap.size ∧ w.cell? ⟨Tb, To + i, none⟩ = some (.slice (A i) (len i) (cap i))
  row : ∀ i, i < nt → RowF W w (A i) (len i) (cap i) (ops i)
section
variable {H : Type} {enc : TypeId × Value → H}
set_option maxRecDepth 100000 in
theorem open_threadsF {W : World} {sp : Nat → Bool} {fuel : Nat} {cs : List Value} {x : DataW H × List MemPlace} (h : DataW.trod enc Try.prog W 0 sp true fuel 23 cs = some x)
    (hw : ∀ n ∈ DataW.weights Try.prog 23 x.1, n ≤ reachBytes) :
    ∃ (tA : Option Addr) (nt cp Tb To : Nat) (A : Nat → Option Addr) (len cap : Nat → Nat) (ops : Nat → List OpI), cs = [.slice tA nt cp] ∧ nt ≤ maxLen ∧ nt * 24 ≤ reachBytes ∧ (0 < nt → tA = some ⟨Tb, To, none⟩) ∧
      (∀ i, i < nt → Tb < W.heap.size ∧ W.cell? ⟨Tb, To + i, none⟩ = some (.slice (A i) (len i) (cap i))) ∧ ∀ i, i < nt → RowF W W (A i) (len i) (cap i) (ops i) := by
  rcases open_slice1 Try.underlying23 Try.sliceCellsF h with ⟨rfl, rfl⟩ | ⟨a, nt, cp, m, n, V, D, Pl, rfl, hb, hl, hm, hmm, rfl, hx⟩
  · exact ⟨none, 0, 0, 0, 0, fun _ => none, fun _ => 0, fun _ => 0, fun _ => [], rfl, Nat.zero_le _, by simp, fun h => absurd h (Nat.lt_irrefl _), fun i hi => absurd hi (by omega), fun i hi => absurd hi (by omega)⟩
  have hlm : nt ≤ m := by rw [hmm]; split <;> omega
  have h24 : Try.prog.bytesOf 34 = 24 := by kernel_rfl
  have h32 : Try.prog.bytesOf 49 = 32 := by kernel_rfl
  have hnby : nt * 24 ≤ reachBytes := by
    have := hw ((((List.range nt).map D).length + ((List.range (m - nt)).map fun j => D (nt + j)).length) * Try.prog.bytesOf 34) (by simp [DataW.weights, Try.underlying23])
    rw [h24] at this
    simp at this
    omega
  by_cases h0 : nt = 0
  · subst h0
    exact ⟨some a, 0, cp, 0, 0, fun _ => none, fun _ => 0, fun _ => 0, fun _ => [], rfl, Nat.zero_le _, by simp, fun h => absurd h (Nat.lt_irrefl _), fun i hi => absurd hi (by omega), fun i hi => absurd hi (by omega)⟩
  have ha : a.spot = none := by
    obtain ⟨c0, _⟩ := hx 0 (by omega)
    have : W.cell? a = some (V 0) := by simpa [Addr.add] using c0
    exact (spot_none this).1
  obtain ⟨Tb, To, s⟩ := a
  simp only at ha
  subst ha
  have hex : ∀ i, ∃ p : Option Addr × Nat × Nat × List OpI, i < nt → (Tb < W.heap.size ∧ W.cell? ⟨Tb, To + i, none⟩ = some (.slice p.1 p.2.1 p.2.2.1)) ∧ RowF W W p.1 p.2.1 p.2.2.1 p.2.2.2 := fun i => by
    by_cases hi : i < nt
    · obtain ⟨c1, c2⟩ := hx i (by omega)
      obtain ⟨A, len, cap, ops, e, h1, h2, h3, h4, h5, h6⟩ := open_opsF c2
      simp only [List.cons.injEq, and_true] at e
      rw [e] at c1
      have ea : (⟨Tb, To, none⟩ : Addr).add i = ⟨Tb, To + i, none⟩ := by
        unfold Addr.add
        by_cases h4 : i = 0 <;> simp [h4]
      rw [ea] at c1
      refine ⟨(A, len, cap, ops), fun _ => ⟨⟨(spot_none c1).2, c1⟩, h1, h2, h3, ?_, h4, h6⟩⟩
      rcases h5 with h5 | ⟨el, spa, e1, e2⟩
      · simp [h5]
      · simp only at e1
        have := hw ((el.length + spa.length) * Try.prog.bytesOf 49) (by
          simp only [DataW.weights, Try.underlying23, List.mem_cons, List.mem_append]
          refine .inr (.inl (weights_all (d := D i) (List.mem_map.2 ⟨i, by simpa using hi, rfl⟩) _ ?_))
          rw [e1]
          simp [DataW.weights, Try.underlying34])
        rw [h32] at this
        show len * 32 ≤ _
        exact Nat.le_trans (Nat.mul_le_mul_right _ e2) this
    · exact ⟨(none, 0, 0, []), fun h => absurd h hi⟩
  obtain ⟨F, hF⟩ := Classical.axiomOfChoice hex
  exact ⟨some ⟨Tb, To, none⟩, nt, cp, Tb, To, fun i => (F i).1, fun i => (F i).2.1, fun i => (F i).2.2.1, fun i => (F i).2.2.2, rfl, by omega, hnby, fun _ => rfl, fun i hi => (hF i hi).1, fun i hi => (hF i hi).2⟩
set_option maxRecDepth 100000 in
theorem open_scriptF {W : World} {sp : Nat → Bool} {fuel : Nat} {c : Array Value} {x : DataW H × List MemPlace} (h : DataW.trod enc Try.prog W 0 sp true fuel 26 c.toList = some x)
    (hw : (DataW.weights Try.prog 26 x.1).all (· ≤ reachBytes) = true) :
    ∃ ss qA qc nt tA cp Tb To A len cap ops sA sc xs most, c = #[.slice qA ss.length qc, .slice tA nt cp, .slice sA xs.length sc, .int .i64 most] ∧ ScrF W W ss qA qc nt tA Tb To A len cap ops sA sc xs := by
  obtain ⟨ys, k', _, hx1, hcl, hlx, hf⟩ := DataW.trod_struct Try.underlying26 h
  rw [Try.scriptCellsF] at hcl
  obtain ⟨l⟩ := c
  simp only at hcl h hf
  match l, hcl with
  | [v0, v1, v2, v3], _ =>
    match ys, hlx with
    | [x0, x1, x2, x3], _ =>
      have f0 : DataW.trod enc Try.prog W 0 sp true k' 22 [v0] = some x0 := by
        have h := hf 0 _ rfl
        change DataW.trod enc Try.prog W 0 sp true k' 22 (List.take (Try.prog.cellsOf 22) (List.drop 0 [v0, v1, v2, v3])) = some x0 at h
        rw [Try.numsCellsF] at h
        exact h
      have f1 : DataW.trod enc Try.prog W 0 sp true k' 23 [v1] = some x1 := by
        have h := hf 1 _ rfl
        change DataW.trod enc Try.prog W 0 sp true k' 23 (List.take (Try.prog.cellsOf 23) (List.drop 1 [v0, v1, v2, v3])) = some x1 at h
        rw [Try.thrsCellsF] at h
        exact h
      have f2 : DataW.trod enc Try.prog W 0 sp true k' 24 [v2] = some x2 := by
        have h := hf 2 _ rfl
        change DataW.trod enc Try.prog W 0 sp true k' 24 (List.take (Try.prog.cellsOf 24) (List.drop 2 [v0, v1, v2, v3])) = some x2 at h
        rw [Try.intsCellsF] at h
        exact h
      have f3 : DataW.trod enc Try.prog W 0 sp true k' 3 [v3] = some x3 := by
        have h := hf 3 _ rfl
        change DataW.trod enc Try.prog W 0 sp true k' 3 (List.take (Try.prog.cellsOf 3) (List.drop 3 [v0, v1, v2, v3])) = some x3 at h
        rw [Try.intCells] at h
        exact h
      have hall : ∀ (j : Nat) (t : TypeId) (d : DataW H), [22, 23, 24, 3][j]? = some t → [x0.1, x1.1, x2.1, x3.1][j]? = some d → ∀ n ∈ d.weights Try.prog t, n ≤ reachBytes := fun j t d ht hd n hn => by
        have hm : n ∈ DataW.weights Try.prog 26 x.1 := by
          rw [hx1]
          show _ ∈ DataW.weights Try.prog 26 (.agg [x0.1, x1.1, x2.1, x3.1])
          simp only [DataW.weights, Try.underlying26]
          exact DataW.weights_mem_each (j := j) (t := t) (d := d) ht hd _ hn
        exact of_decide_eq_true (List.all_eq_true.1 hw _ hm)
      have h8 : Try.prog.bytesOf 2 = 8 := by kernel_rfl
      have h8' : Try.prog.bytesOf 3 = 8 := by kernel_rfl
      obtain ⟨qA, qc, ss, e0, a1, a2, an, a3, a4, a5⟩ := open_numsF Try.underlying22 Try.underlying2 Try.longCells f0
      obtain ⟨tA, nt, cp, Tb, To, A, len, cap, ops, e1, b1, b2, b3, b4, b5⟩ := open_threadsF f1 (hall 1 _ _ rfl rfl)
      obtain ⟨sA, sc, xs, e2, c1, c2, cn, c3, c4, c5⟩ := open_numsF Try.underlying24 Try.underlying3 Try.intCells f2
      obtain ⟨most, e3, _, _⟩ := DataW.trod_int Try.underlying3 f3
      simp only [List.cons.injEq, and_true] at e0 e1 e2 e3
      subst e0; subst e1; subst e2; subst e3
      refine ⟨ss, qA, qc, nt, tA, cp, Tb, To, A, len, cap, ops, sA, sc, xs, most, rfl, ⟨⟨a3, a1, a2, an, a4, ?_⟩, ⟨c3, c1, c2, cn, c4, ?_⟩, b1, b2, b3, b4, b5⟩⟩
      · rcases a5 with z | ⟨el, spa, z1, z2⟩
        · simp [z]
        · have hm := hall 0 _ _ rfl rfl ((el.length + spa.length) * Try.prog.bytesOf 2) (by
            rw [z1]
            simp [DataW.weights, Try.underlying22])
          rw [h8] at hm
          omega
      · rcases c5 with z | ⟨el, spa, z1, z2⟩
        · simp [z]
        · have hm := hall 2 _ _ rfl rfl ((el.length + spa.length) * Try.prog.bytesOf 3) (by
            rw [z1]
            simp [DataW.weights, Try.underlying24])
          rw [h8'] at hm
          omega
end
structure Scr where
  ss : List Int
  qA : Option Addr
  qc : Nat
  nt : Nat
  tA : Option Addr
  cp : Nat
  Tb : Nat
  To : Nat
  A : Nat → Option Addr
  len : Nat → Nat
  cap : Nat → Nat
  ops : Nat → List OpI
  sA : Option Addr
  sc : Nat
  xs : List Int
  most : Int
def Scr.At (s : Scr) (W w : World) : Prop := ScrF W w s.ss s.qA s.qc s.nt s.tA s.Tb s.To s.A s.len s.cap s.ops s.sA s.sc s.xs
def Scr.vals (s : Scr) : Array Value := #[.slice s.qA s.ss.length s.qc, .slice s.tA s.nt s.cp, .slice s.sA s.xs.length s.sc, .int .i64 s.most]
def Scr.opq (s : Scr) (i : Nat) : List OpI := (s.ops i).take 65536
noncomputable def Scr.run (s : Scr) : Run RSt2 := playS s.ss s.opq s.nt s.xs s.most
section
variable {s : Scr} {W w w' : World}
theorem cell_blockF {w : World} {b o : Nat} {v : Value} (h : w.cell? ⟨b, o, none⟩ = some v) : ∃ cs t r, w.heap[b]? = some (.cells cs t r) ∧ cs[o]? = some v := by
  unfold World.cell? at h
  cases ho : w.heap[b]? with
  | none => simp [ho] at h
  | some x =>
    cases x with
    | cells cs t r =>
      refine ⟨cs, t, r, rfl, ?_⟩
      have := cell_of_row w b o cs t r ho
      unfold World.cell? at this
      rw [← this]
      exact h
    | _ => simp [ho] at h
theorem NumF.keep {A : Option Addr} {cap : Nat} {xs : List Int} (h : NumF W w A cap xs) (hk : ∀ b o v, b < W.heap.size → w.cell? ⟨b, o, none⟩ = some v → w'.cell? ⟨b, o, none⟩ = some v) : NumF W w' A cap xs :=
  ⟨fun i hi => by obtain ⟨b, o, h1, h2, h3⟩ := h.at_ i hi; exact ⟨b, o, h1, h2, hk _ _ _ h2 h3⟩, h.le, h.max, h.nil, h.r64, h.by_⟩
theorem RowF.keep {A : Option Addr} {len cap : Nat} {ops : List OpI} (h : RowF W w A len cap ops) (hk : ∀ b o v, b < W.heap.size → w.cell? ⟨b, o, none⟩ = some v → w'.cell? ⟨b, o, none⟩ = some v) : RowF W w' A len cap ops :=
  ⟨h.le, h.max, h.nil, h.by_, h.olen, fun j o ho => by
    obtain ⟨h0, h0', b, f, h1, h2, h3, h4, h5, h6⟩ := h.op j o ho
    exact ⟨h0, h0', b, f, h1, h2, hk _ _ _ h2 h3, hk _ _ _ h2 h4, hk _ _ _ h2 h5, hk _ _ _ h2 h6⟩⟩
theorem Scr.At.keep (h : s.At W w) (hk : ∀ b o v, b < W.heap.size → w.cell? ⟨b, o, none⟩ = some v → w'.cell? ⟨b, o, none⟩ = some v) : s.At W w' :=
  ⟨ScrF.st h |>.keep hk, ScrF.sch h |>.keep hk, ScrF.nmx h, ScrF.nby h, ScrF.ta h, fun i hi => by obtain ⟨h1, h2⟩ := ScrF.cell h i hi; exact ⟨h1, hk _ _ _ h1 h2⟩, fun i hi => (ScrF.row h i hi).keep hk⟩
theorem NumF.nums {A : Option Addr} {cap : Nat} {xs : List Int} (h : NumF W w A cap xs) : NumsIn w A cap xs := ⟨h.le, h.max, fun i hi => by obtain ⟨b, o, h1, _, h3⟩ := h.at_ i hi; exact ⟨b, o, h1, h3⟩⟩
theorem NumF.ints {A : Option Addr} {cap : Nat} {xs : List Int} (h : NumF W w A cap xs) : IntsAt w (.slice A xs.length cap) xs := ⟨A, cap, rfl, fun i hi => by obtain ⟨b, o, h1, _, h3⟩ := h.at_ i hi; exact ⟨b, o, h1, lt_of_cell h3, h3⟩⟩
theorem Scr.At.rows (h : s.At W w) : RowsAt w s.Tb s.To (min s.nt 64) s.A s.len s.cap :=
  ⟨fun i hi => (ScrF.cell h i (by omega)).2, fun i hi => (ScrF.row h i (by omega)).le, fun i hi => (ScrF.row h i (by omega)).max, fun i hi => (ScrF.row h i (by omega)).nil⟩
theorem opq_get {i j : Nat} {o : OpI} (h : (s.opq i)[j]? = some o) : (s.ops i)[j]? = some o := by
  unfold Scr.opq at h
  rw [List.getElem?_take] at h
  split at h
  · exact h
  · cases h
theorem Scr.At.opc (h : s.At W w) : OpsCells W GI w (min s.nt 64) s.A s.len s.opq := ⟨fun i hi => by
    simp [Scr.opq, (ScrF.row h i (by omega)).olen, Nat.min_comm], fun i hi o ho => by
    obtain ⟨j, hj, e⟩ := List.mem_iff_getElem.1 ho
    obtain ⟨z1, z2, _⟩ := (ScrF.row h i (by omega)).op j o (opq_get (by rw [List.getElem?_eq_getElem hj, e]))
    exact ⟨z1.1, z1.2, z2.2⟩, fun i hi j hj => by
    obtain ⟨_, _, b, f, h1, h2, h3, h4, h5, h6⟩ := (ScrF.row h i (by omega)).op j _ (opq_get (List.getElem?_eq_getElem hj))
    obtain ⟨cs, t, r, k1, k2⟩ := cell_blockF h3
    refine ⟨b, f, cs, t, r, h1, k1, .inr h2, fun m hm => ?_⟩
    have c : ∀ k v, w.cell? ⟨b, f + j * 4 + k, none⟩ = some v → cs[f + j * 4 + k]? = some v := fun k v hc => (cell_of_row w b _ cs t r k1).symm.trans hc
    rcases m with _ | _ | _ | _ | m
    · exact k2.trans rfl
    · exact (c 1 _ h4).trans rfl
    · exact (c 2 _ h5).trans rfl
    · exact (c 3 _ h6).trans rfl
    · omega⟩
theorem Scr.At.schi (h : s.At W w) (Z : Nat → Prop) : SchI W (.slice s.sA s.xs.length s.sc) s.xs Z w := ⟨⟨s.sA, s.sc, rfl, fun i hi => by
    obtain ⟨b, o, h1, h2, h3⟩ := (ScrF.sch h).at_ i hi
    obtain ⟨cs, t, r, k1, k2⟩ := cell_blockF h3
    exact ⟨b, o, cs, t, r, h1, k1, .inl h2, k2⟩⟩, Nat.le_trans (ScrF.sch h).le (ScrF.sch h).max⟩
theorem Scr.At.slen (h : s.At W w) : s.ss.length ≤ 4611686018427387903 := by
  have := (ScrF.st h).by_
  unfold reachBytes at this
  omega
theorem Scr.run_bd (s : Scr) : QB s.run.m.s := playS_bd _ _ (fun i => by simp [Scr.opq]; omega) _ _ _
theorem Scr.At.play (hP : Prog Try.prog) (Post : Value → World → Prop) (h : s.At W w) (hW : W.heap.size ≤ w.heap.size) :
    Ccalls (lgA hP Post W) 10 #[.slice s.qA s.ss.length s.qc, .slice s.tA s.nt s.cp, .slice s.sA s.xs.length s.sc, .int .i64 s.most] () w fun v _ w' => PlayDone W (rnOf s.ss) s.run (min s.nt 64) w v w' :=
  play_any hP Post W s.ss s.qA s.qc (fun x hx => ((ScrF.st h).r64 x hx).1) h.slen s.tA s.Tb s.To s.nt s.cp (ScrF.ta h) (ScrF.nmx h) s.A s.len s.cap s.opq _ s.xs s.most w hW (ScrF.st h).nums h.rows h.opc (h.schi _)
end
end Go.Proofs.Yteainbnoemkfcaa
namespace Go.Proofs.Yteainbnoemkfcaa
open Go.RowKit
def Shp (w w' : World) : Prop := ∀ (b : Nat) (c : Array Value) (t : TypeId), w.heap[b]? = some (.cells c t (0, 0)) → ∃ c' : Array Value, w'.heap[b]? = some (.cells c' t (0, 0)) ∧ c'.size = c.size
def Pre (g : Option Nat) (m : Nat) (w w' : World) : Prop := ∀ (b : Nat) (c : Array Value) (t : TypeId), w.heap[b]? = some (.cells c t (0, 0)) → ∃ c' : Array Value, w'.heap[b]? = some (.cells c' t (0, 0)) ∧ c'.size = c.size ∧ ∀ j, (some b ≠ g ∨ j < m) → c'[j]? = c[j]?
section
variable {w w' w'' : World} {g : Option Nat} {m : Nat}
theorem Shp.refl (w : World) : Shp w w := fun b c t h => ⟨c, h, rfl⟩
theorem Shp.trans (h : Shp w w') (k : Shp w' w'') : Shp w w'' := fun b c t hb => by
  obtain ⟨c1, h1, s1⟩ := h b c t hb
  obtain ⟨c2, h2, s2⟩ := k b c1 t h1
  exact ⟨c2, h2, s2.trans s1⟩
theorem Pre.shp (h : Pre g m w w') : Shp w w' := fun b c t hb => by
  obtain ⟨c', h1, h2, -⟩ := h b c t hb
  exact ⟨c', h1, h2⟩
theorem Pre.of_same (h : ∀ b, b < w.heap.size → w'.heap[b]? = w.heap[b]?) : Pre g m w w' := fun b c t hb => ⟨c, (h b (Blk.lt (t := t) (cs := c) hb)).trans hb, rfl, fun _ _ => rfl⟩
theorem Shp.kept (h : Kept (fun _ => False) w w') : Shp w w' := (Pre.of_same (g := none) (m := 0) fun b hb => h.block b hb id).shp
theorem Shp.setCell (b i : Nat) (u : Value) (w : World) : Shp w (w.setCell ⟨b, i, none⟩ u) := fun k c t hk => by
  by_cases e : k = b
  · subst e
    exact ⟨_, Blk.set_ (t := t) (cs := c) hk i u, by simp⟩
  · exact ⟨c, Blk.far (t := t) (cs := c) hk (p := ⟨b, i, none⟩) e u, rfl⟩
theorem own_shp {base : Nat} {e : TypeId} {size n : Nat} {v : Value} {xs : List Value} (h : w.ownsRow base e size v n xs) (k : Shp w w') : ∃ xs', w'.ownsRow base e size v n xs' := by
  obtain ⟨h1, h2⟩ := h
  rcases h2 with ⟨rfl, rfl⟩ | ⟨b, cap, cur, hv, hb, hh, hnc, hm, hs, ht⟩
  · exact ⟨[], by simp, .inl ⟨rfl, rfl⟩⟩
  · obtain ⟨c', k1, k2⟩ := k b cur e hh
    refine ⟨c'.toList.take (n * size), ?_, .inr ⟨b, cap, c', hv, hb, k1, hnc, hm, k2.trans hs, rfl⟩⟩
    have : n * size ≤ cap * size := Nat.mul_le_mul_right _ hnc
    simp; omega
theorem own_pre {base : Nat} {e : TypeId} {size n : Nat} {v : Value} {xs : List Value} (h : w.ownsRow base e size v n xs) (k : Pre g m w w') (hm : v.ownBlock = g → n * size ≤ m) : w'.ownsRow base e size v n xs := by
  obtain ⟨h1, h2⟩ := h
  refine ⟨h1, ?_⟩
  rcases h2 with ⟨rfl, rfl⟩ | ⟨b, cap, cur, hv, hb, hh, hnc, hmx, hs, ht⟩
  · exact .inl ⟨rfl, rfl⟩
  · obtain ⟨c', k1, k2, k3⟩ := k b cur e hh
    refine .inr ⟨b, cap, c', hv, hb, k1, hnc, hmx, k2.trans hs, ?_⟩
    rw [← ht]
    apply List.ext_getElem?
    intro j
    by_cases hj : j < n * size
    · have := k3 j (by
        by_cases e : some b = g
        · subst hv
          exact .inr (Nat.lt_of_lt_of_le hj (hm e))
        · exact .inl e)
      simp [hj, this]
    · simp [List.getElem?_take, hj]
theorem own_ne {b1 b2 : Nat} {e1 e2 : TypeId} {s1 s2 n1 n2 : Nat} {v1 v2 : Value} {x1 x2 : List Value} (h1 : w.ownsRow b1 e1 s1 v1 n1 x1) (h2 : w.ownsRow b2 e2 s2 v2 n2 x2) (hne : e1 ≠ e2) {b : Nat} (k1 : v1.ownBlock = some b) (k2 : v2.ownBlock = some b) : False := by
  rcases h1.2 with ⟨rfl, _⟩ | ⟨g1, c1, u1, rfl, _, p1, _⟩
  · cases k1
  rcases h2.2 with ⟨rfl, _⟩ | ⟨g2, c2, u2, rfl, _, p2, _⟩
  · cases k2
  simp only [Value.ownBlock, Option.some.injEq] at k1 k2
  subst k1 k2
  rw [p1] at p2
  simp only [Option.some.injEq, Obj.cells.injEq] at p2
  exact hne p2.2.1
theorem own_lt {b1 : Nat} {e1 : TypeId} {s1 n1 : Nat} {v1 : Value} {x1 : List Value} (h1 : w.ownsRow b1 e1 s1 v1 n1 x1) {b : Nat} (k1 : v1.ownBlock = some b) : b1 ≤ b ∧ b < w.heap.size ∧ ∃ c, Blk w b e1 c := by
  rcases h1.2 with ⟨rfl, _⟩ | ⟨g1, c1, u1, rfl, q, p1, _⟩
  · cases k1
  simp only [Value.ownBlock, Option.some.injEq] at k1
  subst k1
  exact ⟨q, Blk.lt (t := e1) (cs := u1) p1, u1, p1⟩
theorem own_eq {base : Nat} {e : TypeId} {size n : Nat} {v : Value} {xs : List Value} (h : w.ownsRow base e size v n xs) (hs : ∀ b, v.ownBlock = some b → w'.heap[b]? = w.heap[b]?) : w'.ownsRow base e size v n xs := by
  obtain ⟨h1, h2⟩ := h
  refine ⟨h1, ?_⟩
  rcases h2 with h2 | ⟨b, cap, cur, hv, hb, hh, r⟩
  · exact .inl h2
  · exact .inr ⟨b, cap, cur, hv, hb, (hs b (by rw [hv]; rfl)).trans hh, r⟩
end
section
variable {P : Program} (w : World)
theorem run_append_pre (base : Nat) (t ty e : TypeId) (i : TypeInfo) (z : Value) (size bytes : Nat) (ht : P.underlying t = some (.slice e)) (hi : P.info? e = some i) (hz : i.zero = some z)
    (hsize : i.size = size) (hby : i.bytes = bytes) (hzs : z.cells.size = size) (hsz : 0 < size)
    (v : Value) (n : Nat) (xs : List Value) (hown : w.ownsRow base e size v n xs)
    (A : Option Addr) (m c : Nat) (hA : A = none → c = 0) (hmc : m ≤ c) (news : List Value) (hl : news.length = m * size) (hnews : ∀ a, A = some a → ∀ j u, news[j]? = some u → w.cell? (a.add j) = some u) (h1 : ∀ u ∈ news, u.oneCell' = true)
    (h63 : n + m ≤ maxLen) (hbytes : (n + m) * bytes ≤ 140737488355328) (hbase : base ≤ w.heap.size) :
    ∃ v' w', (Builtin.append_ #[t, t] ty #[v, .slice A m c]).run P w = .ok v' w' ∧ w'.ownsRow base e size v' (n + m) (xs ++ news) ∧ Kept (fun b => v.ownBlock = some b) w w' ∧ Pre v.ownBlock (n * size) w w' ∧
      (v'.ownBlock = v.ownBlock ∨ ∀ b, v'.ownBlock = some b → w.heap.size ≤ b) ∧ (0 < n + m → v' ≠ .slice none 0 0) := by
  subst hsize
  subst hby
  cases A with
  | none =>
    obtain rfl := hA rfl
    obtain rfl : m = 0 := by omega
    have hn : news = [] := List.eq_nil_of_length_eq_zero (by simpa using hl)
    subst hn
    have hr : (Builtin.append_ #[t, t] ty #[v, .slice none 0 0]).run P w = .ok v w := by
      rcases hown.2 with ⟨rfl, rfl⟩ | ⟨g, cap, cur, rfl, _, _, hnc, _⟩
      · simp [Builtin.append_, run_underlying ht, sizeOf, typeInfo, hi, Builtin.lenOf, Builtin.firstCells]
      · simp [Builtin.append_, run_underlying ht, sizeOf, typeInfo, hi, Builtin.lenOf, Builtin.firstCells, hnc, storeCells]
    refine ⟨v, w, hr, by simpa using hown, Kept.refl _ _, Pre.of_same fun _ _ => rfl, .inl rfl, fun h e => ?_⟩
    rcases hown.2 with ⟨-, h2⟩ | ⟨g, cap, cur, hv, _⟩
    · omega
    · rw [e] at hv; cases hv
  | some a =>
    have hnews := hnews a rfl
    have hsmall : n + m ≤ 9223372036854775807 := by simp only [maxLen] at h63; omega
    have hlen : (xs ++ news).length = (n + m) * i.size := by rw [List.length_append, hown.1, hl, Nat.add_mul]
    have grown : ∀ (old : Nat), old < n + m → ∀ (S : Nat → Prop) (g : Option Nat) (k : Nat),
        (w.drew.alloc (.cells (xs.toArray ++ news.toArray ++ Builtin.zeroCells z.cells (grownCap w (n + m) old e - (n + m))) e)).ownsRow base e i.size
          (.slice (some ⟨w.heap.size, 0, none⟩) (n + m) (grownCap w (n + m) old e)) (n + m) (xs ++ news) ∧
        Kept S w (w.drew.alloc (.cells (xs.toArray ++ news.toArray ++ Builtin.zeroCells z.cells (grownCap w (n + m) old e - (n + m))) e)) ∧
        Pre g k w (w.drew.alloc (.cells (xs.toArray ++ news.toArray ++ Builtin.zeroCells z.cells (grownCap w (n + m) old e - (n + m))) e)) := by
      intro old ho S g k
      have hge := grownCap_ge w (n + m) old e
      have hcm : grownCap w (n + m) old e ≤ maxLen := grownCap_le_maxLen w (n + m) old e h63
      refine ⟨⟨hlen, .inr ⟨w.heap.size, _, _, rfl, hbase, heap_alloc_new w.drew _, hge, hcm, ?_, ?_⟩⟩, (Kept.drew w).trans (Kept.alloc _ _), Pre.of_same fun b hb => heap_alloc_old w.drew _ hb⟩
      · simp only [Array.size_append, List.size_toArray, size_zeroCells, hzs, hown.1, hl, ← Nat.add_mul]
        congr 1
        omega
      · simp only [Array.toList_append, List.append_assoc]
        rw [← List.append_assoc, ← hlen]
        exact List.take_left
    rcases hown.2 with ⟨rfl, rfl⟩ | ⟨g, cap, cur, rfl, hbg, hg, hnc, hcm, hcs, htake⟩
    · have hx : xs = [] := List.eq_nil_of_length_eq_zero (by simpa using hown.1)
      subst hx
      by_cases hm : m = 0
      · subst hm
        have hn : news = [] := List.eq_nil_of_length_eq_zero (by simpa using hl)
        subst hn
        refine ⟨.slice none 0 0, w, ?_, World.ownsRow_nil w base e i.size, Kept.refl _ _, Pre.of_same fun _ _ => rfl, .inl rfl, fun h => by omega⟩
        simp [Builtin.append_, run_underlying ht, sizeOf, typeInfo, hi, Builtin.lenOf, Builtin.firstCells, loadCells, loadCellsFrom]
      · have hr := run_append_nil (P := P) w t ty e i z ht hi hz a m c news hl hnews (by omega) (by omega) (by have hb := hbytes; simp only [Nat.zero_add] at hb; omega)
        have hgr := grown 0 (by omega) (fun b => (Value.slice none 0 0).ownBlock = some b) (Value.slice none 0 0).ownBlock (0 * i.size)
        simp only [Nat.zero_add, List.nil_append, Array.empty_append] at hgr ⊢
        exact ⟨_, _, hr, hgr.1, hgr.2.1, hgr.2.2, .inr fun b hb => by cases hb; exact Nat.le_refl _, fun _ e => by cases e⟩
    · by_cases hroom : n + m ≤ cap
      · have hfit : n * i.size + news.length ≤ cur.size := by rw [hl, hcs, ← Nat.add_mul]; exact Nat.mul_le_mul_right _ hroom
        have hr := run_append_room (P := P) w t ty e i ht hi g n cap cur hg a m c news hl hnews h1 hroom hfit
        have hsz : (cur.toList.take (n * i.size) ++ news ++ cur.toList.drop (n * i.size + news.length)).toArray.size = cur.size := by
          simp only [List.size_toArray, List.length_append, List.length_take, List.length_drop, Array.length_toList]
          omega
        refine ⟨_, _, hr, ⟨hlen, .inr ⟨g, cap, _, rfl, hbg, setRow_heap w g cur _ e _ hg, hroom, hcm, ?_, ?_⟩⟩, ⟨rfl, rfl, rfl, by simp, fun k _ hk => setRow_other w g k _ (fun e => hk (by simp [Value.ownBlock, e]))⟩, fun b c t hb => ?_, .inl rfl, fun _ e => by cases e⟩
        · simp only [List.size_toArray, List.length_append, List.length_take, List.length_drop, Array.length_toList]
          omega
        · rw [htake, ← hlen]
          exact List.take_left
        · by_cases e : b = g
          · subst e
            rw [hg] at hb
            simp only [Option.some.injEq, Obj.cells.injEq] at hb
            obtain ⟨rfl, rfl, -⟩ := hb
            refine ⟨_, setRow_heap w b cur _ e _ hg, hsz, fun j hj => ?_⟩
            have hj : j < n * i.size := by
              rcases hj with h | h
              · exact absurd rfl h
              · exact h
            simp [List.getElem?_append, hj]
            omega
          · exact ⟨c, (setRow_other w g b _ e).trans hb, rfl, fun _ _ => rfl⟩
      · have holds : ∀ j u, xs[j]? = some u → w.cell? ((⟨g, 0, none⟩ : Addr).add j) = some u := hown.cells (g := g) rfl
        have hr := run_append_grow (P := P) w t ty e i z ht hi hz ⟨g, 0, none⟩ n cap xs hown.1 holds a m c news hl hnews (by omega) (by omega) (growslice_fits (by omega) hbytes)
        have hgr := grown cap (by omega) (fun b => (Value.slice (some ⟨g, 0, none⟩) n cap).ownBlock = some b) (Value.slice (some ⟨g, 0, none⟩) n cap).ownBlock (n * i.size)
        exact ⟨_, _, hr, hgr.1, hgr.2.1, hgr.2.2, .inr fun b hb => by cases hb; exact Nat.le_refl _, fun _ e => by cases e⟩
theorem wpList_app {ops : Array Oper} {rest : List Oper} {o : Oper} {a : Act} {Q : Exit → Act → World → Prop} (hgd : o.guard = none) (s x : Operand) (t : TypeId)
    (ho : o.op = .call { callee := .builtin .append, args := #[s, x], argTypes := #[t, t] })
    (base : Nat) (e : TypeId) (i : TypeInfo) (z : Value) (size bytes : Nat) (ht : P.underlying t = some (.slice e)) (hi : P.info? e = some i) (hz : i.zero = some z)
    (hsize : i.size = size) (hby : i.bytes = bytes) (hzs : z.cells.size = size) (hsz : 0 < size)
    (v : Value) (n : Nat) (xs : List Value) (hs : a.eval s = v) (hown : w.ownsRow base e size v n xs)
    (A : Option Addr) (m c : Nat) (hx : a.eval x = .slice A m c) (hA : A = none → c = 0) (hmc : m ≤ c) (news : List Value) (hl : news.length = m * size) (hnews : ∀ a, A = some a → ∀ j u, news[j]? = some u → w.cell? (a.add j) = some u) (h1 : ∀ u ∈ news, u.oneCell' = true)
    (h63 : n + m ≤ maxLen) (hbytes : (n + m) * bytes ≤ 140737488355328) (hbase : base ≤ w.heap.size)
    (h : ∀ v' w', w'.ownsRow base e size v' (n + m) (xs ++ news) → Kept (fun b => v.ownBlock = some b) w w' → Pre v.ownBlock (n * size) w w' → (v'.ownBlock = v.ownBlock ∨ ∀ b, v'.ownBlock = some b → w.heap.size ≤ b) → (0 < n + m → v' ≠ .slice none 0 0) → wpList P ops Q rest (a.put o.dst v') w') : wpList P ops Q (o :: rest) a w :=
  wpList_plain hgd fun K hK => by
    obtain ⟨v', w', hr, h2, h3, h4, h5, h6⟩ := run_append_pre (P := P) w base t o.type e i z size bytes ht hi hz hsize hby hzs hsz v n xs hown A m c hA hmc news hl hnews h1 h63 hbytes hbase
    unfold Oper.wp execOp
    simp only [ho, resolve, invoke, builtin, Sem.run_bind, Sem.run_pure, Result.andThen_ok, List.map_toArray, List.map_cons, List.map_nil, hs, hx, hr]
    exact hK _ _ (h v' w' h2 h3 h4 h5 h6)
end
end Go.Proofs.Yteainbnoemkfcaa
namespace Go.Proofs.Yteainbnoemkfcaa
open Go.RowKit Go.Turn Go.Tame Go.Conc
theorem Try.infoOp : (Try.prog.info? 49).map (fun i => (i.zero, i.size, i.bytes)) = some (some (.agg #[.int .i64 0, .int .i64 0, .int .i64 0, .int .i64 0]), 4, 32) := by kernel_rfl
theorem Try.infoOpL : (Try.prog.info? 34).map (fun i => (i.zero, i.size, i.bytes)) = some (some (.slice none 0 0), 1, 24) := by kernel_rfl
theorem Try.infoI : (Try.prog.info? 3).map (fun i => (i.zero, i.size, i.bytes)) = some (some (.int .i64 0), 1, 8) := by kernel_rfl
def tailC : Nat → Code → Code
  | 0, c => c
  | k + 1, .seq _ b => tailC k b
  | _ + 1, c => c
abbrev KpT (W : World) (k : Nat) (tm : Array Value) (w : World) : Prop :=
  (lgA Try.tame (PostT (.bool true) W) W).T () (Frame.at { (default : Frame) with fn := 7, kind := .normal } ⟨tm, []⟩ [.code (tailC k (Try.f7.body.getD .skip))]) [] w
set_option maxRecDepth 100000 in
theorem lit301 (tm : Array Value) (h : tm.size = 301) : ∃ f : Nat → Value, tm = #[f 0, f 1, f 2, f 3, f 4, f 5, f 6, f 7, f 8, f 9, f 10, f 11, f 12, f 13, f 14, f 15, f 16, f 17, f 18, f 19, f 20, f 21, f 22, f 23, f 24, f 25, f 26, f 27, f 28, f 29, f 30, f 31, f 32, f 33, f 34, f 35, f 36, f 37, f 38, f 39, f 40, f 41, f 42, f 43, f 44, f 45, f 46, f 47, f 48, f 49, f 50, f 51, f 52, f 53, f 54, f 55, f 56, f 57, f 58, f 59, f 60, f 61, f 62, f 63, f 64, f 65, f 66, f 67, f 68, f 69, f 70, f 71, f 72, f 73, f 74, f 75, f 76, f 77, f 78, f 79, f 80, f 81, f 82, f 83, f 84, f 85, f 86, f 87, f 88, f 89, f 90, f 91, f 92, f 93, f 94, f 95, f 96, f 97, f 98, f 99, f 100, f 101, f 102, f 103, f 104, f 105, f 106, f 107, f 108, f 109, f 110, f 111, f 112, f 113, f 114, f 115, f 116, f 117, f 118, f 119, f 120, f 121, f 122, f 123, f 124, f 125, f 126, f 127, f 128, f 129, f 130, f 131, f 132, f 133, f 134, f 135, f 136, f 137, f 138, f 139, f 140, f 141, f 142, f 143, f 144, f 145, f 146, f 147, f 148, f 149, f 150, f 151, f 152, f 153, f 154, f 155, f 156, f 157, f 158, f 159, f 160, f 161, f 162, f 163, f 164, f 165, f 166, f 167, f 168, f 169, f 170, f 171, f 172, f 173, f 174, f 175, f 176, f 177, f 178, f 179, f 180, f 181, f 182, f 183, f 184, f 185, f 186, f 187, f 188, f 189, f 190, f 191, f 192, f 193, f 194, f 195, f 196, f 197, f 198, f 199, f 200, f 201, f 202, f 203, f 204, f 205, f 206, f 207, f 208, f 209, f 210, f 211, f 212, f 213, f 214, f 215, f 216, f 217, f 218, f 219, f 220, f 221, f 222, f 223, f 224, f 225, f 226, f 227, f 228, f 229, f 230, f 231, f 232, f 233, f 234, f 235, f 236, f 237, f 238, f 239, f 240, f 241, f 242, f 243, f 244, f 245, f 246, f 247, f 248, f 249, f 250, f 251, f 252, f 253, f 254, f 255, f 256, f 257, f 258, f 259, f 260, f 261, f 262, f 263, f 264, f 265, f 266, f 267, f 268, f 269, f 270, f 271, f 272, f 273, f 274, f 275, f 276, f 277, f 278, f 279, f 280, f 281, f 282, f 283, f 284, f 285, f 286, f 287, f 288, f 289, f 290, f 291, f 292, f 293, f 294, f 295, f 296, f 297, f 298, f 299, f 300] := by
  refine ⟨fun j => tm.getD j undef, Array.ext' ?_⟩
  have h1 : tm.toList = (List.range 301).map fun j => tm.getD j undef := by
    apply List.ext_getElem?
    intro j
    by_cases hj : j < 301
    · simp [hj, h]
    · simp [hj, h]
  rw [h1]
  rfl
structure KpB (W : World) (s o : Scr) (b2 b3 : Nat) (w : World) : Prop where
  box2 : Blk w b2 26 s.vals
  box3 : Blk w b3 26 o.vals
  s_ : s.At W w
  o_ : o.At W w
  size : W.heap.size ≤ w.heap.size
  lo : W.heap.size ≤ b2 ∧ W.heap.size ≤ b3
  io : w.os = W.os ∧ w.output = W.output
section
variable {W w w' : World} {s o : Scr} {b2 b3 : Nat}
theorem KpB.same (h : KpB W s o b2 b3 w) (hs : w.heap.size ≤ w'.heap.size) (hio : w'.os = w.os ∧ w'.output = w.output) (hb : ∀ (b : Nat) (c : Array Value) (t : TypeId) (r : Nat × Nat), (b < W.heap.size ∨ b = b2 ∨ b = b3) → (b < W.heap.size ∨ r.2 < big) → w.heap[b]? = some (.cells c t r) → w'.heap[b]? = some (.cells c t r)) : KpB W s o b2 b3 w' := by
  have hc : ∀ b o v, b < W.heap.size → w.cell? ⟨b, o, none⟩ = some v → w'.cell? ⟨b, o, none⟩ = some v := fun b o v hlt hv => by
    obtain ⟨cs, t, r, h1, h2⟩ := cell_blockF hv
    exact (World.cell?_of_block (w := w) (a := ⟨b, o, none⟩) ((hb b cs t r (.inl hlt) (.inl hlt) h1).trans h1.symm)).trans hv
  exact ⟨hb _ _ _ _ (.inr (.inl rfl)) (.inr (by decide)) h.box2, hb _ _ _ _ (.inr (.inr rfl)) (.inr (by decide)) h.box3, h.s_.keep hc, h.o_.keep hc, Nat.le_trans h.size hs, h.lo, hio.1.trans h.io.1, hio.2.trans h.io.2⟩
theorem KpB.kpt (h : KpB W s o b2 b3 w) (k : Kpt W w w') : KpB W s o b2 b3 w' := h.same k.size k.io fun b c t r _ h1 h2 => k.near b c t r h1 h2
theorem KpB.kept {S : Nat → Prop} (h : KpB W s o b2 b3 w) (k : Kept S w w') (hS : ∀ b, S b → W.heap.size ≤ b ∧ b ≠ b2 ∧ b ≠ b3) : KpB W s o b2 b3 w' :=
  h.same k.size ⟨k.os, k.output⟩ fun b c t r h1 _ h2 => (k.block b (lt_of_some h2) fun z => by have := hS b z; omega).trans h2
theorem KpB.re {y : World} {τ : Nat → Question → Nat} {n : Nat} (h : KpB W s o b2 b3 (y.re τ n)) : KpB W s o b2 b3 y := h.same (w := y.re τ n) (Nat.le_refl _) ⟨rfl, rfl⟩ fun _ _ _ _ _ _ z => z
theorem KpB.cells (h : KpB W s o b2 b3 w) : (w.cell? ⟨b2, 0, none⟩ = some (.slice s.qA s.ss.length s.qc) ∧ w.cell? ⟨b2, 1, none⟩ = some (.slice s.tA s.nt s.cp) ∧ w.cell? ⟨b2, 2, none⟩ = some (.slice s.sA s.xs.length s.sc) ∧ w.cell? ⟨b2, 3, none⟩ = some (.int .i64 s.most)) ∧
    (w.cell? ⟨b3, 0, none⟩ = some (.slice o.qA o.ss.length o.qc) ∧ w.cell? ⟨b3, 1, none⟩ = some (.slice o.tA o.nt o.cp) ∧ w.cell? ⟨b3, 2, none⟩ = some (.slice o.sA o.xs.length o.sc) ∧ w.cell? ⟨b3, 3, none⟩ = some (.int .i64 o.most)) :=
  ⟨⟨h.box2.cell 0, h.box2.cell 1, h.box2.cell 2, h.box2.cell 3⟩, h.box3.cell 0, h.box3.cell 1, h.box3.cell 2, h.box3.cell 3⟩
end
def opCells (l : List OpI) : List Value := l.flatMap OpI.cells
structure Copies (B : Nat) (s : Scr) (v5 v6 v7 : Value) (rows : Nat → Value) (j : Nat) (w : World) : Prop where
  o5 : w.ownsRow B 2 1 v5 (s.ss.length + 1) ((s.ss ++ [77]).map (Value.int .i64))
  o6 : w.ownsRow B 3 1 v6 (s.xs.length + 1) ((s.xs ++ [88]).map (Value.int .i64))
  o7 : w.ownsRow B 34 1 v7 j ((List.range j).map rows)
  r : ∀ i, i < j → w.ownsRow B 49 4 (rows i) (s.len i) (opCells (s.ops i))
  ne : ∀ i k b, i < j → k < j → (rows i).ownBlock = some b → (rows k).ownBlock = some b → i = k
theorem opCells_get : ∀ (l : List OpI) (j m : Nat), m < 4 → (opCells l)[j * 4 + m]? = l[j]?.bind fun o => o.cells[m]?
  | [], j, m, hm => by simp [opCells]
  | o :: l, 0, m, hm => by
    rw [show opCells (o :: l) = o.cells ++ opCells l from by simp [opCells], Nat.zero_mul, Nat.zero_add, List.getElem?_append_left (by simpa [OpI.cells] using hm)]
    rfl
  | o :: l, j + 1, m, hm => by
    rw [show opCells (o :: l) = o.cells ++ opCells l from by simp [opCells], show (j + 1) * 4 + m = (j * 4 + m) + 4 from by omega, List.getElem?_append_right (by simp [OpI.cells]), show j * 4 + m + 4 - o.cells.length = j * 4 + m from by simp [OpI.cells], opCells_get l j m hm]
    simp
theorem opCells_len (l : List OpI) : (opCells l).length = l.length * 4 := by
  induction l with
  | nil => rfl
  | cons o l ih =>
    rw [show opCells (o :: l) = o.cells ++ opCells l from by simp [opCells], List.length_append, ih]
    simp [OpI.cells]
    omega
theorem opCells_one (l : List OpI) : ∀ u ∈ opCells l, u.oneCell' = true := fun u hu => by
  obtain ⟨o, _, h⟩ := List.mem_flatMap.1 hu
  simp only [OpI.cells, List.mem_cons, List.not_mem_nil, or_false] at h
  rcases h with rfl | rfl | rfl | rfl <;> rfl
theorem NumF.app {W w : World} {A : Option Addr} {cap : Nat} {xs : List Int} (h : NumF W w A cap xs) : ∀ a, A = some a → ∀ (j : Nat) (u : Value), (xs.map (Value.int .i64))[j]? = some u → w.cell? (a.add j) = some u := fun a ha j u hu => by
  rw [List.getElem?_map] at hu
  have hj : j < xs.length := by
    rcases Nat.lt_or_ge j xs.length with hlt | hge
    · exact hlt
    · rw [List.getElem?_eq_none hge] at hu; cases hu
  rw [List.getElem?_eq_getElem hj] at hu
  simp only [Option.map_some, Option.some.injEq] at hu
  obtain ⟨b, o, h1, _, h3⟩ := h.at_ j hj
  rw [ha] at h1
  simp only [Option.some.injEq] at h1
  subst h1
  rw [show (⟨b, o, none⟩ : Addr).add j = ⟨b, o + j, none⟩ from by unfold Addr.add; by_cases h4 : j = 0 <;> simp [h4], h3, ← hu, List.getD_eq_getElem?_getD, List.getElem?_eq_getElem hj]
  rfl
theorem ints_one (xs : List Int) : ∀ u ∈ xs.map (Value.int .i64), u.oneCell' = true := fun u hu => by
  obtain ⟨x, _, rfl⟩ := List.mem_map.1 hu
  rfl
theorem cell_app1 (w : World) (v : Value) (t : TypeId) : ∀ a, some (⟨w.heap.size, 0, none⟩ : Addr) = some a → ∀ (j : Nat) (u : Value), [v][j]? = some u → (w.alloc (.cells #[v] t)).cell? (a.add j) = some u := fun a ha j u hu => by
  cases ha
  exact cell_new1 w v t j u hu
theorem own_baseK {w : World} {b b' : Nat} {e : TypeId} {size n : Nat} {v : Value} {xs : List Value} (h : w.ownsRow b e size v n xs) (hb : b' ≤ b) : w.ownsRow b' e size v n xs := by
  obtain ⟨h1, h2⟩ := h
  refine ⟨h1, ?_⟩
  rcases h2 with h2 | ⟨g, cap, cur, hv, hg, r⟩
  · exact .inl h2
  · exact .inr ⟨g, cap, cur, hv, by omega, r⟩
theorem RowF.app {W w : World} {A : Option Addr} {len cap : Nat} {ops : List OpI} (h : RowF W w A len cap ops) : ∀ a, A = some a → ∀ (j : Nat) (u : Value), (opCells ops)[j]? = some u → w.cell? (a.add j) = some u := fun a ha j u hu => by
  have e : j = j / 4 * 4 + j % 4 := by omega
  rw [e, opCells_get _ _ _ (by omega)] at hu
  cases ho : ops[j / 4]? with
  | none => rw [ho] at hu; cases hu
  | some o =>
    rw [ho] at hu
    obtain ⟨_, _, b, f, h1, _, h3, h4, h5, h6⟩ := h.op _ _ ho
    rw [ha] at h1
    simp only [Option.some.injEq] at h1
    subst h1
    rw [show (⟨b, f, none⟩ : Addr).add j = ⟨b, f + j, none⟩ from by unfold Addr.add; by_cases h4 : j = 0 <;> simp [h4]]
    generalize hm : j % 4 = m at hu e
    have hm4 : m < 4 := by omega
    generalize j / 4 = q at *
    subst e
    simp only [Option.bind_some] at hu
    match m, hm4 with
    | 0, _ => simp only [OpI.cells, List.getElem?_cons_zero, Option.some.injEq] at hu; subst hu; exact h3
    | 1, _ => simp only [OpI.cells, List.getElem?_cons_succ, List.getElem?_cons_zero, Option.some.injEq] at hu; subst hu; rw [← Nat.add_assoc]; exact h4
    | 2, _ => simp only [OpI.cells, List.getElem?_cons_succ, List.getElem?_cons_zero, Option.some.injEq] at hu; subst hu; rw [← Nat.add_assoc]; exact h5
    | 3, _ => simp only [OpI.cells, List.getElem?_cons_succ, List.getElem?_cons_zero, Option.some.injEq] at hu; subst hu; rw [← Nat.add_assoc]; exact h6
theorem Copies.snoc {B : Nat} {s : Scr} {v5 v6 v r v' : Value} {rows : Nat → Value} {j : Nat} {w w1 w2 : World} {t : TypeId} (C : Copies B s v5 v6 v rows j w) (hB : B ≤ w.heap.size) (k1 : Kept (fun _ => False) w w1) (h1 : w1.ownsRow w.heap.size 49 4 r (s.len j) (opCells (s.ops j)))
    (h2 : w2.ownsRow B 34 1 v' (j + 1) ((List.range j).map rows ++ [r])) (k2 : Kept (fun b => v.ownBlock = some b) (w1.alloc (.cells #[r] t)) w2) : Copies B s v5 v6 v' (fun i => if i = j then r else rows i) (j + 1) w2 := by
  have k3 : Kept (fun _ => False) w (w1.alloc (.cells #[r] t)) := k1.trans (Kept.alloc _ _)
  have up : ∀ {e : TypeId} {size n : Nat} {x : Value} {xs : List Value} {b0 : Nat}, w.ownsRow b0 e size x n xs → e ≠ 34 → w2.ownsRow b0 e size x n xs := fun {e size n x xs b0} h he => by
    refine own_eq (own_kept h k3 (fun _ _ z => z)) fun b hb => k2.block b (Nat.lt_of_lt_of_le (own_lt h hb).2.1 k3.size) fun z => ?_
    exact own_ne h C.o7 he hb z
  refine ⟨up C.o5 (by decide), up C.o6 (by decide), ?_, fun i hi => ?_, fun i k b hi hk hbi hbk => ?_⟩
  · rw [List.range_succ, List.map_append, List.map_cons, List.map_nil, if_pos rfl]
    rw [show (List.range j).map (fun i => if i = j then r else rows i) = (List.range j).map rows from List.map_congr_left fun i hi => by have := List.mem_range.1 hi; rw [if_neg (by omega)]]
    exact h2
  · show w2.ownsRow B 49 4 (if i = j then r else rows i) _ _
    by_cases e : i = j
    · subst e
      rw [if_pos rfl]
      have h1' : (w1.alloc (.cells #[r] t)).ownsRow w.heap.size 49 4 r (s.len i) (opCells (s.ops i)) := h1.alloc _
      refine own_eq (own_baseK h1' hB) fun b hb => k2.block b (own_lt h1' hb).2.1 fun z => ?_
      have a1 := (own_lt h1' hb).1
      have a2 := (own_lt C.o7 z).2.1
      omega
    · rw [if_neg e]
      exact up (C.r i (by omega)) (by decide)
  · have old : ∀ i b, i < j + 1 → i ≠ j → (rows i).ownBlock = some b → b < w.heap.size := fun i b hi hne hb => (own_lt (C.r i (by omega)) hb).2.1
    have new : ∀ b, r.ownBlock = some b → w.heap.size ≤ b := fun b hb => (own_lt h1 hb).1
    replace hbi : (if i = j then r else rows i).ownBlock = some b := hbi
    replace hbk : (if k = j then r else rows k).ownBlock = some b := hbk
    by_cases e : i = j <;> by_cases e' : k = j
    · omega
    · rw [if_pos e] at hbi
      rw [if_neg e'] at hbk
      have := old k b hk e' hbk
      have := new b hbi
      omega
    · rw [if_neg e] at hbi
      rw [if_pos e'] at hbk
      have := old i b hi e hbi
      have := new b hbk
      omega
    · rw [if_neg e] at hbi
      rw [if_neg e'] at hbk
      exact C.ne i k b (by omega) (by omega) hbi hbk
theorem Copies.kept {B : Nat} {s : Scr} {v5 v6 v : Value} {rows : Nat → Value} {j : Nat} {w w1 : World} (C : Copies B s v5 v6 v rows j w) (k : Kept (fun _ => False) w w1) : Copies B s v5 v6 v rows j w1 :=
  ⟨own_kept C.o5 k (fun _ _ z => z), own_kept C.o6 k (fun _ _ z => z), own_kept C.o7 k (fun _ _ z => z), fun i hi => own_kept (C.r i hi) k (fun _ _ z => z), C.ne⟩
end Go.Proofs.Yteainbnoemkfcaa
namespace Go.Proofs.Yteainbnoemkfcaa
open Go.RowKit Go.Turn Go.Tame Go.Conc
section
variable {W : World} {s o : Scr}
set_option maxHeartbeats 4000000 in
set_option maxRecDepth 100000 in
theorem keeps_begin (hsA : s.At W W) (hoA : o.At W W)
    (next : ∀ (tm : Array Value) (w : World) (v5 v6 v7 : Value) (rows : Nat → Value) (b2 b3 : Nat), tm.size = 301 → tm[2]? = some (.pointer (some ⟨b2, 0, none⟩)) → tm[3]? = some (.pointer (some ⟨b3, 0, none⟩)) → tm[5]? = some v5 → tm[6]? = some v6 → tm[7]? = some v7 → Copies W.heap.size s v5 v6 v7 rows s.nt w → KpB W s o b2 b3 w → KpT W 6 tm w) :
    (lgA Try.tame (PostT (.bool true) W) W).T () (Frame.enter Try.prog 7 #[.agg s.vals, .agg o.vals] .normal) [] (seen0 W) := by
  have hs : ¬ (lgA Try.tame (PostT (.bool true) W) W).strict := fun h => h
  have hsz : (seen0 W).heap.size = W.heap.size := seen0_size W
  have hio : (seen0 W).os = W.os ∧ (seen0 W).output = W.output := seen0_io W
  have hs0 : s.At W (seen0 W) := hsA.keep fun b o v _ h => by rw [seen0_cell]; exact h
  have ho0 : o.At W (seen0 W) := hoA.keep fun b o v _ h => by rw [seen0_cell]; exact h
  clear hsA hoA
  generalize seen0 W = x at hsz hio hs0 ho0 ⊢
  rw [show Frame.enter Try.prog 7 #[.agg s.vals, .agg o.vals] .normal = Frame.at { (default : Frame) with fn := 7, kind := .normal } ⟨#[.agg s.vals, .agg o.vals] ++ Array.replicate (Try.f7.ntmps - 2) undef, []⟩ [.code (Try.f7.body.getD .skip)] from by simp [Frame.enter, Frame.at, Try.func7]; rfl]
  simp only [Try.f7, Option.getD_some, Nat.reduceSub, Array.replicate_succ, Array.replicate_zero, List.push_toArray, List.append_toArray, List.nil_append, List.cons_append]
  refine Lg.move _ (fun _ _ => step_seq) (fun h => h) ?_
  refine Lg.code fun K hK y τ n' hy => ?_
  subst hy
  have hs1 : s.At W y := hs0.keep fun _ _ _ _ h => h
  have ho1 : o.At W y := ho0.keep fun _ _ _ _ h => h
  have hsz : y.heap.size = W.heap.size := hsz
  have hio : y.os = W.os ∧ y.output = W.output := hio
  clear hs0 ho0
  have HS := Lib.hid hs1
  have HO := Lib.hid ho1
  have HZ := Lib.hid hsz
  have HI := Lib.hid hio
  clear hs1 ho1 hsz hio
  simp only [Scr.vals]
  go_wp2
  refine hK _ _ (fun h => absurd h hs) ?_
  clear hK K
  have hkb : KpB W s o y.heap.size (y.heap.size + 1) ((y.alloc (.cells s.vals 26)).alloc (.cells o.vals 26)) := by
    have k2 : Kept (fun _ => False) y ((y.alloc (.cells s.vals 26)).alloc (.cells o.vals 26)) := (Kept.alloc _ _).trans (Kept.alloc _ _)
    have hz := HZ.out
    have hc : ∀ b o' v, b < W.heap.size → y.cell? ⟨b, o', none⟩ = some v → ((y.alloc (.cells s.vals 26)).alloc (.cells o.vals 26)).cell? ⟨b, o', none⟩ = some v := fun b o' v hb h => (World.cell?_of_block (w := y) (a := ⟨b, o', none⟩) (k2.block b (by omega) id)).trans h
    refine ⟨(Blk.new y _ _).alloc _, ?_, HS.out.keep hc, HO.out.keep hc, by simp; omega, by omega, HI.out⟩
    have := Blk.new (y.alloc (.cells s.vals 26)) 26 o.vals
    rw [World.size_alloc] at this
    exact this
  have HK := Lib.hid hkb
  clear hkb HS HO HI
  simp only [Scr.vals] at HK
  generalize (y.alloc _).alloc _ = z at *
  obtain ⟨b2, hb2⟩ : ∃ b2, y.heap.size = b2 := ⟨_, rfl⟩
  obtain ⟨b3, hb3⟩ : ∃ b3, y.heap.size + 1 = b3 := ⟨_, rfl⟩
  rw [hb3, hb2] at HK ⊢
  clear hb2 hb3 HZ
  refine Lg.move _ (fun _ _ => step_seq) (fun h => h) ?_
  refine Lg.move _ (fun _ _ => step_seq) (fun h => h) ?_
  refine Lg.move _ (fun _ _ => step_region) (fun h => h) ?_
  refine Lg.call (i := 0) (rest := [1]) (f := 8) (args := #[]) rfl rfl (fun y => by go_simp) (fixed_true Try.tame (PostT (.bool true) W) W z HK.out.size) ?_
  rintro vv t' w1 ⟨rfl, hk⟩
  have HK1 := Lib.hid (HK.out.kpt hk)
  clear hk HK
  rw [Frame.finish_at]
  walk_nrm
  refine (show (lgA Try.tame (PostT (.bool true) W) W).T _ (Frame.at _ ⟨_, []⟩ (.inRegion _ (List.range' 1 (1 + 0)) :: _)) [] w1 from ?_)
  refine Lg.pre 1 1 0 (by simp) fun K hK q τ n' hq => ?_
  subst hq
  simp only [List.drop_succ_cons, List.drop_zero, List.take_succ_cons, List.take_zero]
  go_wp2
  refine hK _ _ (fun h => absurd h hs) ?_
  clear hK K
  have HK2 := Lib.hid HK1.out.re
  clear HK1
  refine Lg.move _ (fun _ _ => step_region_end) (fun h => h) ?_
  refine Lg.move _ (fun _ _ => step_cond (t := false) rfl) (fun h => h) ?_
  refine Lg.move _ (fun _ _ => step_skip) (fun h => h) ?_
  refine Lg.move _ (fun _ _ => step_seq) (fun h => h) ?_
  refine Lg.code fun K hK u τ n' hy => ?_
  subst hy
  have HK3 := Lib.hid HK2.out.re
  clear HK2
  have hst := ScrF.st HK3.out.s_
  obtain ⟨i0, hi0, hz0, hz1, hz2⟩ := info_parts Try.info64
  have hk4 : KpB W s o b2 b3 (u.alloc (.cells #[] 2)) := HK3.out.kept (Kept.alloc (S := fun _ => False) _ _) (fun _ z => z.elim)
  have c0 := hk4.cells.1.1
  have hw := HK3.out.size
  have HA := Lib.hid (World.ownsRow_lit (base := u.heap.size) (size := 1) (e := 2) u #[] 0 (Nat.le_refl _) (Nat.zero_le _) rfl)
  have HST := Lib.hid (hst.keep fun b o v hb hc => (World.cell?_of_block (w := u) (a := ⟨b, o, none⟩) (Below.heap_alloc _ _ b (Nat.lt_of_lt_of_le hb hw))).trans hc : NumF W (u.alloc (.cells #[] 2)) _ _ _)
  have hby := HST.out.by_
  have hlm : s.ss.length + 1 ≤ maxLen := by unfold reachBytes at hby; unfold maxLen; omega
  have HK4 := Lib.hid hk4
  have HBY := Lib.hid hby
  have HLM := Lib.hid hlm
  clear hk4 hst hby hlm
  go_wp2_with (at_builtin; refine wpList_app _ rfl _ _ 22 rfl u.heap.size 2 i0 (.int .i64 0) 1 8 Try.underlying22 hi0 hz0 hz1 hz2 rfl (by decide) _ _ _ rfl HA.out s.qA s.ss.length s.qc rfl HST.out.nil HST.out.le (s.ss.map (.int .i64)) (by simp) HST.out.app (ints_one _) (by have := HLM.out; omega) (by have := HBY.out; unfold reachBytes at this; omega) (by simp) ?_)
  intro v1 w1 h1 k1 p1 ob1 ne1
  have hk1 : Kept (fun _ => False) u w1 := (Kept.alloc _ _).later k1 fun b hb => (HA.out.lt b hb).1
  have HV1 := Lib.hid (And.intro h1 hk1)
  clear h1 k1 p1 ob1 ne1 hk1 HK4 HST c0 HA
  have hsz1 := HV1.out.2.size
  go_wp2_with (at_builtin; refine wpList_app _ rfl _ _ 22 rfl u.heap.size 2 i0 (.int .i64 0) 1 8 Try.underlying22 hi0 hz0 hz1 hz2 rfl (by decide) _ _ _ rfl (HV1.out.1.alloc _) (some ⟨w1.heap.size, 0, none⟩) 1 1 rfl (fun h => by cases h) (Nat.le_refl _) [.int .i64 77] (by simp) (cell_app1 _ _ _) (ints_one [77]) HLM.out (by have := HBY.out; unfold reachBytes at this; omega) (by simp; omega) ?_)
  intro v5 w5 h2 k2 p2 ob2 ne2
  have h2' : w5.ownsRow W.heap.size 2 1 v5 (s.ss.length + 1) ((s.ss ++ [77]).map (Value.int .i64)) := by rw [List.map_append]; exact own_baseK h2 hw
  have HK5 := Lib.hid (HK3.out.kept ((HV1.out.2.trans (Kept.alloc _ _)).later k2 fun b hb => (HV1.out.1.lt b hb).1) (fun _ z => z.elim))
  have H5 := Lib.hid h2'
  have HKK := Lib.hid ((HV1.out.2.trans (Kept.alloc _ _)).later k2 fun b hb => (HV1.out.1.lt b hb).1)
  clear h2 h2' k2 p2 ob2 ne2 HV1 hsz1 HBY HLM hi0 hz0 hz1 hz2 i0 hw HK3
  go_wp2
  refine hK _ _ (fun h => absurd h hs) ?_
  clear hK K
  refine Lg.move _ (fun _ _ => step_seq) (fun h => h) ?_
  refine Lg.code fun K hK u6 τ n' hy => ?_
  subst hy
  have HK6 := Lib.hid HK5.out.re
  have H5' : Hid (u6.ownsRow W.heap.size 2 1 v5 (s.ss.length + 1) ((s.ss ++ [77]).map (Value.int .i64))) := Lib.hid H5.out
  clear HK5 H5
  have hst := ScrF.sch HK6.out.s_
  obtain ⟨i0, hi0, hz0, hz1, hz2⟩ := info_parts Try.infoI
  have hk4 : KpB W s o b2 b3 (u6.alloc (.cells #[] 3)) := HK6.out.kept (Kept.alloc (S := fun _ => False) _ _) (fun _ z => z.elim)
  have c0 := hk4.cells.1.2.2.1
  have hw := HK6.out.size
  have HA := Lib.hid (World.ownsRow_lit (base := u6.heap.size) (size := 1) (e := 3) u6 #[] 0 (Nat.le_refl _) (Nat.zero_le _) rfl)
  have HST := Lib.hid (hst.keep fun b o v hb hc => (World.cell?_of_block (w := u6) (a := ⟨b, o, none⟩) (Below.heap_alloc _ _ b (Nat.lt_of_lt_of_le hb hw))).trans hc : NumF W (u6.alloc (.cells #[] 3)) _ _ _)
  have hby := HST.out.by_
  have hlm : s.xs.length + 1 ≤ maxLen := by unfold reachBytes at hby; unfold maxLen; omega
  have HK4 := Lib.hid hk4
  have HBY := Lib.hid hby
  have HLM := Lib.hid hlm
  clear hk4 hst hby hlm
  go_wp2_with (at_builtin; refine wpList_app _ rfl _ _ 24 rfl u6.heap.size 3 i0 (.int .i64 0) 1 8 Try.underlying24 hi0 hz0 hz1 hz2 rfl (by decide) _ _ _ rfl HA.out s.sA s.xs.length s.sc rfl HST.out.nil HST.out.le (s.xs.map (.int .i64)) (by simp) HST.out.app (ints_one _) (by have := HLM.out; omega) (by have := HBY.out; unfold reachBytes at this; omega) (by simp) ?_)
  intro v1 w1 h1 k1 p1 ob1 ne1
  have hk1 : Kept (fun _ => False) u6 w1 := (Kept.alloc _ _).later k1 fun b hb => (HA.out.lt b hb).1
  have HV1 := Lib.hid (And.intro h1 hk1)
  clear h1 k1 p1 ob1 ne1 hk1 HK4 HST c0 HA
  have hsz1 := HV1.out.2.size
  go_wp2_with (at_builtin; refine wpList_app _ rfl _ _ 24 rfl u6.heap.size 3 i0 (.int .i64 0) 1 8 Try.underlying24 hi0 hz0 hz1 hz2 rfl (by decide) _ _ _ rfl (HV1.out.1.alloc _) (some ⟨w1.heap.size, 0, none⟩) 1 1 rfl (fun h => by cases h) (Nat.le_refl _) [.int .i64 88] (by simp) (cell_app1 _ _ _) (ints_one [88]) HLM.out (by have := HBY.out; unfold reachBytes at this; omega) (by simp; omega) ?_)
  intro v6 w7 h2 k2 p2 ob2 ne2
  have h2' : w7.ownsRow W.heap.size 3 1 v6 (s.xs.length + 1) ((s.xs ++ [88]).map (Value.int .i64)) := by rw [List.map_append]; exact own_baseK h2 hw
  have HK7 := Lib.hid (HK6.out.kept ((HV1.out.2.trans (Kept.alloc _ _)).later k2 fun b hb => (HV1.out.1.lt b hb).1) (fun _ z => z.elim))
  have H6 := Lib.hid h2'
  have HKK := Lib.hid ((HV1.out.2.trans (Kept.alloc _ _)).later k2 fun b hb => (HV1.out.1.lt b hb).1)
  clear h2 h2' k2 p2 ob2 ne2 HV1 hsz1 HBY HLM hi0 hz0 hz1 hz2 i0 hw HK6
  have H57 : Hid (w7.ownsRow W.heap.size 2 1 v5 (s.ss.length + 1) ((s.ss ++ [77]).map (Value.int .i64))) := Lib.hid (own_kept H5'.out HKK.out (fun _ _ z => z))
  clear H5' HKK
  go_wp2
  refine hK _ _ (fun h => absurd h hs) ?_
  clear hK K
  refine Lg.move _ (fun _ _ => step_seq) (fun h => h) ?_
  refine Lg.code fun K hK u7 τ n' hy => ?_
  subst hy
  have HC : Hid (Copies W.heap.size s v5 v6 (.slice none 0 0) (fun _ => .nilIface) 0 u7) := Lib.hid ⟨H57.out, H6.out, World.ownsRow_nil _ _ _ _, fun i hi => by omega, fun i k b hi => by omega⟩
  have HK8 := Lib.hid HK7.out.re
  clear HK7 H6 H57
  go_wp2
  refine hK _ _ (fun h => absurd h hs) ?_
  clear hK K
  refine Lg.move _ (fun _ _ => step_seq) (fun h => h) ?_
  refine Lg.code fun K hK u8 τ n' hy => ?_
  have HC8 : Hid (Copies W.heap.size s v5 v6 (.slice none 0 0) (fun _ => .nilIface) 0 u8) := by subst hy; exact Lib.hid ⟨HC.out.o5, HC.out.o6, World.ownsRow_nil _ _ _ _, fun i hi => by omega, fun i k b hi => by omega⟩
  have HK9 : Hid (KpB W s o b2 b3 u8) := by subst hy; exact Lib.hid HK8.out.re
  clear HC HK8 hy
  obtain ⟨rows0, HC8⟩ : ∃ rows0, Hid (Copies W.heap.size s v5 v6 (.slice none 0 0) rows0 0 u8) := ⟨_, HC8⟩
  go_wp2
  go_loopw [7, 8] (fun v i wr => ∃ (j : Nat) (rows : Nat → Value), j ≤ s.nt ∧ i = .int .i64 j ∧ Copies W.heap.size s v5 v6 v rows j wr ∧ KpB W s o b2 b3 wr) (fun _ i _ => s.nt - (intOf i).toNat)
  case atStart => exact ⟨0, rows0, Nat.zero_le _, rfl, HC8.out, HK9.out⟩
  case round =>
    obtain ⟨j, rows, hj, rfl, hc, hk⟩ := hrel
    have hnt := ScrF.nmx hk.s_
    have hnby := ScrF.nby hk.s_
    unfold maxLen at hnt
    by_cases hlt : j < s.nt
    · have hta := ScrF.ta hk.s_ (by omega)
      have c1 := hk.cells.1.2.1
      rw [hta] at c1
      have hka : KpB W s o b2 b3 (wr.alloc (.cells #[] 49)) := hk.kept (Kept.alloc (S := fun _ => False) _ _) (fun _ z => z.elim)
      have d1 := hka.cells.1.2.1
      rw [hta] at d1
      have d2 := (ScrF.cell hka.s_ j hlt).2
      have HROW := Lib.hid (ScrF.row hka.s_ j hlt)
      have HA := Lib.hid (World.ownsRow_lit (base := wr.heap.size) (size := 4) (e := 49) wr #[] 0 (Nat.le_refl _) (Nat.zero_le _) rfl)
      have HW := Lib.hid hk.size
      have HCC := Lib.hid hc
      have HKK := Lib.hid hk
      have HN := Lib.hid hnby
      have HT := Lib.hid hta
      have hb1 := (ScrF.row hka.s_ j hlt).by_
      have hlm : s.len j ≤ maxLen := by have := (ScrF.row hka.s_ j hlt).le; have := (ScrF.row hka.s_ j hlt).max; omega
      have HB := Lib.hid (And.intro hb1 hlm)
      obtain ⟨i1, hi1, hz01, hz11, hz21⟩ := info_parts Try.infoOp
      obtain ⟨i2, hi2, hz02, hz12, hz22⟩ := info_parts Try.infoOpL
      clear hc hk hka hta hnby hb1 hlm
      go_wp2_with (at_builtin; refine wpList_app _ rfl _ _ 34 rfl wr.heap.size 49 i1 (.agg #[.int .i64 0, .int .i64 0, .int .i64 0, .int .i64 0]) 4 32 Try.underlying34 hi1 hz01 hz11 hz21 rfl (by decide) _ _ _ rfl HA.out (s.A j) (s.len j) (s.cap j) rfl HROW.out.nil HROW.out.le (opCells (s.ops j)) (by rw [opCells_len, HROW.out.olen]) HROW.out.app (opCells_one _) (by have := HB.out.2; omega) (by have := HB.out.1; unfold reachBytes at this; omega) (by simp) ?_)
      intro r w1 h1 k1 p1 ob1 ne1
      obtain ⟨rA, rc, rfl⟩ := own_slice h1
      have hk1 : Kept (fun _ => False) wr w1 := (Kept.alloc _ _).later k1 fun b hb => (HA.out.lt b hb).1
      have HV1 := Lib.hid (And.intro h1 hk1)
      clear h1 k1 p1 ob1 ne1 hk1 HA d1 d2 c1
      have hsz1 := HV1.out.2.size
      have hw := HW.out
      have HO7 : Hid ((w1.alloc (.cells #[.slice rA (s.len j) rc] 34)).ownsRow W.heap.size 34 1 u7 j ((List.range j).map rows)) := Lib.hid ((HCC.out.kept HV1.out.2).o7.alloc _)
      go_wp2_with (at_builtin; refine wpList_app _ rfl _ _ 23 rfl W.heap.size 34 i2 (.slice none 0 0) 1 24 Try.underlying23 hi2 hz02 hz12 hz22 rfl (by decide) _ _ _ rfl HO7.out (some ⟨w1.heap.size, 0, none⟩) 1 1 rfl (fun h => by cases h) (Nat.le_refl _) [.slice rA (s.len j) rc] (by simp) (cell_app1 _ _ _) (by simp [Value.oneCell']) (by unfold maxLen; omega) (by have := HN.out; unfold reachBytes at this; omega) (by simp; omega) ?_)
      intro v' w2 h2 k2 p2 ob2 ne2
      have hc2 := HCC.out.snoc hw HV1.out.2 HV1.out.1 h2 k2
      have hk2 : KpB W s o b2 b3 w2 := (HKK.out.kept (HV1.out.2.trans (Kept.alloc _ _)) (fun _ z => z.elim)).kept k2 fun b hb => by
        obtain ⟨z1, z2, c, z3⟩ := own_lt HO7.out hb
        have B2 := ((HKK.out.kept (HV1.out.2.trans (Kept.alloc _ (.cells #[.slice rA (s.len j) rc] 34))) (fun _ z => z.elim)).box2)
        have B3 := ((HKK.out.kept (HV1.out.2.trans (Kept.alloc _ (.cells #[.slice rA (s.len j) rc] 34))) (fun _ z => z.elim)).box3)
        refine ⟨z1, fun e => ?_, fun e => ?_⟩
        · subst e
          unfold Blk at z3 B2
          rw [z3] at B2
          simp at B2
        · subst e
          unfold Blk at z3 B3
          rw [z3] at B3
          simp at B3
      have HC2 := Lib.hid (And.intro hc2 hk2)
      clear h2 k2 p2 ob2 ne2 hc2 hk2 HO7 HV1 hsz1 HCC HKK HB HROW hi1 hz01 hz11 hz21 hi2 hz02 hz12 hz22
      go_wp2
      go_roundw
      case rel => exact ⟨j + 1, _, by omega, by go_num, HC2.out⟩
      case measure => simp [intOf]; omega
    · have ej : j = s.nt := by omega
      subst ej
      have c1 := hk.cells.1.2.1
      have HCC := Lib.hid hc
      have HKK := Lib.hid hk
      clear hc hk
      go_wp2
      refine hK _ _ (fun h => absurd h hs) ?_
      exact next _ _ v5 v6 u7 rows b2 b3 rfl rfl rfl rfl rfl rfl HCC.out HKK.out
end
end Go.Proofs.Yteainbnoemkfcaa
namespace Go.Proofs.Yteainbnoemkfcaa
open Go.RowKit Go.Turn Go.Tame Go.Conc
structure TrA (W w : World) (n : Nat) (R : Run RSt2) (rn : Nat) (Bs : Nat → Prop) (ab : Nat) (ov tv : Value) : Prop where
  ov_ : w.ownsRow W.heap.size 3 1 ov R.order.length (R.order.map (Value.int .i64))
  tv_ : w.ownsRow W.heap.size 2 1 tv (rn + rn) ((rowN R.m.s.1.1 rn ++ rowN R.m.s.1.2 rn).map (Value.int .i64))
  ans : ∃ H, AnsAll w ab n R.m.s.2 H ∧ (∀ b, H b → Bs b) ∧ ∀ b, tv.ownBlock = some b → ¬ H b
  bov : ∀ b, ov.ownBlock = some b → Bs b
  btv : ∀ b, tv.ownBlock = some b → Bs b
  near : ∀ b, Bs b → ∃ c t r, w.heap[b]? = some (.cells c t r) ∧ r.2 < big
theorem TrA.keep {W w w' : World} {n : Nat} {R : Run RSt2} {rn : Nat} {Bs : Nat → Prop} {ab : Nat} {ov tv : Value} (h : TrA W w n R rn Bs ab ov tv) (hk : ∀ b, Bs b → w'.heap[b]? = w.heap[b]?) : TrA W w' n R rn Bs ab ov tv := by
  obtain ⟨H, h1, h2, h3⟩ := h.ans
  exact ⟨own_eq h.ov_ fun b hb => hk b (h.bov b hb), own_eq h.tv_ fun b hb => hk b (h.btv b hb), ⟨H, h1.same fun b hb => hk b (h2 b hb), h2, h3⟩, h.bov, h.btv, fun b hb => by
    obtain ⟨c, t, r, k1, k2⟩ := h.near b hb
    exact ⟨c, t, r, (hk b hb).trans k1, k2⟩⟩
theorem TrA.kpt {W w w' : World} {n : Nat} {R : Run RSt2} {rn : Nat} {Bs : Nat → Prop} {ab : Nat} {ov tv : Value} (h : TrA W w n R rn Bs ab ov tv) (hk : Kpt W w w') : TrA W w' n R rn Bs ab ov tv :=
  h.keep fun b hb => by
    obtain ⟨c, t, r, k1, k2⟩ := h.near b hb
    exact (hk.near b c t r (.inr k2) k1).trans k1.symm
theorem TrA.lt {W w : World} {n : Nat} {R : Run RSt2} {rn : Nat} {Bs : Nat → Prop} {ab : Nat} {ov tv : Value} (h : TrA W w n R rn Bs ab ov tv) {b : Nat} (hb : Bs b) : b < w.heap.size := by
  obtain ⟨c, t, r, k1, _⟩ := h.near b hb
  exact lt_of_some k1
theorem TrA.trace {W w : World} {n : Nat} {R : Run RSt2} {rn : Nat} {Bs : Nat → Prop} {ab : Nat} {ov tv : Value} (h : TrA W w n R rn Bs ab ov tv) : TraceAt w n R.m.s.2 R.order (rowN R.m.s.1.1 rn ++ rowN R.m.s.1.2 rn) (some ⟨ab, 0, none⟩) n ov tv := by
  obtain ⟨H, h1, _⟩ := h.ans
  exact AnsAll.trace h1 h.ov_ h.tv_
def trV (ab n : Nat) (ov tv : Value) (R : Run RSt2) : Value := .agg #[.slice (some ⟨ab, 0, none⟩) n n, ov, tv, .bool (decide (0 < R.m.left n))]
def trC (ab n : Nat) (ov tv : Value) (R : Run RSt2) : Array Value := #[.slice (some ⟨ab, 0, none⟩) n n, ov, tv, .bool (decide (0 < R.m.left n))]
theorem PlayDone.tra {W w0 w' : World} {n : Nat} {R : Run RSt2} {rn : Nat} {v : Value} (h : PlayDone W rn R n w0 v w') (hW : W.heap.size ≤ w0.heap.size) :
    ∃ ab ov tv Bs, v = trV ab n ov tv R ∧ TrA W w' n R rn Bs ab ov tv ∧ (∀ (b : Nat) (c : Array Value) (t : TypeId) (r : Nat × Nat), (b < W.heap.size ∨ r.2 < big) → w0.heap[b]? = some (.cells c t r) → ¬ Bs b) ∧ Kpt W w0 w' := by
  obtain ⟨ab, ov, tv, H, h1, rfl, h3, h4, h5, h6, h7⟩ := h.ex
  refine ⟨ab, ov, tv, fun b => H b ∨ ov.ownBlock = some b ∨ tv.ownBlock = some b, rfl, ⟨own_baseK h3 hW, own_baseK h4 hW, ⟨H, h5, fun b hb => .inl hb, h7⟩, fun b hb => .inr (.inl hb), fun b hb => .inr (.inr hb), ?_⟩, ?_, ⟨h.size, h.near, h.io⟩⟩
  · rintro b (hb | hb | hb)
    · exact h5.near b hb
    · obtain ⟨k1, _, c, k3⟩ := own_lt h3 hb
      exact ⟨c, _, (0, 0), k3, by decide⟩
    · obtain ⟨k1, _, c, k3⟩ := own_lt h4 hb
      exact ⟨c, _, (0, 0), k3, by decide⟩
  · rintro b c t r hr hb (z | z | z)
    · exact h6 b c t r hr hb z
    · have := (own_lt h3 z).1
      have := lt_of_some hb
      omega
    · have := (own_lt h4 z).1
      have := lt_of_some hb
      omega
def slA : Value → Option Addr
  | .slice a _ _ => a
  | _ => none
def slC : Value → Nat
  | .slice _ _ c => c
  | _ => 0
theorem own_parts {w : World} {b n size : Nat} {e : TypeId} {v : Value} {xs : List Value} (h : w.ownsRow b e size v n xs) : v = .slice (slA v) n (slC v) ∧ n ≤ slC v ∧ slC v ≤ maxLen ∧ (slA v = none → slC v = 0) ∧ (0 < n → ∃ g, slA v = some ⟨g, 0, none⟩) ∧ ∀ g o, slA v = some ⟨g, o, none⟩ → o = 0 ∧ v.ownBlock = some g ∧ ∃ cur, w.heap[g]? = some (.cells cur e (0, 0)) ∧ cur.toList.take (n * size) = xs := by
  rcases h.2 with ⟨rfl, rfl⟩ | ⟨g, cap, cur, rfl, _, hg, h1, h2, _, h4⟩
  · exact ⟨rfl, Nat.le_refl _, Nat.zero_le _, fun _ => rfl, fun z => by omega, fun g o z => by cases z⟩
  · exact ⟨rfl, h1, h2, fun z => (by cases z), fun _ => ⟨g, rfl⟩, fun g' o z => by
      simp only [slA, Option.some.injEq, Addr.mk.injEq, and_true] at z
      obtain ⟨rfl, rfl⟩ := z
      exact ⟨rfl, rfl, cur, hg, h4⟩⟩
theorem own_cell {w : World} {b n size g c : Nat} {e : TypeId} {xs : List Value} (h : w.ownsRow b e size (.slice (some ⟨g, 0, none⟩) n c) n xs) {j : Nat} {u : Value} (hu : xs[j]? = some u) : w.cell? ⟨g, j, none⟩ = some u := by
  have hj : j < n * size := by
    have h1 := h.1
    rcases Nat.lt_or_ge j xs.length with hlt | hge
    · omega
    · rw [List.getElem?_eq_none hge] at hu; cases hu
  exact (h.cellAt j hj).trans hu
theorem ints_get {xs : List Int} {x : Int} {i : Nat} (h : i < xs.length) : ((xs ++ [x]).map (Value.int .i64))[i]? = some (.int .i64 (xs.getD i 0)) := by
  rw [List.getElem?_map, List.getElem?_append_left h, List.getElem?_eq_getElem h, List.getD_eq_getElem?_getD, List.getElem?_eq_getElem h]
  rfl
theorem Copies.play {W w : World} {s : Scr} {g5 c5 g6 c6 c7 : Nat} {A7 : Option Addr} {rows : Nat → Value} (hP : Prog Try.prog) (Post : Value → World → Prop)
    (C : Copies W.heap.size s (.slice (some ⟨g5, 0, none⟩) (s.ss.length + 1) c5) (.slice (some ⟨g6, 0, none⟩) (s.xs.length + 1) c6) (.slice A7 s.nt c7) rows s.nt w) (h : s.At W w) (hW : W.heap.size ≤ w.heap.size) :
    Ccalls (lgA hP Post W) 10 #[.slice (some ⟨g5, 0, none⟩) s.ss.length c5, .slice A7 s.nt c7, .slice (some ⟨g6, 0, none⟩) s.xs.length c6, .int .i64 s.most] () w fun v _ w' => PlayDone W (rnOf s.ss) s.run (min s.nt 64) w v w' := by
  obtain ⟨-, l5, m5, -⟩ := own_parts C.o5
  obtain ⟨-, l6, m6, -, -, q6⟩ := own_parts C.o6
  obtain ⟨-, l7, m7, n7, z7, q7⟩ := own_parts C.o7
  simp only [slC, slA] at l5 m5 l6 m6 l7 m7 n7 z7 q7 q6
  have hst : NumsIn w (some ⟨g5, 0, none⟩) c5 s.ss := ⟨by omega, m5, fun i hi => ⟨g5, 0, rfl, by rw [Nat.zero_add]; exact own_cell C.o5 (ints_get hi)⟩⟩
  obtain ⟨g7, hg7⟩ : ∃ g7, 0 < s.nt → A7 = some ⟨g7, 0, none⟩ := by
    by_cases h0 : 0 < s.nt
    · obtain ⟨g, hg⟩ := z7 h0
      exact ⟨g, fun _ => hg⟩
    · exact ⟨0, fun z => absurd z h0⟩
  have hrows : RowsAt w g7 0 (min s.nt 64) (fun i => slA (rows i)) s.len (fun i => slC (rows i)) := by
    refine ⟨fun i hi => ?_, fun i hi => (own_parts (C.r i (by omega))).2.1, fun i hi => (own_parts (C.r i (by omega))).2.2.1, fun i hi => (own_parts (C.r i (by omega))).2.2.2.1⟩
    have h7 := C.o7
    rw [hg7 (by omega)] at h7
    rw [Nat.zero_add, ← (own_parts (C.r i (by omega))).1]
    exact own_cell h7 (by rw [List.getElem?_map, List.getElem?_range (by omega)]; rfl)
  have hin : OpsCells W GI w (min s.nt 64) (fun i => slA (rows i)) s.len s.opq := by
    refine ⟨h.opc.len, h.opc.good, fun i hi j hj => ?_⟩
    have hlen : (s.opq i).length ≤ s.len i := by rw [h.opc.len i hi]; omega
    obtain ⟨-, -, -, -, p5, p6⟩ := own_parts (C.r i (by omega))
    obtain ⟨g, hg⟩ := p5 (by omega)
    obtain ⟨-, -, cur, h1, h2⟩ := p6 g 0 hg
    refine ⟨g, 0, cur, _, (0, 0), hg, h1, .inl (by decide), fun m hm => ?_⟩
    have ho : (s.ops i)[j]? = some (s.opq i)[j] := opq_get (List.getElem?_eq_getElem hj)
    have := opCells_get (s.ops i) j m hm
    rw [ho, Option.bind_some] at this
    rw [← this, ← h2, List.getElem?_take, if_pos (by omega), Nat.zero_add, Array.getElem?_toList]
  have hsch : SchI W (.slice (some ⟨g6, 0, none⟩) s.xs.length c6) s.xs (fun b => ∃ i o, i < min s.nt 64 ∧ slA (rows i) = some ⟨b, o, none⟩) w := by
    obtain ⟨-, -, cur, k1, k2⟩ := q6 g6 0 rfl
    refine ⟨⟨_, _, rfl, fun i hi => ⟨g6, 0, cur, _, (0, 0), rfl, k1, .inr ⟨by decide, ?_⟩, ?_⟩⟩, by omega⟩
    · rintro ⟨i', o, hi', e⟩
      obtain ⟨-, -, -, -, -, p6⟩ := own_parts (C.r i' (by omega))
      exact own_ne C.o6 (C.r i' (by omega)) (by decide) rfl (p6 _ _ e).2.1
    · have := ints_get (x := 88) hi
      rw [← k2, List.getElem?_take] at this
      split at this
      · rw [Nat.zero_add, ← Array.getElem?_toList]; exact this
      · cases this
  exact play_any hP Post W s.ss (some ⟨g5, 0, none⟩) c5 (fun x hx => ((ScrF.st h).r64 x hx).1) h.slen A7 g7 0 s.nt c7 hg7 (ScrF.nmx h) _ s.len _ s.opq _ s.xs s.most w hW hst hrows hin hsch
structure KptX (W : World) (Sa : Nat → Prop) (w w' : World) : Prop where
  size : w.heap.size ≤ w'.heap.size
  near : ∀ (b : Nat) (c : Array Value) (t : TypeId) (r : Nat × Nat), ¬ Sa b → (b < W.heap.size ∨ r.2 < big) → w.heap[b]? = some (.cells c t r) → w'.heap[b]? = some (.cells c t r)
  io : w'.os = w.os ∧ w'.output = w.output
section
variable {W w w' w'' : World} {Sa : Nat → Prop}
theorem KptX.refl (W : World) (Sa : Nat → Prop) (w : World) : KptX W Sa w w := ⟨Nat.le_refl _, fun _ _ _ _ _ _ h => h, rfl, rfl⟩
theorem KptX.trans (h : KptX W Sa w w') (k : KptX W Sa w' w'') : KptX W Sa w w'' := ⟨Nat.le_trans h.size k.size, fun b c t r hs hr hb => k.near b c t r hs hr (h.near b c t r hs hr hb), k.io.1.trans h.io.1, k.io.2.trans h.io.2⟩
theorem Kpt.x (h : Kpt W w w') : KptX W Sa w w' := ⟨h.size, fun b c t r _ => h.near b c t r, h.io⟩
theorem Kept.x (h : Kept Sa w w') : KptX W Sa w w' := ⟨h.size, fun b c t r hs _ hb => (h.block b (lt_of_some hb) hs).trans hb, h.os, h.output⟩
theorem KptX.re {y : World} {τ : Nat → Question → Nat} {n : Nat} (h : KptX W Sa (y.re τ n) w') : KptX W Sa y w' := ⟨h.size, h.near, h.io⟩
theorem KptX.own (h : KptX W Sa w w') {b0 : Nat} {e : TypeId} {size n : Nat} {v : Value} {xs : List Value} (ho : w.ownsRow b0 e size v n xs) (hs : ∀ b, v.ownBlock = some b → ¬ Sa b) : w'.ownsRow b0 e size v n xs :=
  own_eq ho fun b hb => by
    obtain ⟨-, -, c, hc⟩ := own_lt ho hb
    exact (h.near b c e (0, 0) (hs b hb) (.inr (by decide)) hc).trans (Eq.symm hc)
theorem KptX.blk (h : KptX W Sa w w') {b : Nat} {t : TypeId} {c : Array Value} (hb : Blk w b t c) (hs : ¬ Sa b) : Blk w' b t c := h.near b c t (0, 0) hs (.inr (by decide)) hb
end
def SaOf (nt : Nat) (rows : Nat → Value) (Ba : Nat → Prop) (b : Nat) : Prop := Ba b ∨ ∃ i, i < nt ∧ (rows i).ownBlock = some b
structure Kp0 (W : World) (s o : Scr) (v5 v6 v7 : Value) (b2 b3 : Nat) (w : World) : Prop where
  kb : KpB W s o b2 b3 w
  o5 : w.ownsRow W.heap.size 2 1 v5 (s.ss.length + 1) ((s.ss ++ [77]).map (Value.int .i64))
  o6 : w.ownsRow W.heap.size 3 1 v6 (s.xs.length + 1) ((s.xs ++ [88]).map (Value.int .i64))
structure Mid1 (W : World) (s o : Scr) (v5 v6 v7 : Value) (rows : Nat → Value) (b2 b3 b9 : Nat) (Ba : Nat → Prop) (ab : Nat) (ov tv : Value) (w : World) : Prop where
  kb : ∀ w', KptX W (SaOf s.nt rows Ba) w w' → Kp0 W s o v5 v6 v7 b2 b3 w' ∧ w'.ownsRow W.heap.size 34 1 v7 s.nt ((List.range s.nt).map rows) ∧ Blk w' b9 31 (trC ab (min s.nt 64) ov tv s.run)
  cp : Copies W.heap.size s v5 v6 v7 rows s.nt w
  ta : TrA W w (min s.nt 64) s.run (rnOf s.ss) Ba ab ov tv
  sr : ∀ b i, i < s.nt → (rows i).ownBlock = some b → ¬ Ba b
structure Mid2 (W : World) (s o : Scr) (v5 v6 v7 : Value) (rows : Nat → Value) (b2 b3 b9 b10 : Nat) (Ba Bb : Nat → Prop) (ab ab' : Nat) (ov tv ov' tv' : Value) (w : World) : Prop where
  kb : ∀ w', KptX W (SaOf s.nt rows Ba) w w' → Kp0 W s o v5 v6 v7 b2 b3 w' ∧ w'.ownsRow W.heap.size 34 1 v7 s.nt ((List.range s.nt).map rows) ∧ Blk w' b9 31 (trC ab (min s.nt 64) ov tv s.run) ∧
    Blk w' b10 31 (trC ab' (min s.nt 64) ov' tv' s.run) ∧ TrA W w' (min s.nt 64) s.run (rnOf s.ss) Bb ab' ov' tv'
  cp : Copies W.heap.size s v5 v6 v7 rows s.nt w
  ta : TrA W w (min s.nt 64) s.run (rnOf s.ss) Ba ab ov tv
  sr : ∀ b i, i < s.nt → (rows i).ownBlock = some b → ¬ Ba b
section
variable {W w w1 w2 : World} {s o : Scr} {v5 v6 v7 : Value} {rows : Nat → Value} {b2 b3 b9 b10 : Nat} {Ba Bb : Nat → Prop} {ab ab' : Nat} {ov tv ov' tv' : Value}
theorem Copies.kpt {j : Nat} (C : Copies W.heap.size s v5 v6 v7 rows j w) (k : Kpt W w w1) : Copies W.heap.size s v5 v6 v7 rows j w1 :=
  ⟨(Kpt.x (Sa := fun _ => False) k).own C.o5 fun _ _ z => z, (Kpt.x (Sa := fun _ => False) k).own C.o6 fun _ _ z => z, (Kpt.x (Sa := fun _ => False) k).own C.o7 fun _ _ z => z, fun i hi => (Kpt.x (Sa := fun _ => False) k).own (C.r i hi) fun _ _ z => z, C.ne⟩
theorem Copies.re {j : Nat} {y : World} {τ : Nat → Question → Nat} {n : Nat} (C : Copies W.heap.size s v5 v6 v7 rows j (y.re τ n)) : Copies W.heap.size s v5 v6 v7 rows j y := ⟨C.o5, C.o6, C.o7, C.r, C.ne⟩
theorem TrA.re {y : World} {n : Nat} {R : Run RSt2} {rn : Nat} {τ : Nat → Question → Nat} {k : Nat} (h : TrA W (y.re τ k) n R rn Bb ab ov tv) : TrA W y n R rn Bb ab ov tv := h.keep fun _ _ => rfl
theorem mid1_of (hk : KpB W s o b2 b3 w) (C : Copies W.heap.size s v5 v6 v7 rows s.nt w) (k : Kpt W w w1) (h9 : ∀ b, b = b9 → ¬ Ba b) (g9 : Blk w1 b9 31 (trC ab (min s.nt 64) ov tv s.run)) (ta : TrA W w1 (min s.nt 64) s.run (rnOf s.ss) Ba ab ov tv)
    (av : ∀ (b : Nat) (c : Array Value) (t : TypeId) (r : Nat × Nat), (b < W.heap.size ∨ r.2 < big) → w.heap[b]? = some (.cells c t r) → ¬ Ba b) : Mid1 W s o v5 v6 v7 rows b2 b3 b9 Ba ab ov tv w1 := by
  have hown : ∀ {b0 : Nat} {e : TypeId} {size n : Nat} {v : Value} {xs : List Value}, w.ownsRow b0 e size v n xs → ∀ b, v.ownBlock = some b → ¬ Ba b := fun h b hb => by
    obtain ⟨-, -, c, hc⟩ := own_lt h hb
    exact av b c _ (0, 0) (.inr (by decide)) hc
  have C1 := C.kpt k
  have hrow : ∀ {b0 : Nat} {e : TypeId} {size n : Nat} {v : Value} {xs : List Value}, w.ownsRow b0 e size v n xs → e ≠ 49 → ∀ b, v.ownBlock = some b → ¬ SaOf s.nt rows Ba b := fun h he b hb z => by
    rcases z with z | ⟨i, hi, z⟩
    · exact hown h b hb z
    · exact own_ne h (C.r i hi) he hb z
  have hblk : ∀ {x : World} {b : Nat} {c : Array Value} {t : TypeId}, Blk x b t c → (∀ i, i < s.nt → x.ownsRow W.heap.size 49 4 (rows i) (s.len i) (opCells (s.ops i))) → t ≠ 49 → ∀ i, i < s.nt → (rows i).ownBlock = some b → False := fun {x b c t} hb hr ht i hi z => by
    obtain ⟨-, -, c', hc'⟩ := own_lt (hr i hi) z
    unfold Blk at hb hc'
    rw [hb] at hc'
    simp only [Option.some.injEq, Obj.cells.injEq] at hc'
    exact ht hc'.2.1
  refine ⟨fun w' x => ?_, C1, ta, fun b i hi hb => hown (C.r i hi) b hb⟩
  refine ⟨⟨hk.same (Nat.le_trans k.size x.size) ⟨x.io.1.trans k.io.1, x.io.2.trans k.io.2⟩ fun b c t r h1 h2 h3 => ?_, x.own C1.o5 (hrow C.o5 (by decide)), x.own C1.o6 (hrow C.o6 (by decide))⟩, x.own C1.o7 (hrow C.o7 (by decide)), x.blk g9 fun z => ?_⟩
  · refine x.near b c t r (fun z => ?_) h2 (k.near b c t r h2 h3)
    rcases z with z | ⟨i, hi, z⟩
    · exact av b c t r h2 h3 z
    · rcases h1 with h1 | rfl | rfl
      · have := (own_lt (C.r i hi) z).1
        omega
      · exact hblk hk.box2 C.r (by decide) i hi z
      · exact hblk hk.box3 C.r (by decide) i hi z
  · rcases z with z | ⟨i, hi, z⟩
    · exact h9 b9 rfl z
    · exact hblk g9 C1.r (by decide) i hi z
theorem mid2_of (M : Mid1 W s o v5 v6 v7 rows b2 b3 b9 Ba ab ov tv w) (k : Kpt W w w1) (k2 : Kept (fun _ => False) w1 w2) (h10 : w1.heap.size ≤ b10) (g10 : Blk w2 b10 31 (trC ab' (min s.nt 64) ov' tv' s.run)) (tb : TrA W w1 (min s.nt 64) s.run (rnOf s.ss) Bb ab' ov' tv')
    (av : ∀ (b : Nat) (c : Array Value) (t : TypeId) (r : Nat × Nat), (b < W.heap.size ∨ r.2 < big) → w.heap[b]? = some (.cells c t r) → ¬ Bb b) : Mid2 W s o v5 v6 v7 rows b2 b3 b9 b10 Ba Bb ab ab' ov tv ov' tv' w2 := by
  have k3 : Kpt W w w2 := k.trans ⟨k2.size, fun b c t r _ hb => (k2.block b (lt_of_some hb) id).trans hb, k2.os, k2.output⟩
  have tb2 : TrA W w2 (min s.nt 64) s.run (rnOf s.ss) Bb ab' ov' tv' := tb.keep fun b hb => k2.block b (tb.lt hb) id
  have hsa : ∀ b, SaOf s.nt rows Ba b → ∃ c t r, w.heap[b]? = some (.cells c t r) ∧ r.2 < big := fun b hb => by
    rcases hb with hb | ⟨i, hi, hb⟩
    · exact M.ta.near b hb
    · obtain ⟨-, -, c, hc⟩ := own_lt (M.cp.r i hi) hb
      exact ⟨c, _, (0, 0), hc, by decide⟩
  refine ⟨fun w' x => ?_, M.cp.kpt k3, M.ta.kpt k3, M.sr⟩
  obtain ⟨q1, q2, q3⟩ := M.kb w' ((Kpt.x k3).trans x)
  refine ⟨q1, q2, q3, x.blk g10 fun z => ?_, tb2.keep fun b hb => ?_⟩
  · obtain ⟨c, t, r, e, _⟩ := hsa _ z
    have := lt_of_some e
    have := k.size
    omega
  · obtain ⟨c, t, r, e1, e2⟩ := tb2.near b hb
    refine (x.near b c t r (fun z => ?_) (.inr e2) e1).trans e1.symm
    obtain ⟨c', t', r', e3, e4⟩ := hsa _ z
    exact av b c' t' r' (.inr e4) e3 hb
end
structure KeptN (S : Nat → Prop) (w w' : World) : Prop where
  size : w.heap.size ≤ w'.heap.size
  block : ∀ b, b < w.heap.size → ¬ S b → w'.heap[b]? = w.heap[b]?
  io : w'.os = w.os ∧ w'.output = w.output
theorem KeptN.refl (S : Nat → Prop) (w : World) : KeptN S w w := ⟨Nat.le_refl _, fun _ _ _ => rfl, rfl, rfl⟩
theorem KeptN.trans {S : Nat → Prop} {a b c : World} (h : KeptN S a b) (k : KeptN S b c) : KeptN S a c := ⟨Nat.le_trans h.size k.size, fun i hi hs => (k.block i (Nat.lt_of_lt_of_le hi h.size) hs).trans (h.block i hi hs), k.io.1.trans h.io.1, k.io.2.trans h.io.2⟩
theorem KeptN.mono {S S' : Nat → Prop} {a b : World} (h : KeptN S a b) (hs : ∀ i, S i → S' i) : KeptN S' a b := ⟨h.size, fun i hi z => h.block i hi fun y => z (hs i y), h.io⟩
theorem Kept.n {S : Nat → Prop} {a b : World} (h : Kept S a b) : KeptN S a b := ⟨h.size, h.block, h.os, h.output⟩
theorem KeptN.x {W : World} {S : Nat → Prop} {a b : World} (h : KeptN S a b) : KptX W S a b := ⟨h.size, fun b c t r hs _ hb => (h.block b (lt_of_some hb) hs).trans hb, h.io⟩
theorem KeptN.re {S : Nat → Prop} {y b : World} {τ : Nat → Question → Nat} {n : Nat} (h : KeptN S (y.re τ n) b) : KeptN S y b := ⟨h.size, h.block, h.io⟩
theorem KeptN.er {S : Nat → Prop} {y b : World} {τ : Nat → Question → Nat} {n : Nat} (h : KeptN S y b) : KeptN S (y.re τ n) b := ⟨h.size, h.block, h.io⟩
theorem Mid2.re {W : World} {s o : Scr} {v5 v6 v7 : Value} {rows : Nat → Value} {b2 b3 b9 b10 : Nat} {Ba Bb : Nat → Prop} {ab ab' : Nat} {ov tv ov' tv' : Value} {y : World} {τ : Nat → Question → Nat} {n : Nat} (M : Mid2 W s o v5 v6 v7 rows b2 b3 b9 b10 Ba Bb ab ab' ov tv ov' tv' (y.re τ n)) : Mid2 W s o v5 v6 v7 rows b2 b3 b9 b10 Ba Bb ab ab' ov tv ov' tv' y :=
  ⟨fun w' x => M.kb w' ⟨x.size, x.near, x.io⟩, M.cp.re, M.ta.re, M.sr⟩
end Go.Proofs.Yteainbnoemkfcaa
namespace Go.Proofs.Yteainbnoemkfcaa
open Go.RowKit Go.Turn Go.Tame Go.Conc
section
variable {W w : World} {s o : Scr} {v5 v6 v7 : Value} {rows : Nat → Value} {b2 b3 : Nat}
theorem anyrd {P : Program} {κ : Type} {L : Lg P κ} {md : Region.Mode} {os : Array Oper} {S : World → Prop} {Q : κ → Act → World → Prop} {listed : Array Bool} {t : κ} {a : Act} {w : World} (i fuel : Nat) (d : Tmp)
    (h : ∃ oi, os[i]? = some oi ∧ oi.dst = some d ∧ (∀ y τ n, S (World.re y τ n) → S y) ∧ (∀ t a y τ n, Q t a (World.re y τ n) → Q t a y) ∧ Region.noSelect os = true ∧ Region.free md os listed i = true ∧ (Region.ready md os listed).contains i = true ∧ Region.wanted oi (yielded os a.tmps) = true ∧ S w ∧
      ∃ v, (∀ wq, S wq → (execOp a.eval oi).run P wq = .ok (.value v) wq) ∧ AnyT L md os S Q fuel (listed.setIfInBounds i true) t (a.put (some d) v) w) : AnyT L md os S Q (fuel + 1) listed t a w := by
  obtain ⟨oi, h1, h2, h3, h4, h5, h6, h7, h8, h9, v, h10, h11⟩ := h
  rw [← h2] at h11
  exact AnyT.take h1 h3 h4 h5 h6 h7 (.inl ⟨h8, h10⟩) h9 h11
theorem box4 {q : World} {b9 : Nat} {t : TypeId} {x0 x1 x2 x3 : Value} (a b c d : Value) (h : Blk q b9 t #[x0, x1, x2, x3]) : Kept (fun k => k = b9) q ((((q.setCell ⟨b9, 0, none⟩ a).setCell ⟨b9, 1, none⟩ b).setCell ⟨b9, 2, none⟩ c).setCell ⟨b9, 3, none⟩ d) ∧ Blk ((((q.setCell ⟨b9, 0, none⟩ a).setCell ⟨b9, 1, none⟩ b).setCell ⟨b9, 2, none⟩ c).setCell ⟨b9, 3, none⟩ d) b9 t #[a, b, c, d] := by
  refine ⟨(((Kept.setCell _ (by rfl) _).trans (Kept.setCell _ (by rfl) _)).trans (Kept.setCell _ (by rfl) _)).trans (Kept.setCell _ (by rfl) _), ?_⟩
  have := (((h.set_ 0 a).set_ 1 b).set_ 2 c).set_ 3 d
  simpa using this
theorem kpt_box {y q w4 : World} {b9 : Nat} (h : Kpt W y q) (k : Kept (fun b => b = b9) q w4) (h9 : y.heap.size ≤ b9) : Kpt W y w4 :=
  ⟨Nat.le_trans h.size k.size, fun b c t r hr hb => (k.block b (lt_of_some (h.near b c t r hr hb)) (fun e => by have := lt_of_some hb; omega)).trans (h.near b c t r hr hb), k.os.trans h.io.1, k.output.trans h.io.2⟩
theorem kpt_kept {y q : World} (k : Kept (fun _ => False) y q) : Kpt W y q := ⟨k.size, fun b c t r _ hb => (k.block b (lt_of_some hb) id).trans hb, k.os, k.output⟩
set_option maxHeartbeats 4000000 in
set_option maxRecDepth 100000 in
theorem keeps_6 (tm : Array Value) (hsz : tm.size = 301) (h2 : tm[2]? = some (.pointer (some ⟨b2, 0, none⟩))) (h3 : tm[3]? = some (.pointer (some ⟨b3, 0, none⟩))) (h5 : tm[5]? = some v5) (h6 : tm[6]? = some v6) (h7 : tm[7]? = some v7) (C : Copies W.heap.size s v5 v6 v7 rows s.nt w) (K0 : KpB W s o b2 b3 w)
    (next : ∀ (tm : Array Value) (w : World) (b9 : Nat) (Ba : Nat → Prop) (ab : Nat) (ov tv : Value), tm.size = 301 → tm[2]? = some (.pointer (some ⟨b2, 0, none⟩)) → tm[3]? = some (.pointer (some ⟨b3, 0, none⟩)) → tm[5]? = some v5 → tm[6]? = some v6 → tm[7]? = some v7 → tm[9]? = some (.pointer (some ⟨b9, 0, none⟩)) → Mid1 W s o v5 v6 v7 rows b2 b3 b9 Ba ab ov tv w → KpT W 7 tm w) : KpT W 6 tm w := by
  have hs : ¬ (lgA Try.tame (PostT (.bool true) W) W).strict := fun h => h
  obtain ⟨f, rfl⟩ := lit301 tm hsz
  have h2 : f 2 = .pointer (some ⟨b2, 0, none⟩) := by simpa using h2
  have h3 : f 3 = .pointer (some ⟨b3, 0, none⟩) := by simpa using h3
  have h5 : f 5 = v5 := by simpa using h5
  have h6 : f 6 = v6 := by simpa using h6
  have h7 : f 7 = v7 := by simpa using h7
  rw [h2, h3, h5, h6, h7]
  clear h2 h3 h5 h6 h7 hsz
  obtain ⟨e5, l5, m5, -, z5, -⟩ := own_parts C.o5
  obtain ⟨e6, l6, m6, -, z6, -⟩ := own_parts C.o6
  obtain ⟨e7, -⟩ := own_parts C.o7
  obtain ⟨g5, y5⟩ := z5 (by omega)
  obtain ⟨g6, y6⟩ := z6 (by omega)
  generalize slC v5 = c5 at *
  generalize slC v6 = c6 at *
  generalize slC v7 = c7 at *
  generalize slA v7 = A7 at *
  rw [y5] at e5
  rw [y6] at e6
  subst e5 e6 e7
  unfold KpT
  simp only [tailC, Try.f7, Option.getD_some]
  refine Lg.move _ (fun _ _ => step_seq) (fun h => h) ?_
  refine Lg.any hs (KpB W s o b2 b3) (by kernel_rfl) ?_
  simp only [List.size_toArray, List.length_cons, List.length_nil, Nat.reduceAdd]
  have HK := Lib.hid K0
  have HC := Lib.hid C
  have q5 : ((s.ss.length : Nat) : Int) ≤ (c5 : Int) := by omega
  have q6 : ((s.xs.length : Nat) : Int) ≤ (c6 : Int) := by omega
  have q5' : s.ss.length ≤ c5 := by omega
  have q6' : s.xs.length ≤ c6 := by omega
  clear C K0 y5 y6 z5 z6 l5 m5 l6 m6
  iterate 13
    first
    | refine anyrd 0 15 55 ?_
    | refine anyrd 1 14 56 ?_
    | refine anyrd 2 13 57 ?_
    | refine anyrd 3 12 58 ?_
    | refine anyrd 4 11 59 ?_
    | refine anyrd 5 10 60 ?_
    | refine anyrd 6 9 61 ?_
    | refine anyrd 7 8 62 ?_
    | refine anyrd 8 7 63 ?_
    | refine anyrd 9 6 64 ?_
    | refine anyrd 10 5 65 ?_
    | refine anyrd 11 4 66 ?_
    | refine anyrd 12 3 67 ?_
    refine ⟨_, rfl, rfl, (fun _ _ _ => KpB.re), (fun _ _ _ _ _ => (Lg.re_iff _).1), by kernel_rfl, by kernel_rfl, by kernel_rfl, rfl, HK.out, ?_⟩
    apply Exists.intro
    refine ⟨fun wq hw => ?_, ?_⟩
    · obtain ⟨⟨hw1, hw2, hw3, hw4⟩, -⟩ := hw.cells
      go_simp
      rfl
    simp only [Act.put, List.setIfInBounds_toArray, List.set_cons_zero, List.set_cons_succ]
  clear q5 q6 q5' q6'
  refine AnyT.all (rs := [13, 14]) (fuel := 2) (by kernel_rfl) (by simp) fun i hi => ?_
  simp only [List.mem_cons, List.not_mem_nil, or_false] at hi
  rcases hi with rfl | rfl
  · refine .inr ⟨_, 10, #[.slice (some ⟨g5, 0, none⟩) s.ss.length c5, .slice A7 s.nt c7, .slice (some ⟨g6, 0, none⟩) s.xs.length c6, .int .i64 s.most], rfl, rfl, fun y => by go_simp, (HC.out.play Try.tame (PostT (.bool true) W) HK.out.s_ HK.out.size).mono ?_⟩
    intro v t2 w2 hpd
    obtain ⟨ab, ov, tv, Bs, rfl, ta, av, k⟩ := hpd.tra HK.out.size
    have HK2 := Lib.hid (HK.out.kpt k)
    refine ⟨HK2.out, ?_⟩
    obtain ⟨oA, oc, rfl⟩ := own_slice ta.ov_
    obtain ⟨tA, tc, rfl⟩ := own_slice ta.tv_
    have HT := Lib.hid (And.intro ta (And.intro av k))
    clear hpd ta av k
    unfold trV
    simp only [Act.put, List.setIfInBounds_toArray, List.set_cons_zero, List.set_cons_succ]
    refine AnyT.one (i := 14) (fuel := 1) (by kernel_rfl) (.inl fun y τ n hy => wpOp_of rfl rfl ?_)
    subst hy
    have HK3 := Lib.hid HK2.out.re
    have hk3 : Kept (fun _ => False) y (y.alloc (.cells #[.slice none 0 0, .slice none 0 0, .slice none 0 0, .bool false] 31)) := Kept.alloc _ _
    have HK4 := Lib.hid (HK3.out.kept hk3 (fun _ z => z.elim))
    have HB := Lib.hid (Blk.new y 31 #[.slice none 0 0, .slice none 0 0, .slice none 0 0, .bool false])
    have HT2 : Hid (TrA W y _ _ _ _ _ _ _ ∧ _) := Lib.hid (And.intro HT.out.1.re (And.intro HT.out.2.1 HT.out.2.2.re))
    clear hk3 HT HK2
    unfold Oper.wp
    go_simp
    refine ⟨HK4.out, ?_⟩
    clear HK4
    generalize hz : y.alloc (.cells #[.slice none 0 0, .slice none 0 0, .slice none 0 0, .bool false] 31) = z at HB ⊢
    have HZ := Lib.hid hz
    clear hz
    obtain ⟨b9, hb9⟩ : ∃ b9, y.heap.size = b9 := ⟨_, rfl⟩
    rw [hb9] at HB ⊢
    have HB9 := Lib.hid hb9
    clear hb9
    refine AnyT.one (i := 15) (fuel := 0) (by kernel_rfl) (.inl fun q τ n hy => wpOp_of rfl rfl ?_)
    have HZ2 : Hid (y.alloc (.cells #[.slice none 0 0, .slice none 0 0, .slice none 0 0, .bool false] 31) = q.re τ n) := Lib.hid (HZ.out.trans hy)
    have HB2 : Hid (Blk q b9 31 #[.slice none 0 0, .slice none 0 0, .slice none 0 0, .bool false]) := by
      have := HB.out
      rw [hy] at this
      exact Lib.hid this
    clear HZ HB hy
    have c0 := HB2.out.cell 0
    have c1 := HB2.out.cell 1
    have c2 := HB2.out.cell 2
    have c3 := HB2.out.cell 3
    have z0 := HB2.out.frozen 0
    have z1 := HB2.out.frozen 1
    have z2 := HB2.out.frozen 2
    have z3 := HB2.out.frozen 3
    simp at c0 c1 c2 c3
    unfold Oper.wp
    go_simp
    have hset := box4 (.slice (some ⟨ab, 0, none⟩) (min s.nt 64) (min s.nt 64)) (.slice oA s.run.order.length oc) (.slice tA (rnOf s.ss + rnOf s.ss) tc) (.bool (decide (0 < s.run.m.left (min s.nt 64)))) HB2.out
    have hkq : Kpt W y q := Kpt.re (HZ2.out ▸ kpt_kept (Kept.alloc y _))
    have hk4 := kpt_box hkq hset.1 (Nat.le_of_eq HB9.out)
    have hm := mid1_of HK.out HC.out (HT2.out.2.2.trans hk4) (fun b e z => by have := HT2.out.1.lt z; have := HB9.out; omega) hset.2 (HT2.out.1.kpt hk4) HT2.out.2.1
    refine ⟨HK3.out.kpt hk4, ?_⟩
    refine AnyT.done (by kernel_rfl) ?_ _
    exact next _ _ b9 Bs ab _ _ rfl rfl rfl rfl rfl rfl rfl hm
  · refine .inl fun y τ n hy => wpOp_of rfl rfl ?_
    subst hy
    have HK3 := Lib.hid HK.out.re
    have HC3 := Lib.hid HC.out.re
    have hk3 : Kept (fun _ => False) y (y.alloc (.cells #[.slice none 0 0, .slice none 0 0, .slice none 0 0, .bool false] 31)) := Kept.alloc _ _
    have HK4 := Lib.hid (HK3.out.kept hk3 (fun _ z => z.elim))
    have HC4 := Lib.hid (HC3.out.kept hk3)
    have HB := Lib.hid (Blk.new y 31 #[.slice none 0 0, .slice none 0 0, .slice none 0 0, .bool false])
    clear hk3 HK HC
    unfold Oper.wp
    go_simp
    refine ⟨HK4.out, ?_⟩
    refine AnyT.one (i := 13) (fuel := 1) (by kernel_rfl) (.inr ⟨_, 10, #[.slice (some ⟨g5, 0, none⟩) s.ss.length c5, .slice A7 s.nt c7, .slice (some ⟨g6, 0, none⟩) s.xs.length c6, .int .i64 s.most], rfl, rfl, fun y => by go_simp, (HC4.out.play Try.tame (PostT (.bool true) W) HK4.out.s_ HK4.out.size).mono ?_⟩)
    intro v t2 w2 hpd
    obtain ⟨ab, ov, tv, Bs, rfl, ta, av, k⟩ := hpd.tra HK4.out.size
    have HK5 := Lib.hid (HK4.out.kpt k)
    refine ⟨HK5.out, ?_⟩
    obtain ⟨oA, oc, rfl⟩ := own_slice ta.ov_
    obtain ⟨tA, tc, rfl⟩ := own_slice ta.tv_
    have HB5 := Lib.hid (k.near _ _ _ _ (.inr (by decide)) HB.out)
    have HT := Lib.hid (And.intro ta (And.intro av k))
    clear hpd ta av k HK4 HC4
    unfold trV
    simp only [Act.put, List.setIfInBounds_toArray, List.set_cons_zero, List.set_cons_succ]
    obtain ⟨b9, hb9⟩ : ∃ b9, y.heap.size = b9 := ⟨_, rfl⟩
    rw [hb9] at HB HB5 ⊢
    have HB9 := Lib.hid hb9
    clear hb9
    refine AnyT.one (i := 15) (fuel := 0) (by kernel_rfl) (.inl fun q τ n hy => wpOp_of rfl rfl ?_)
    subst hy
    have HK6 := Lib.hid HK5.out.re
    have HT2 : Hid (TrA W q _ _ _ _ _ _ _ ∧ _) := Lib.hid (And.intro HT.out.1.re (And.intro HT.out.2.1 HT.out.2.2.re))
    have HB2 : Hid (Blk q b9 31 #[.slice none 0 0, .slice none 0 0, .slice none 0 0, .bool false]) := Lib.hid HB5.out
    clear HK5 HT HB5
    have c0 := HB2.out.cell 0
    have c1 := HB2.out.cell 1
    have c2 := HB2.out.cell 2
    have c3 := HB2.out.cell 3
    have z0 := HB2.out.frozen 0
    have z1 := HB2.out.frozen 1
    have z2 := HB2.out.frozen 2
    have z3 := HB2.out.frozen 3
    simp at c0 c1 c2 c3
    unfold Oper.wp
    go_simp
    have hset := box4 (.slice (some ⟨ab, 0, none⟩) (min s.nt 64) (min s.nt 64)) (.slice oA s.run.order.length oc) (.slice tA (rnOf s.ss + rnOf s.ss) tc) (.bool (decide (0 < s.run.m.left (min s.nt 64)))) HB2.out
    have hkq : Kpt W y q := (kpt_kept (Kept.alloc y _)).trans HT2.out.2.2
    have hk4 := kpt_box hkq hset.1 (Nat.le_of_eq HB9.out)
    have n9 : ¬ Bs b9 := HT2.out.2.1 b9 _ _ (0, 0) (.inr (by decide)) HB.out
    have hm := mid1_of HK3.out HC3.out hk4 (fun b e => e ▸ n9) hset.2 (HT2.out.1.keep fun b hb => hset.1.block b (HT2.out.1.lt hb) (fun e => n9 (e ▸ hb))) (fun b c t r hr hb => HT2.out.2.1 b c t r hr (((Kept.alloc (S := fun _ => False) y _).block b (lt_of_some hb) id).trans hb))
    refine ⟨HK3.out.kpt hk4, ?_⟩
    refine AnyT.done (by kernel_rfl) ?_ _
    exact next _ _ b9 Bs ab _ _ rfl rfl rfl rfl rfl rfl rfl hm
end
end Go.Proofs.Yteainbnoemkfcaa
namespace Go.Proofs.Yteainbnoemkfcaa
open Go.RowKit Go.Turn Go.Tame Go.Conc
section
variable {W w : World} {s o : Scr} {v5 v6 v7 : Value} {rows : Nat → Value} {b2 b3 b9 : Nat} {Ba : Nat → Prop} {ab : Nat} {ov tv : Value}
theorem Mid1.re {y : World} {τ : Nat → Question → Nat} {n : Nat} (M : Mid1 W s o v5 v6 v7 rows b2 b3 b9 Ba ab ov tv (y.re τ n)) : Mid1 W s o v5 v6 v7 rows b2 b3 b9 Ba ab ov tv y :=
  ⟨fun w' x => M.kb w' ⟨x.size, x.near, x.io⟩, M.cp.re, M.ta.re, M.sr⟩
set_option maxHeartbeats 4000000 in
set_option maxRecDepth 100000 in
theorem keeps_7 (tm : Array Value) (hsz : tm.size = 301) (h2 : tm[2]? = some (.pointer (some ⟨b2, 0, none⟩))) (h3 : tm[3]? = some (.pointer (some ⟨b3, 0, none⟩))) (h5 : tm[5]? = some v5) (h6 : tm[6]? = some v6) (h7 : tm[7]? = some v7) (h9 : tm[9]? = some (.pointer (some ⟨b9, 0, none⟩)))
    (M : Mid1 W s o v5 v6 v7 rows b2 b3 b9 Ba ab ov tv w)
    (next : ∀ (tm : Array Value) (w : World) (b10 : Nat) (Bb : Nat → Prop) (ab' : Nat) (ov' tv' : Value), tm.size = 301 → tm[2]? = some (.pointer (some ⟨b2, 0, none⟩)) → tm[3]? = some (.pointer (some ⟨b3, 0, none⟩)) → tm[5]? = some v5 → tm[6]? = some v6 → tm[7]? = some v7 → tm[9]? = some (.pointer (some ⟨b9, 0, none⟩)) → tm[10]? = some (.pointer (some ⟨b10, 0, none⟩)) →
      Mid2 W s o v5 v6 v7 rows b2 b3 b9 b10 Ba Bb ab ab' ov tv ov' tv' w → KpT W 8 tm w) : KpT W 7 tm w := by
  have hs : ¬ (lgA Try.tame (PostT (.bool true) W) W).strict := fun h => h
  obtain ⟨f, rfl⟩ := lit301 tm hsz
  have h2 : f 2 = .pointer (some ⟨b2, 0, none⟩) := by simpa using h2
  have h3 : f 3 = .pointer (some ⟨b3, 0, none⟩) := by simpa using h3
  have h5 : f 5 = v5 := by simpa using h5
  have h6 : f 6 = v6 := by simpa using h6
  have h7 : f 7 = v7 := by simpa using h7
  have h9 : f 9 = .pointer (some ⟨b9, 0, none⟩) := by simpa using h9
  rw [h2, h3, h5, h6, h7, h9]
  clear h2 h3 h5 h6 h7 h9 hsz
  unfold KpT
  simp only [tailC, Try.f7, Option.getD_some]
  have HM := Lib.hid M
  clear M
  refine Lg.move _ (fun _ _ => step_seq) (fun h => h) ?_
  refine Lg.move _ (fun _ _ => step_region) (fun h => h) ?_
  refine Lg.pre 0 8 3 (by simp) fun K hK z τ n' hz => ?_
  subst hz
  have HM1 := Lib.hid HM.out.re
  clear HM
  obtain ⟨c0, c1, c2, c3⟩ := ((HM1.out.kb z (KptX.refl _ _ _)).1.kb).cells.1
  simp only [List.drop_zero, List.take_succ_cons, List.take_zero]
  go_wp2
  refine hK _ _ (fun h => absurd h hs) ?_
  clear hK K c0 c1 c2 c3
  have hk1 := (HM1.out.kb z (KptX.refl _ _ _)).1.kb
  refine Lg.call (i := 8) (rest := [9, 10]) (f := 10) (args := #[.slice s.qA s.ss.length s.qc, .slice s.tA s.nt s.cp, .slice s.sA s.xs.length s.sc, .int .i64 s.most]) rfl rfl (fun y => by go_simp) (hk1.s_.play Try.tame (PostT (.bool true) W) hk1.size) ?_
  intro v t' w1 hpd
  obtain ⟨ab', ov', tv', Bb, rfl, tb, av, k⟩ := hpd.tra hk1.size
  obtain ⟨oA, oc, rfl⟩ := own_slice tb.ov_
  obtain ⟨tA, tc, rfl⟩ := own_slice tb.tv_
  have HT := Lib.hid (And.intro tb (And.intro av k))
  clear hpd tb av k hk1
  unfold trV
  rw [Frame.finish_at]
  walk_nrm
  refine (show (lgA Try.tame (PostT (.bool true) W) W).T _ (Frame.at _ ⟨_, []⟩ (.inRegion _ (List.range' 9 (2 + 0)) :: _)) [] w1 from ?_)
  refine Lg.pre 9 2 0 (by simp) fun K hK q τ n' hq => ?_
  subst hq
  have HT2 : Hid (TrA W q _ _ _ _ _ _ _ ∧ _) := Lib.hid (And.intro HT.out.1.re (And.intro HT.out.2.1 HT.out.2.2.re))
  clear HT
  simp only [List.drop_succ_cons, List.drop_zero, List.take_succ_cons, List.take_zero]
  go_wp2
  refine hK _ _ (fun h => absurd h hs) ?_
  clear hK K
  refine Lg.move _ (fun _ _ => step_region_end) (fun h => h) ?_
  exact next _ _ q.heap.size Bb ab' _ _ rfl rfl rfl rfl rfl rfl rfl rfl (mid2_of HM1.out HT2.out.2.2 (Kept.alloc q _) (Nat.le_refl _) (Blk.new q 31 (trC ab' (min s.nt 64) _ _ s.run)) HT2.out.1 HT2.out.2.1)
end
end Go.Proofs.Yteainbnoemkfcaa
namespace Go.Proofs.Yteainbnoemkfcaa
open Go.RowKit Go.Turn Go.Tame Go.Conc
section
variable {W w : World} {s o : Scr} {v5 v6 v7 : Value} {rows : Nat → Value} {b2 b3 b9 b10 : Nat} {Ba Bb : Nat → Prop} {ab ab' : Nat} {ov tv ov' tv' : Value}
structure OverT (s : Scr) (B : Nat) (rows : Nat → Value) (S : Nat → Prop) (w : World) (i : Nat) (wr : World) : Prop where
  kept : Kept S w wr
  rest : ∀ j, i ≤ j → j < s.nt → wr.ownsRow B 49 4 (rows j) (s.len j) (opCells (s.ops j))
structure OverK (s : Scr) (B : Nat) (rows : Nat → Value) (S : Nat → Prop) (w : World) (i k : Nat) (wr : World) : Prop where
  kept : Kept S w wr
  rest : ∀ j, i < j → j < s.nt → wr.ownsRow B 49 4 (rows j) (s.len j) (opCells (s.ops j))
  row : ∃ xs, wr.ownsRow B 49 4 (rows i) (s.len i) xs ∧ ∀ j m, k ≤ j → m < 4 → xs[j * 4 + m]? = (opCells (s.ops i))[j * 4 + m]?
theorem OverT.into {S : Nat → Prop} {B i : Nat} {wr : World} (h : OverT s B rows S w i wr) (hi : i < s.nt) : OverK s B rows S w i 0 wr := ⟨h.kept, fun j hj => h.rest j (by omega), _, h.rest i (Nat.le_refl _) hi, fun _ _ _ _ => rfl⟩
theorem OverK.out {S : Nat → Prop} {B i k : Nat} {wr : World} (h : OverK s B rows S w i k wr) : OverT s B rows S w (i + 1) wr := ⟨h.kept, fun j hj => h.rest j (by omega)⟩
theorem OverT.drewN {S : Nat → Prop} {B i : Nat} {wr : World} (h : OverT s B rows S w i wr) (n : Nat) : OverT s B rows S w i (wr.drewN n) := ⟨h.kept.trans (Kept.drewN _ _ _), h.rest⟩
theorem OverK.drewN {S : Nat → Prop} {B i k : Nat} {wr : World} (h : OverK s B rows S w i k wr) (n : Nat) : OverK s B rows S w i k (wr.drewN n) := ⟨h.kept.trans (Kept.drewN _ _ _), h.rest, h.row⟩
theorem OverK.put {S : Nat → Prop} {B i k gr cr : Nat} {wr : World} (h : OverK s B rows S w i k wr) (hi : i < s.nt) (er : rows i = .slice (some ⟨gr, 0, none⟩) (s.len i) cr) (hS : S gr) (hne : ∀ j b, j < s.nt → (rows j).ownBlock = some b → b = gr → j = i) (n : Nat) (a b c d : Value) :
    OverK s B rows S w i (k + 1) (((((wr.drewN n).setCell ⟨gr, k * 4, none⟩ a).setCell ⟨gr, k * 4 + 1, none⟩ b).setCell ⟨gr, k * 4 + 2, none⟩ c).setCell ⟨gr, k * 4 + 3, none⟩ d) := by
  have kk : Kept (fun x => x = gr) wr (((((wr.drewN n).setCell ⟨gr, k * 4, none⟩ a).setCell ⟨gr, k * 4 + 1, none⟩ b).setCell ⟨gr, k * 4 + 2, none⟩ c).setCell ⟨gr, k * 4 + 3, none⟩ d) :=
    ((((Kept.drewN _ _ _).trans (Kept.setCell _ (by rfl) _)).trans (Kept.setCell _ (by rfl) _)).trans (Kept.setCell _ (by rfl) _)).trans (Kept.setCell _ (by rfl) _)
  refine ⟨h.kept.trans (kk.mono fun x _ e => e ▸ hS), fun j hj hjn => own_eq (h.rest j hj hjn) fun x hx => kk.block x (own_lt (h.rest j hj hjn) hx).2.1 fun e => by have := hne j x hjn hx e; omega, ?_⟩
  obtain ⟨xs, h1, h2⟩ := h.row
  rw [er] at h1
  refine ⟨_, by rw [er]; exact ((((show (wr.drewN n).ownsRow _ _ _ _ _ _ from h1).stored (k * 4) a).1.stored (k * 4 + 1) b).1.stored (k * 4 + 2) c).1.stored (k * 4 + 3) d |>.1, fun j m hj hm => ?_⟩
  rw [List.getElem?_set_ne (by omega), List.getElem?_set_ne (by omega), List.getElem?_set_ne (by omega), List.getElem?_set_ne (by omega)]
  exact h2 j m (by omega) hm
set_option maxHeartbeats 4000000 in
set_option maxRecDepth 100000 in
theorem keeps_8 (tm : Array Value) (hsz : tm.size = 301) (h2 : tm[2]? = some (.pointer (some ⟨b2, 0, none⟩))) (h3 : tm[3]? = some (.pointer (some ⟨b3, 0, none⟩))) (h5 : tm[5]? = some v5) (h6 : tm[6]? = some v6) (h7 : tm[7]? = some v7) (h9 : tm[9]? = some (.pointer (some ⟨b9, 0, none⟩))) (h10 : tm[10]? = some (.pointer (some ⟨b10, 0, none⟩))) (M : Mid2 W s o v5 v6 v7 rows b2 b3 b9 b10 Ba Bb ab ab' ov tv ov' tv' w)
    (next : ∀ (tm : Array Value) (w' : World), tm.size = 301 → tm[2]? = some (.pointer (some ⟨b2, 0, none⟩)) → tm[3]? = some (.pointer (some ⟨b3, 0, none⟩)) → tm[5]? = some v5 → tm[6]? = some v6 → tm[7]? = some v7 → tm[9]? = some (.pointer (some ⟨b9, 0, none⟩)) → tm[10]? = some (.pointer (some ⟨b10, 0, none⟩)) → KeptN (fun b => ∃ i, i < s.nt ∧ (rows i).ownBlock = some b) w w' → KpT W 9 tm w') : KpT W 8 tm w := by
  have hs : ¬ (lgA Try.tame (PostT (.bool true) W) W).strict := fun h => h
  obtain ⟨f, rfl⟩ := lit301 tm hsz
  replace h2 : f 2 = .pointer (some ⟨b2, 0, none⟩) := by simpa using h2
  replace h3 : f 3 = .pointer (some ⟨b3, 0, none⟩) := by simpa using h3
  replace h5 : f 5 = v5 := by simpa using h5
  replace h6 : f 6 = v6 := by simpa using h6
  replace h7 : f 7 = v7 := by simpa using h7
  replace h9 : f 9 = .pointer (some ⟨b9, 0, none⟩) := by simpa using h9
  replace h10 : f 10 = .pointer (some ⟨b10, 0, none⟩) := by simpa using h10
  rw [h2, h3, h5, h6, h7, h9, h10]
  clear h2 h3 h5 h6 h7 h9 h10 hsz
  unfold KpT
  simp only [tailC, Try.f7, Option.getD_some]
  refine Lg.move _ (fun _ _ => step_seq) (fun h => h) ?_
  refine Lg.code fun K hK u τ n' hy => ?_
  obtain ⟨e7, l7, m7, n7, z7, -⟩ := own_parts M.cp.o7
  generalize slC v7 = c7 at *
  generalize slA v7 = A7 at *
  subst e7
  subst hy
  have HM := Lib.hid M.re
  have HZ7 := Lib.hid z7
  clear M z7 n7
  have h0 : OverT s W.heap.size rows (fun b => ∃ i, i < s.nt ∧ (rows i).ownBlock = some b) u 0 u := ⟨Kept.refl _ _, fun j _ hj => HM.out.cp.r j hj⟩
  have hnt := ScrF.nmx (HM.out.kb u (KptX.refl _ _ _)).1.kb.s_
  unfold maxLen at hnt
  have H0 := Lib.hid h0
  clear h0
  go_wp2
  go_loopw [11] (fun i wr => ∃ j : Nat, j ≤ s.nt ∧ i = .int .i64 j ∧ OverT s W.heap.size rows (fun b => ∃ i, i < s.nt ∧ (rows i).ownBlock = some b) u j wr) (fun i _ => s.nt - (intOf i).toNat)
  case atStart => exact ⟨0, Nat.zero_le _, rfl, H0.out⟩
  case round =>
    obtain ⟨i, hi, rfl, ht⟩ := hrel
    by_cases hlt : i < s.nt
    · have HI := Lib.hid (ht.into hlt)
      obtain ⟨g7, hg7⟩ := HZ7.out (by omega)
      subst hg7
      obtain ⟨er, lr, mr, nr, zr, -⟩ := own_parts (HM.out.cp.r i hlt)
      generalize hcr : slC (rows i) = cr at *
      generalize hAr : slA (rows i) = Ar at *
      have k0 := (own_cell ((HM.out.kb wr (Kept.x (ht.kept.mono fun b _ hb => .inr hb))).2.1) (j := i) (u := rows i) (by rw [List.getElem?_map, List.getElem?_range hlt]; rfl))
      rw [er] at k0
      have hlen : s.len i ≤ 9223372036854775807 := by unfold maxLen at mr; omega
      have HR := Lib.hid (And.intro er zr)
      have HHT := Lib.hid ht
      clear er zr nr lr mr hcr hAr ht
      go_wp2
      rename World => wq
      go_loopw [12] (fun c wr => ∃ k : Nat, k ≤ s.len i ∧ c = .int .i64 k ∧ OverK s W.heap.size rows (fun b => ∃ i, i < s.nt ∧ (rows i).ownBlock = some b) u i k wr) (fun c _ => s.len i - (intOf c).toNat)
      case atStart => exact ⟨0, Nat.zero_le _, rfl, HI.out⟩
      case round =>
        obtain ⟨k, hk, rfl, hK2⟩ := hrel
        obtain ⟨kp0, o7', -, -, -⟩ := HM.out.kb wr (Kept.x (hK2.kept.mono fun b _ hb => .inr hb))
        have k1 := own_cell o7' (j := i) (u := rows i) (by rw [List.getElem?_map, List.getElem?_range hlt]; rfl)
        rw [HR.out.1] at k1
        by_cases hkl : k < s.len i
        · obtain ⟨gr, hgr⟩ := HR.out.2 (by omega)
          subst hgr
          obtain ⟨xs, hrow, hxs⟩ := hK2.row
          rw [HR.out.1] at hrow
          have hop := ScrF.row kp0.kb.s_ i hlt
          obtain ⟨oo, hoo⟩ : ∃ oo, (s.ops i)[k]? = some oo := ⟨_, List.getElem?_eq_getElem (by rw [hop.olen]; exact hkl)⟩
          have hcell : ∀ m, m < 4 → wr.cell? ⟨gr, k * 4 + m, none⟩ = oo.cells[m]? := fun m hm => by
            have h1 := hxs k m (Nat.le_refl _) hm
            rw [opCells_get _ _ _ hm, hoo, Option.bind_some] at h1
            exact (hrow.cellAt _ (by omega)).trans h1
          have a0 := hcell 0 (by omega)
          have a1 := hcell 1 (by omega)
          have a2 := hcell 2 (by omega)
          have a3 := hcell 3 (by omega)
          simp only [OpI.cells, List.getElem?_cons_zero, List.getElem?_cons_succ, Nat.add_zero] at a0 a1 a2 a3
          obtain ⟨-, -, bb, ff, hA, -, d3, d4, d5, d6⟩ := hop.op k oo hoo
          have d1 := kp0.kb.cells.1.2.1
          rw [ScrF.ta kp0.kb.s_ (by omega)] at d1
          have d2 := (ScrF.cell kp0.kb.s_ i hlt).2
          rw [hA] at d2
          have HKK := Lib.hid hK2
          have HRR := Lib.hid (And.intro hrow hxs)
          have fz : ∀ m, wr.frozen? ⟨gr, m, none⟩ = false := fun m => hrow.frozenAt m
          have z0 := fz (k * 4)
          have z1 := fz (k * 4 + 1)
          have z2 := fz (k * 4 + 2)
          have z3 := fz (k * 4 + 3)
          clear hop hcell hoo hA hrow hxs hK2 kp0 o7' k0 fz
          go_wp2_with fail
          go_quiet (fail)
          go_wp2
          go_roundw
          case rel => exact ⟨k + 1, by omega, by go_num, HKK.out.put hlt HR.out.1 ⟨i, hlt, by rw [HR.out.1]; rfl⟩ (fun j b hj hb e => HM.out.cp.ne j i b hj hlt hb (by rw [HR.out.1, e]; rfl)) nq _ _ _ _⟩
          case measure => simp [intOf]; omega
        · have ek : k = s.len i := by omega
          subst ek
          have HKK := Lib.hid hK2.out
          clear hK2 kp0 o7' k0
          go_wp2
          go_roundw
          case rel => exact ⟨i + 1, by omega, by go_num, HKK.out⟩
          case measure => simp [intOf]; omega
    · have ei : i = s.nt := by omega
      subst ei
      have HHT := Lib.hid ht.kept
      clear ht
      go_wp2
      refine hK _ _ (fun h => absurd h hs) ?_
      exact next _ _ rfl rfl rfl rfl rfl rfl rfl rfl HHT.out.n.er
end
end Go.Proofs.Yteainbnoemkfcaa
namespace Go.Proofs.Yteainbnoemkfcaa
open Go.RowKit Go.Turn Go.Tame Go.Conc
structure Wk (S : Nat → Prop) (w w' : World) : Prop where
  kept : KeptN S w w'
  shp : Shp w w'
  num : ∀ (b : Nat) (c : Array Value) (t : TypeId), t ≠ 2 → t ≠ 3 → w.heap[b]? = some (.cells c t (0, 0)) → w'.heap[b]? = some (.cells c t (0, 0))
def ListS (w : World) (S : Nat → Prop) (lv : Value) : Prop := ∃ m ys, m ≤ 65536 ∧ w.ownsRow 0 2 1 lv m ys ∧ ∀ b, lv.ownBlock = some b → S b
structure AnsR (w : World) (ab n : Nat) (S : Nat → Prop) (rw_ : Nat → Value) (ln : Nat → Nat) : Prop where
  blk : ∃ c, w.heap[ab]? = some (.cells c 44 (0, 0)) ∧ ∀ i, i < n → c[i]? = some (rw_ i)
  le : ∀ i, i < n → ln i ≤ 65536
  row : ∀ i, i < n → ∃ xs, w.ownsRow 0 46 3 (rw_ i) (ln i) xs ∧ ∀ k, k < ln i → ∃ lv, xs[k * 3 + 2]? = some lv ∧ ListS w S lv
  own : ∀ i, i < n → ∀ b, (rw_ i).ownBlock = some b → S b
  ne : ∀ i j b, i < n → j < n → (rw_ i).ownBlock = some b → (rw_ j).ownBlock = some b → i = j
section
variable {S : Nat → Prop} {w w' w'' : World}
theorem Wk.refl (S : Nat → Prop) (w : World) : Wk S w w := ⟨KeptN.refl _ _, Shp.refl _, fun _ _ _ _ _ h => h⟩
theorem Wk.trans (h : Wk S w w') (k : Wk S w' w'') : Wk S w w'' := ⟨h.kept.trans k.kept, h.shp.trans k.shp, fun b c t h1 h2 hb => k.num b c t h1 h2 (h.num b c t h1 h2 hb)⟩
theorem Wk.same (h : Kept (fun _ => False) w w') : Wk S w w' := ⟨(h.n).mono fun _ z => z.elim, Shp.kept h, fun b c t _ _ hb => (h.block b (Blk.lt (t := t) (cs := c) hb) id).trans hb⟩
theorem Wk.setCell {g i : Nat} {t : TypeId} {c : Array Value} (u : Value) (hS : S g) (hb : Blk w g t c) (ht : t = 2 ∨ t = 3) : Wk S w (w.setCell ⟨g, i, none⟩ u) :=
  ⟨(Kept.setCell (S := S) w (p := ⟨g, i, none⟩) hS u).n, Shp.setCell g i u w, fun b c' t' h1 h2 hb' => (Below.heap_setCell w ⟨g, i, none⟩ u b fun e => by
    have e : b = g := e
    subst e
    unfold Blk at hb
    rw [hb] at hb'
    simp only [Option.some.injEq, Obj.cells.injEq] at hb'
    obtain ⟨-, rfl, -⟩ := hb'
    rcases ht with h | h
    · exact h1 h
    · exact h2 h).trans hb'⟩
theorem Wk.own {b0 n size : Nat} {e : TypeId} {v : Value} {xs : List Value} (k : Wk S w w') (h : w.ownsRow b0 e size v n xs) (h1 : e ≠ 2) (h2 : e ≠ 3) : w'.ownsRow b0 e size v n xs :=
  own_eq h fun b hb => by
    obtain ⟨-, -, c, hc⟩ := own_lt h hb
    exact (k.num b c e h1 h2 hc).trans (Eq.symm hc)
theorem ListS.shp {lv : Value} (h : ListS w S lv) (k : Shp w w') : ListS w' S lv := by
  obtain ⟨m, ys, h1, h2, h3⟩ := h
  obtain ⟨zs, h4⟩ := own_shp h2 k
  exact ⟨m, zs, h1, h4, h3⟩
theorem AnsR.wk {ab n : Nat} {rw_ : Nat → Value} {ln : Nat → Nat} (h : AnsR w ab n S rw_ ln) (k : Wk S w w') : AnsR w' ab n S rw_ ln := by
  obtain ⟨c, h1, h2⟩ := h.blk
  refine ⟨⟨c, k.num _ _ _ (by decide) (by decide) h1, h2⟩, h.le, fun i hi => ?_, h.own, h.ne⟩
  obtain ⟨xs, h3, h4⟩ := h.row i hi
  exact ⟨xs, k.own h3 (by decide) (by decide), fun j hj => by
    obtain ⟨lv, h5, h6⟩ := h4 j hj
    exact ⟨lv, h5, h6.shp k.shp⟩⟩
theorem AnsRow.own_ {G : Nat → Prop} : ∀ {l : List Ans} {xs : List Value}, AnsRow w G l xs → ∀ i (h : i < l.length), ∃ lv, xs[i * 3 + 2]? = some lv ∧ LsAt w lv l[i].ls ∧ ∀ b, lv.ownBlock = some b → G b
  | [], _, _, i, h => absurd h (Nat.not_lt_zero i)
  | a :: l, xs, ⟨lv, xs', e, h1, h2, h3⟩, 0, _ => ⟨lv, by rw [e]; rfl, h1, h2⟩
  | a :: l, xs, ⟨lv, xs', e, h1, _, h3⟩, i + 1, h => by
    obtain ⟨lv', k3, k4⟩ := AnsRow.own_ h3 i (by simpa using h)
    subst e
    refine ⟨lv', ?_, by simpa using k4⟩
    rw [show (i + 1) * 3 + 2 = (i * 3 + 2) + 3 from by omega]; simpa using k3
theorem AnsAll.shape {ab n : Nat} {ans : Nat → List Ans} {H : Nat → Prop} (h : AnsAll w ab n ans H) (hS : ∀ b, H b → S b) (hb : ∀ i, (ans i).length ≤ 65536 ∧ ∀ a ∈ ans i, a.ls.length ≤ 65536) : ∃ rw_, AnsR w ab n S rw_ fun i => (ans i).length := by
  obtain ⟨rw_, c, h1, h2, h3, h4, h5⟩ := h.rows
  refine ⟨rw_, ⟨c, h1, h3⟩, fun i _ => (hb i).1, fun i hi => ?_, fun i hi b hb => ?_, h5⟩
  · obtain ⟨xs, k1, k2, k3⟩ := h4 i hi
    refine ⟨xs, k1, fun k hk => ?_⟩
    obtain ⟨lv, m1, m2, m3⟩ := k2.own_ k hk
    exact ⟨lv, m1, _, _, (hb i).2 _ (List.getElem_mem _), m2, fun b hb => hS b (m3 b hb)⟩
  · obtain ⟨xs, k1, k2, k3⟩ := h4 i hi
    exact hS b (k3 b hb)
end
structure Mid3 (W : World) (s o : Scr) (v5 v6 v7 : Value) (b2 b3 b9 b10 : Nat) (Sa Bb : Nat → Prop) (ab ab' : Nat) (ov tv ov' tv' : Value) (rw_ : Nat → Value) (ln : Nat → Nat) (w : World) : Prop where
  kb : ∀ w', KptX W Sa w w' → Kp0 W s o v5 v6 v7 b2 b3 w' ∧ Blk w' b9 31 (trC ab (min s.nt 64) ov tv s.run) ∧ Blk w' b10 31 (trC ab' (min s.nt 64) ov' tv' s.run) ∧ TrA W w' (min s.nt 64) s.run (rnOf s.ss) Bb ab' ov' tv'
  tvo : ∃ xs, w.ownsRow W.heap.size 2 1 tv (rnOf s.ss + rnOf s.ss) xs
  ovo : ∃ xs, w.ownsRow W.heap.size 3 1 ov s.run.order.length xs
  tvS : ∀ b, tv.ownBlock = some b → Sa b
  ovS : ∀ b, ov.ownBlock = some b → Sa b
  ans : AnsR w ab (min s.nt 64) Sa rw_ ln
section
variable {W w w1 : World} {s o : Scr} {v5 v6 v7 : Value} {rows : Nat → Value} {b2 b3 b9 b10 : Nat} {Ba Bb Sa : Nat → Prop} {ab ab' : Nat} {ov tv ov' tv' : Value} {rw_ : Nat → Value} {ln : Nat → Nat}
theorem Mid3.wk (M : Mid3 W s o v5 v6 v7 b2 b3 b9 b10 Sa Bb ab ab' ov tv ov' tv' rw_ ln w) (k : Wk Sa w w1) : Mid3 W s o v5 v6 v7 b2 b3 b9 b10 Sa Bb ab ab' ov tv ov' tv' rw_ ln w1 :=
  ⟨fun w' x => M.kb w' (k.kept.x.trans x), by obtain ⟨xs, h⟩ := M.tvo; exact own_shp h k.shp, by obtain ⟨xs, h⟩ := M.ovo; exact own_shp h k.shp, M.tvS, M.ovS, M.ans.wk k⟩
theorem Mid3.re {y : World} {τ : Nat → Question → Nat} {n : Nat} (M : Mid3 W s o v5 v6 v7 b2 b3 b9 b10 Sa Bb ab ab' ov tv ov' tv' rw_ ln (y.re τ n)) : Mid3 W s o v5 v6 v7 b2 b3 b9 b10 Sa Bb ab ab' ov tv ov' tv' rw_ ln y :=
  M.wk (w1 := y) ⟨⟨Nat.le_refl _, fun _ _ _ => rfl, rfl, rfl⟩, fun b c t h => ⟨c, h, rfl⟩, fun _ _ _ _ _ h => h⟩
theorem mid3_of (M : Mid2 W s o v5 v6 v7 rows b2 b3 b9 b10 Ba Bb ab ab' ov tv ov' tv' w) (k : KeptN (fun b => ∃ i, i < s.nt ∧ (rows i).ownBlock = some b) w w1) :
    ∃ rw_ ln, Mid3 W s o v5 v6 v7 b2 b3 b9 b10 (SaOf s.nt rows Ba) Bb ab ab' ov tv ov' tv' rw_ ln w1 := by
  have ta := M.ta.keep (w' := w1) fun b hb => k.block b (M.ta.lt hb) fun ⟨i, hi, z⟩ => M.sr b i hi z hb
  obtain ⟨H, h1, h2, h3⟩ := ta.ans
  obtain ⟨rw_, h4⟩ := h1.shape (S := SaOf s.nt rows Ba) (fun b hb => .inl (h2 b hb)) s.run_bd
  refine ⟨rw_, _, fun w' x => ?_, ⟨_, ta.tv_⟩, ⟨_, ta.ov_⟩, fun b hb => .inl (ta.btv b hb), fun b hb => .inl (ta.bov b hb), h4⟩
  obtain ⟨q1, q2, q3, q4, q5⟩ := M.kb w' (((k.mono fun b hb => .inr hb).x).trans x)
  exact ⟨q1, q3, q4, q5⟩
end
end Go.Proofs.Yteainbnoemkfcaa
namespace Go.Proofs.Yteainbnoemkfcaa
open Go.RowKit Go.Turn Go.Tame Go.Conc
section
variable {W w : World} {s o : Scr} {v5 v6 v7 : Value} {b2 b3 b9 b10 : Nat} {Bb Sa : Nat → Prop} {ab ab' : Nat} {ov tv ov' tv' : Value} {rw_ : Nat → Value} {ln : Nat → Nat}
set_option maxHeartbeats 4000000 in
set_option maxRecDepth 100000 in
theorem keeps_9 (tm : Array Value) (hsz : tm.size = 301) (h2 : tm[2]? = some (.pointer (some ⟨b2, 0, none⟩))) (h3 : tm[3]? = some (.pointer (some ⟨b3, 0, none⟩))) (h5 : tm[5]? = some v5) (h6 : tm[6]? = some v6) (h9 : tm[9]? = some (.pointer (some ⟨b9, 0, none⟩))) (h10 : tm[10]? = some (.pointer (some ⟨b10, 0, none⟩))) (M : Mid3 W s o v5 v6 v7 b2 b3 b9 b10 Sa Bb ab ab' ov tv ov' tv' rw_ ln w) (next : ∀ (tm : Array Value) (w' : World), tm.size = 301 → tm[2]? = some (.pointer (some ⟨b2, 0, none⟩)) → tm[3]? = some (.pointer (some ⟨b3, 0, none⟩)) → tm[5]? = some v5 → tm[6]? = some v6 → tm[9]? = some (.pointer (some ⟨b9, 0, none⟩)) → tm[10]? = some (.pointer (some ⟨b10, 0, none⟩)) → Mid3 W s o v5 v6 v7 b2 b3 b9 b10 Sa Bb ab ab' ov tv ov' tv' rw_ ln w' → KpT W 10 tm w') : KpT W 9 tm w := by
  have hs : ¬ (lgA Try.tame (PostT (.bool true) W) W).strict := fun h => h
  obtain ⟨f, rfl⟩ := lit301 tm hsz
  replace h2 : f 2 = .pointer (some ⟨b2, 0, none⟩) := by simpa using h2
  replace h3 : f 3 = .pointer (some ⟨b3, 0, none⟩) := by simpa using h3
  replace h5 : f 5 = v5 := by simpa using h5
  replace h6 : f 6 = v6 := by simpa using h6
  replace h9 : f 9 = .pointer (some ⟨b9, 0, none⟩) := by simpa using h9
  replace h10 : f 10 = .pointer (some ⟨b10, 0, none⟩) := by simpa using h10
  rw [h2, h3, h5, h6, h9, h10]
  clear h2 h3 h5 h6 h9 h10 hsz
  unfold KpT
  simp only [tailC, Try.f7, Option.getD_some]
  refine Lg.move _ (fun _ _ => step_seq) (fun h => h) ?_
  refine Lg.code fun K hK u τ n' hy => ?_
  subst hy
  have HM := Lib.hid M.re
  clear M
  obtain ⟨oxs, hox⟩ := HM.out.ovo
  obtain ⟨oA, oc, rfl⟩ := own_slice hox
  obtain ⟨txs, htx⟩ := HM.out.tvo
  obtain ⟨tA, tc, rfl⟩ := own_slice htx
  obtain ⟨eo, l1, m1, n1, z1, -⟩ := own_parts htx
  simp only [slC, slA] at l1 m1 z1
  have hln : rnOf s.ss + rnOf s.ss ≤ 9223372036854775807 := by unfold maxLen at m1; omega
  have HZ := Lib.hid z1
  clear hox htx eo l1 m1 n1 z1
  generalize hL : rnOf s.ss + rnOf s.ss = L at *
  have HL := Lib.hid hL
  clear hL
  go_wp2
  go_loopw [13] (fun i wr => ∃ j : Nat, j ≤ L ∧ i = .int .i64 j ∧ Wk Sa u wr) (fun i _ => L - (intOf i).toNat)
  case atStart => exact ⟨0, Nat.zero_le _, rfl, Wk.refl _ _⟩
  case round =>
    obtain ⟨j, hj, rfl, hk⟩ := hrel
    have M2 := HM.out.wk hk
    have hb := (M2.kb wr (KptX.refl _ _ _)).2.1
    have c9 := hb.cell 2
    simp [trC] at c9
    by_cases hlt : j < L
    · obtain ⟨g, hg⟩ := HZ.out (by omega)
      subst hg
      obtain ⟨xs, hrow⟩ := M2.tvo
      rw [HL.out] at hrow
      obtain ⟨-, -, cs, hcs⟩ := own_lt hrow (b := g) rfl
      have hS := HM.out.tvS g rfl
      have hc := hrow.cellAt j (by omega)
      obtain ⟨x, hx⟩ : ∃ x, xs[j]? = some x := ⟨_, List.getElem?_eq_getElem (by rw [hrow.1]; omega)⟩
      rw [hx] at hc
      have hz := hrow.frozenAt j
      have HH := Lib.hid (hk.trans (Wk.setCell (i := j) (.int .i64 (-1)) hS hcs (.inl rfl)))
      clear hk M2 hb hrow hcs hS hx
      go_wp2
      go_roundw
      case rel => exact ⟨j + 1, by omega, by go_num, HH.out⟩
      case measure => simp [intOf]; omega
    · have ej : j = L := by omega
      subst ej
      have HH := Lib.hid M2
      clear hk M2 hb
      go_wp2
      refine hK _ _ (fun h => absurd h hs) ?_
      exact next _ _ rfl rfl rfl rfl rfl rfl rfl HH.out
set_option maxHeartbeats 4000000 in
set_option maxRecDepth 100000 in
theorem keeps_10 (tm : Array Value) (hsz : tm.size = 301) (h2 : tm[2]? = some (.pointer (some ⟨b2, 0, none⟩))) (h3 : tm[3]? = some (.pointer (some ⟨b3, 0, none⟩))) (h5 : tm[5]? = some v5) (h6 : tm[6]? = some v6) (h9 : tm[9]? = some (.pointer (some ⟨b9, 0, none⟩))) (h10 : tm[10]? = some (.pointer (some ⟨b10, 0, none⟩))) (M : Mid3 W s o v5 v6 v7 b2 b3 b9 b10 Sa Bb ab ab' ov tv ov' tv' rw_ ln w) (next : ∀ (tm : Array Value) (w' : World), tm.size = 301 → tm[2]? = some (.pointer (some ⟨b2, 0, none⟩)) → tm[3]? = some (.pointer (some ⟨b3, 0, none⟩)) → tm[5]? = some v5 → tm[6]? = some v6 → tm[9]? = some (.pointer (some ⟨b9, 0, none⟩)) → tm[10]? = some (.pointer (some ⟨b10, 0, none⟩)) → Mid3 W s o v5 v6 v7 b2 b3 b9 b10 Sa Bb ab ab' ov tv ov' tv' rw_ ln w' → KpT W 11 tm w') : KpT W 10 tm w := by
  have hs : ¬ (lgA Try.tame (PostT (.bool true) W) W).strict := fun h => h
  obtain ⟨f, rfl⟩ := lit301 tm hsz
  replace h2 : f 2 = .pointer (some ⟨b2, 0, none⟩) := by simpa using h2
  replace h3 : f 3 = .pointer (some ⟨b3, 0, none⟩) := by simpa using h3
  replace h5 : f 5 = v5 := by simpa using h5
  replace h6 : f 6 = v6 := by simpa using h6
  replace h9 : f 9 = .pointer (some ⟨b9, 0, none⟩) := by simpa using h9
  replace h10 : f 10 = .pointer (some ⟨b10, 0, none⟩) := by simpa using h10
  rw [h2, h3, h5, h6, h9, h10]
  clear h2 h3 h5 h6 h9 h10 hsz
  unfold KpT
  simp only [tailC, Try.f7, Option.getD_some]
  refine Lg.move _ (fun _ _ => step_seq) (fun h => h) ?_
  refine Lg.code fun K hK u τ n' hy => ?_
  subst hy
  have HM := Lib.hid M.re
  clear M
  obtain ⟨oxs, hox⟩ := HM.out.ovo
  obtain ⟨oA, oc, rfl⟩ := own_slice hox
  obtain ⟨txs, htx⟩ := HM.out.tvo
  obtain ⟨tA, tc, rfl⟩ := own_slice htx
  obtain ⟨eo, l1, m1, n1, z1, -⟩ := own_parts hox
  simp only [slC, slA] at l1 m1 z1
  have hln : s.run.order.length ≤ 9223372036854775807 := by unfold maxLen at m1; omega
  have HZ := Lib.hid z1
  clear hox htx eo l1 m1 n1 z1
  generalize hL : s.run.order.length = L at *
  have HL := Lib.hid hL
  clear hL
  go_wp2
  go_loopw [14] (fun i wr => ∃ j : Nat, j ≤ L ∧ i = .int .i64 j ∧ Wk Sa u wr) (fun i _ => L - (intOf i).toNat)
  case atStart => exact ⟨0, Nat.zero_le _, rfl, Wk.refl _ _⟩
  case round =>
    obtain ⟨j, hj, rfl, hk⟩ := hrel
    have M2 := HM.out.wk hk
    have hb := (M2.kb wr (KptX.refl _ _ _)).2.1
    have c9 := hb.cell 1
    simp [trC] at c9
    by_cases hlt : j < L
    · obtain ⟨g, hg⟩ := HZ.out (by omega)
      subst hg
      obtain ⟨xs, hrow⟩ := M2.ovo
      rw [HL.out] at hrow
      obtain ⟨-, -, cs, hcs⟩ := own_lt hrow (b := g) rfl
      have hS := HM.out.ovS g rfl
      have hc := hrow.cellAt j (by omega)
      obtain ⟨x, hx⟩ : ∃ x, xs[j]? = some x := ⟨_, List.getElem?_eq_getElem (by rw [hrow.1]; omega)⟩
      rw [hx] at hc
      have hz := hrow.frozenAt j
      have HH := Lib.hid (hk.trans (Wk.setCell (i := j) (.int .i64 (-1)) hS hcs (.inr rfl)))
      clear hk M2 hb hrow hcs hS hx
      go_wp2
      go_roundw
      case rel => exact ⟨j + 1, by omega, by go_num, HH.out⟩
      case measure => simp [intOf]; omega
    · have ej : j = L := by omega
      subst ej
      have HH := Lib.hid M2
      clear hk M2 hb
      go_wp2
      refine hK _ _ (fun h => absurd h hs) ?_
      exact next _ _ rfl rfl rfl rfl rfl rfl rfl HH.out
end
end Go.Proofs.Yteainbnoemkfcaa
namespace Go.Proofs.Yteainbnoemkfcaa
open Go.RowKit Go.Turn Go.Tame Go.Conc
structure AnK (u : World) (ab n : Nat) (S : Nat → Prop) (rw_ : Nat → Value) (ln : Nat → Nat) (i k : Nat) (w : World) : Prop where
  kept : KeptN S u w
  blk : ∃ c, w.heap[ab]? = some (.cells c 44 (0, 0)) ∧ ∀ j, j < n → c[j]? = some (rw_ j)
  done : ∀ j, j < i → j < n → ∃ xs, w.ownsRow 0 46 3 (rw_ j) (ln j) xs ∧ ∀ q, q < ln j → xs[q * 3 + 1]? = some (.int .i64 (-1))
  todo : ∀ j, i < j → j < n → ∃ xs, w.ownsRow 0 46 3 (rw_ j) (ln j) xs ∧ ∀ q, q < ln j → ∃ lv, xs[q * 3 + 2]? = some lv ∧ ListS w S lv
  row : i < n → ∃ xs, w.ownsRow 0 46 3 (rw_ i) (ln i) xs ∧ (∀ q, q < k → q < ln i → xs[q * 3 + 1]? = some (.int .i64 (-1))) ∧ ∀ q, k ≤ q → q < ln i → ∃ lv, xs[q * 3 + 2]? = some lv ∧ ListS w S lv
section
variable {u w w' : World} {ab n : Nat} {S : Nat → Prop} {rw_ : Nat → Value} {ln : Nat → Nat} {i k : Nat}
theorem AnsR.start (h : AnsR u ab n S rw_ ln) : AnK u ab n S rw_ ln 0 0 u :=
  ⟨KeptN.refl _ _, h.blk, fun j hj => by omega, fun j _ hj => h.row j hj, fun hi => by
    obtain ⟨xs, h1, h2⟩ := h.row 0 hi
    exact ⟨xs, h1, fun q hq => by omega, fun q _ hq => h2 q hq⟩⟩
theorem AnK.wk (h : AnK u ab n S rw_ ln i k w) (x : Wk S w w') : AnK u ab n S rw_ ln i k w' := by
  obtain ⟨c, h1, h2⟩ := h.blk
  refine ⟨h.kept.trans x.kept, ⟨c, x.num _ _ _ (by decide) (by decide) h1, h2⟩, fun j hj hn => ?_, fun j hj hn => ?_, fun hn => ?_⟩
  · obtain ⟨xs, h3, h4⟩ := h.done j hj hn
    exact ⟨xs, x.own h3 (by decide) (by decide), h4⟩
  · obtain ⟨xs, h3, h4⟩ := h.todo j hj hn
    exact ⟨xs, x.own h3 (by decide) (by decide), fun q hq => by obtain ⟨lv, h5, h6⟩ := h4 q hq; exact ⟨lv, h5, h6.shp x.shp⟩⟩
  · obtain ⟨xs, h3, h4, h5⟩ := h.row hn
    exact ⟨xs, x.own h3 (by decide) (by decide), h4, fun q hq hl => by obtain ⟨lv, h6, h7⟩ := h5 q hq hl; exact ⟨lv, h6, h7.shp x.shp⟩⟩
theorem AnK.next (h : AnK u ab n S rw_ ln i k w) (hk : ln i ≤ k) : AnK u ab n S rw_ ln (i + 1) 0 w :=
  ⟨h.kept, h.blk, fun j hj hn => by
    by_cases e : j = i
    · subst e
      obtain ⟨xs, h3, h4, _⟩ := h.row hn
      exact ⟨xs, h3, fun q hq => h4 q (by omega) hq⟩
    · exact h.done j (by omega) hn, fun j hj hn => h.todo j (by omega) hn, fun hn => by
      obtain ⟨xs, h3, h4⟩ := h.todo (i + 1) (by omega) hn
      exact ⟨xs, h3, fun q hq => by omega, fun q _ hq => h4 q hq⟩⟩
theorem AnK.ownAt (h : AnK u ab n S rw_ ln i k w) {j : Nat} (hn : j < n) : ∃ xs, w.ownsRow 0 46 3 (rw_ j) (ln j) xs := by
  rcases Nat.lt_trichotomy j i with hj | hj | hj
  · obtain ⟨xs, h3, _⟩ := h.done j hj hn
    exact ⟨xs, h3⟩
  · subst hj
    obtain ⟨xs, h3, _⟩ := h.row hn
    exact ⟨xs, h3⟩
  · obtain ⟨xs, h3, _⟩ := h.todo j hj hn
    exact ⟨xs, h3⟩
theorem AnK.put (h : AnK u ab n S rw_ ln i k w) (hi : i < n) {gr cr : Nat} (er : rw_ i = .slice (some ⟨gr, 0, none⟩) (ln i) cr) (hS : S gr) (hne : ∀ j b, j < n → (rw_ j).ownBlock = some b → b = gr → j = i) (hk : k < ln i) (a c : Value) :
    AnK u ab n S rw_ ln i (k + 1) (((w.setCell ⟨gr, k * 3, none⟩ a).setCell ⟨gr, k * 3 + 1, none⟩ (.int .i64 (-1))).setCell ⟨gr, k * 3 + 2, none⟩ c) := by
  have kk : Kept (fun x => x = gr) w (((w.setCell ⟨gr, k * 3, none⟩ a).setCell ⟨gr, k * 3 + 1, none⟩ (.int .i64 (-1))).setCell ⟨gr, k * 3 + 2, none⟩ c) :=
    ((Kept.setCell _ (by rfl) _).trans (Kept.setCell _ (by rfl) _)).trans (Kept.setCell _ (by rfl) _)
  have sh : Shp w (((w.setCell ⟨gr, k * 3, none⟩ a).setCell ⟨gr, k * 3 + 1, none⟩ (.int .i64 (-1))).setCell ⟨gr, k * 3 + 2, none⟩ c) := ((Shp.setCell _ _ _ _).trans (Shp.setCell _ _ _ _)).trans (Shp.setCell _ _ _ _)
  obtain ⟨xs, h1, h2, h3⟩ := h.row hi
  have hgr : ∃ cur, w.heap[gr]? = some (.cells cur 46 (0, 0)) := by
    obtain ⟨-, -, cur, hc⟩ := own_lt h1 (b := gr) (by rw [er]; rfl)
    exact ⟨cur, hc⟩
  have oth : ∀ j, j < n → j ≠ i → ∀ xs, w.ownsRow 0 46 3 (rw_ j) (ln j) xs → World.ownsRow (((w.setCell ⟨gr, k * 3, none⟩ a).setCell ⟨gr, k * 3 + 1, none⟩ (.int .i64 (-1))).setCell ⟨gr, k * 3 + 2, none⟩ c) 0 46 3 (rw_ j) (ln j) xs := fun j hj hji xs ho =>
    own_eq ho fun b hb => kk.block b (own_lt ho hb).2.1 fun e => hji (hne j b hj hb e)
  refine ⟨h.kept.trans ((kk.n).mono fun x e => e ▸ hS), ?_, fun j hj hn => ?_, fun j hj hn => ?_, fun _ => ?_⟩
  · obtain ⟨c0, h4, h5⟩ := h.blk
    refine ⟨c0, (kk.block ab (lt_of_some h4) fun e => ?_).trans h4, h5⟩
    obtain ⟨cur, hc⟩ := hgr
    rw [e, hc] at h4
    simp at h4
  · obtain ⟨ys, h4, h5⟩ := h.done j hj hn
    exact ⟨ys, oth j hn (by omega) ys h4, h5⟩
  · obtain ⟨ys, h4, h5⟩ := h.todo j hj hn
    exact ⟨ys, oth j hn (by omega) ys h4, fun q hq => by obtain ⟨lv, h6, h7⟩ := h5 q hq; exact ⟨lv, h6, h7.shp sh⟩⟩
  · have hl := h1.1
    rw [er] at h1 ⊢
    refine ⟨_, (((h1.stored (k * 3) a).1.stored (k * 3 + 1) _).1.stored (k * 3 + 2) c).1, fun q hq hql => ?_, fun q hq hql => ?_⟩
    · by_cases e : q = k
      · subst e
        rw [List.getElem?_set_ne (by omega), List.getElem?_set_self (by simp; omega)]
      · rw [List.getElem?_set_ne (by omega), List.getElem?_set_ne (by omega), List.getElem?_set_ne (by omega)]
        exact h2 q (by omega) hql
    · obtain ⟨lv, h6, h7⟩ := h3 q (by omega) hql
      refine ⟨lv, ?_, h7.shp sh⟩
      rw [List.getElem?_set_ne (by omega), List.getElem?_set_ne (by omega), List.getElem?_set_ne (by omega)]
      exact h6
structure Grow (u w : World) (n : Nat) (rw_ : Nat → Value) (i m : Nat) (v : Value) : Prop where
  own : ∃ ys, w.ownsRow 0 46 3 v m ys
  from_ : v.ownBlock = (rw_ i).ownBlock ∨ ∀ b, v.ownBlock = some b → u.heap.size ≤ b ∧ ∀ j, j < n → (rw_ j).ownBlock ≠ some b
theorem Pre.same_ {g : Option Nat} {m b : Nat} {c : Array Value} {t : TypeId} (h : Pre g m w w') (hb : w.heap[b]? = some (.cells c t (0, 0))) (hne : some b ≠ g) : w'.heap[b]? = some (.cells c t (0, 0)) := by
  obtain ⟨c', h1, h2, h3⟩ := h b c t hb
  have : c' = c := Array.ext_getElem? fun j => h3 j (.inl hne)
  rw [← this]
  exact h1
theorem AnK.grow {v v' : Value} {m : Nat} {ys : List Value} (h : AnK u ab n S rw_ ln (i + 1) 0 w) (G : Grow u w n rw_ i m v) (hi : i < n) (hm : ln i ≤ m) (hS : ∀ j b, j < n → (rw_ j).ownBlock = some b → S b) (hne : ∀ j b, j < n → (rw_ j).ownBlock = some b → (rw_ i).ownBlock = some b → j = i)
    (kk : Kept (fun b => v.ownBlock = some b) w w') (pp : Pre v.ownBlock (m * 3) w w') (ho : w'.ownsRow 0 46 3 v' (m + 1) ys) (hv : v'.ownBlock = v.ownBlock ∨ ∀ b, v'.ownBlock = some b → w.heap.size ≤ b) :
    AnK u ab n S rw_ ln (i + 1) 0 w' ∧ Grow u w' n rw_ i (m + 1) v' := by
  obtain ⟨zs, hown⟩ := G.own
  have blk : ∀ b, v.ownBlock = some b → ∃ c, w.heap[b]? = some (.cells c 46 (0, 0)) := fun b hb => by
    obtain ⟨-, -, c, hc⟩ := own_lt hown hb
    exact ⟨c, hc⟩
  have eq_ : ∀ j b, j < n → (rw_ j).ownBlock = some b → v.ownBlock = some b → j = i := fun j b hj h1 h2 => by
    rcases G.from_ with hf | hf
    · exact hne j b hj h1 (hf ▸ h2)
    · exact absurd h1 ((hf b h2).2 j hj)
  have row : ∀ j xs, j < n → w.ownsRow 0 46 3 (rw_ j) (ln j) xs → w'.ownsRow 0 46 3 (rw_ j) (ln j) xs := fun j xs hj hx => own_pre hx pp fun e => by
    cases hb : (rw_ j).ownBlock with
    | none =>
      rcases hx.2 with ⟨_, z⟩ | ⟨g, cap, cur, hv', _⟩
      · rw [z]; omega
      · rw [hv'] at hb; cases hb
    | some b =>
      rw [hb] at e
      have := eq_ j b hj hb e.symm
      subst this
      exact Nat.mul_le_mul_right _ hm
  refine ⟨⟨⟨Nat.le_trans h.kept.size kk.size, fun b hb hs => ?_, kk.os.trans h.kept.io.1, kk.output.trans h.kept.io.2⟩, ?_, fun j hj hn => ?_, fun j hj hn => ?_, fun hn => ?_⟩, ⟨⟨ys, ho⟩, ?_⟩⟩
  · refine (kk.block b (Nat.lt_of_lt_of_le hb h.kept.size) fun z => ?_).trans (h.kept.block b hb hs)
    rcases G.from_ with hf | hf
    · exact hs (hS i b hi (hf ▸ z))
    · have := (hf b z).1
      omega
  · obtain ⟨c, h1, h2⟩ := h.blk
    refine ⟨c, pp.same_ h1 fun e => ?_, h2⟩
    obtain ⟨c', hc'⟩ := blk ab e.symm
    rw [h1] at hc'
    simp at hc'
  · obtain ⟨xs, h3, h4⟩ := h.done j hj hn
    exact ⟨xs, row j xs hn h3, h4⟩
  · obtain ⟨xs, h3, h4⟩ := h.todo j hj hn
    exact ⟨xs, row j xs hn h3, fun q hq => by obtain ⟨lv, h6, h7⟩ := h4 q hq; exact ⟨lv, h6, h7.shp pp.shp⟩⟩
  · obtain ⟨xs, h3, h4, h5⟩ := h.row hn
    exact ⟨xs, row (i + 1) xs hn h3, fun q hq => by omega, fun q hq hl => by obtain ⟨lv, h6, h7⟩ := h5 q hq hl; exact ⟨lv, h6, h7.shp pp.shp⟩⟩
  · rcases hv with hv | hv
    · rw [hv]; exact G.from_
    · refine .inr fun b hb => ⟨Nat.le_trans h.kept.size (hv b hb), fun j hj z => ?_⟩
      obtain ⟨xs, hx⟩ := h.ownAt hj
      have := (own_lt hx z).2.1
      have := hv b hb
      omega
theorem Wk.app {v : Value} {m n0 b0 : Nat} {xs : List Value} (hown : w.ownsRow b0 2 1 v n0 xs) (kk : Kept (fun b => v.ownBlock = some b) w w') (pp : Pre v.ownBlock m w w') : Wk (fun b => v.ownBlock = some b) w w' :=
  ⟨kk.n, pp.shp, fun b c t h1 h2 hb => pp.same_ hb fun e => by
    obtain ⟨-, -, c', hc'⟩ := own_lt hown e.symm
    unfold Blk at hc'
    rw [hb] at hc'
    simp only [Option.some.injEq, Obj.cells.injEq] at hc'
    exact h1 hc'.2.1⟩
theorem Wk.later {S' : Nat → Prop} {w'' : World} (h : Wk S w w') (k : Wk S' w' w'') (hS : ∀ b, S' b → S b ∨ w.heap.size ≤ b) : Wk S w w'' :=
  ⟨⟨Nat.le_trans h.kept.size k.kept.size, fun b hb hs => (k.kept.block b (Nat.lt_of_lt_of_le hb h.kept.size) fun z => by
    rcases hS b z with y | y
    · exact hs y
    · omega).trans (h.kept.block b hb hs), k.kept.io.1.trans h.kept.io.1, k.kept.io.2.trans h.kept.io.2⟩, h.shp.trans k.shp, fun b c t h1 h2 hb => k.num b c t h1 h2 (h.num b c t h1 h2 hb)⟩
end
end Go.Proofs.Yteainbnoemkfcaa
namespace Go.Proofs.Yteainbnoemkfcaa
open Go.RowKit Go.Turn Go.Tame Go.Conc
section
variable {W w : World} {s o : Scr} {v5 v6 v7 : Value} {b2 b3 b9 b10 : Nat} {Bb Sa : Nat → Prop} {ab ab' : Nat} {ov tv ov' tv' : Value} {rw_ : Nat → Value} {ln : Nat → Nat}
theorem AnK.cellAb {u wr : World} {n i k : Nat} (h : AnK u ab n Sa rw_ ln i k wr) {j : Nat} (hj : j < n) : wr.cell? ⟨ab, j, none⟩ = some (rw_ j) := by
  obtain ⟨c, h1, h2⟩ := h.blk
  rw [cell_of_row wr ab j c _ (0, 0) h1]
  exact h2 j hj
theorem cell_appN (w : World) (cs : Array Value) (t : TypeId) : ∀ a, some (⟨w.heap.size, 0, none⟩ : Addr) = some a → ∀ (j : Nat) (u : Value), cs.toList[j]? = some u → (w.alloc (.cells cs t)).cell? (a.add j) = some u := fun a ha j u hu => by
  cases ha
  rw [show (⟨w.heap.size, 0, none⟩ : Addr).add j = ⟨w.heap.size, j, none⟩ from by unfold Addr.add; by_cases h4 : j = 0 <;> simp [h4], (Blk.new w t cs).cell j]
  simpa using hu
theorem Grow.same {u w w' : World} {n i m : Nat} {v : Value} (h : Grow u w n rw_ i m v) (k : Kept (fun _ => False) w w') : Grow u w' n rw_ i m v := by
  obtain ⟨ys, ho⟩ := h.own
  exact ⟨⟨ys, own_kept ho k (fun _ _ z => z)⟩, h.from_⟩
set_option maxHeartbeats 4000000 in
set_option maxRecDepth 100000 in
theorem keeps_11 (tm : Array Value) (hsz : tm.size = 301) (h2 : tm[2]? = some (.pointer (some ⟨b2, 0, none⟩))) (h3 : tm[3]? = some (.pointer (some ⟨b3, 0, none⟩))) (h5 : tm[5]? = some v5) (h6 : tm[6]? = some v6) (h9 : tm[9]? = some (.pointer (some ⟨b9, 0, none⟩))) (h10 : tm[10]? = some (.pointer (some ⟨b10, 0, none⟩))) (M : Mid3 W s o v5 v6 v7 b2 b3 b9 b10 Sa Bb ab ab' ov tv ov' tv' rw_ ln w) (next : ∀ (tm : Array Value) (w' : World), tm.size = 301 → tm[2]? = some (.pointer (some ⟨b2, 0, none⟩)) → tm[3]? = some (.pointer (some ⟨b3, 0, none⟩)) → tm[5]? = some v5 → tm[6]? = some v6 → tm[9]? = some (.pointer (some ⟨b9, 0, none⟩)) → tm[10]? = some (.pointer (some ⟨b10, 0, none⟩)) → KptX W Sa w w' → (∃ u, AnK u ab (min s.nt 64) Sa rw_ ln (min s.nt 64) 0 w') → KpT W 12 tm w') : KpT W 11 tm w := by
  have hs : ¬ (lgA Try.tame (PostT (.bool true) W) W).strict := fun h => h
  obtain ⟨f, rfl⟩ := lit301 tm hsz
  replace h2 : f 2 = .pointer (some ⟨b2, 0, none⟩) := by simpa using h2
  replace h3 : f 3 = .pointer (some ⟨b3, 0, none⟩) := by simpa using h3
  replace h5 : f 5 = v5 := by simpa using h5
  replace h6 : f 6 = v6 := by simpa using h6
  replace h9 : f 9 = .pointer (some ⟨b9, 0, none⟩) := by simpa using h9
  replace h10 : f 10 = .pointer (some ⟨b10, 0, none⟩) := by simpa using h10
  rw [h2, h3, h5, h6, h9, h10]
  clear h2 h3 h5 h6 h9 h10 hsz
  unfold KpT
  simp only [tailC, Try.f7, Option.getD_some]
  refine Lg.move _ (fun _ _ => step_seq) (fun h => h) ?_
  refine Lg.code fun K hK u τ n' hy => ?_
  subst hy
  have HM := Lib.hid M.re
  clear M
  obtain ⟨n, hn⟩ : ∃ n, min s.nt 64 = n := ⟨_, rfl⟩
  have hn64 : n ≤ 64 := by omega
  have hans : AnsR u ab n Sa rw_ ln := hn ▸ HM.out.ans
  have HN := Lib.hid hn
  have HA := Lib.hid hans
  clear hn hans
  go_wp2
  go_loopw [15] (fun q wr => ∃ i : Nat, i ≤ n ∧ q = .int .i64 i ∧ AnK u ab n Sa rw_ ln i 0 wr) (fun q _ => n - (intOf q).toNat)
  case atStart => exact ⟨0, Nat.zero_le _, rfl, HA.out.start⟩
  case round =>
    obtain ⟨i, hi, rfl, hK1⟩ := hrel
    have c9 : wr.cell? ⟨b9, 0, none⟩ = some (.slice (some ⟨ab, 0, none⟩) n n) := by
      have := (HM.out.kb wr (hK1).kept.x).2.1.cell 0
      simp only [trC, List.getElem?_toArray, List.getElem?_cons_zero] at this
      rw [HN.out] at this
      exact this
    by_cases hlt : i < n
    · have HK1 := Lib.hid hK1
      obtain ⟨xs0, hx0⟩ := hK1.ownAt hlt
      obtain ⟨er, lr, mr, nr, zr, -⟩ := own_parts hx0
      have hl6 := HA.out.le i hlt
      generalize hcr : slC (rw_ i) = cr at *
      generalize hAr : slA (rw_ i) = Ar at *
      have HR := Lib.hid (And.intro er zr)
      generalize hL : ln i = L at *
      have HL := Lib.hid hL
      clear hK1 hx0 er lr mr nr zr hcr hAr hL
      go_wp2
      rename World => wq
      go_loopw [16] (fun q wr => ∃ k : Nat, k ≤ L ∧ q = .int .i64 k ∧ AnK u ab n Sa rw_ ln i k wr) (fun q _ => L - (intOf q).toNat)
      case atStart => exact ⟨0, Nat.zero_le _, rfl, HK1.out⟩
      case round =>
        obtain ⟨k, hk, rfl, hK2⟩ := hrel
        clear c9
        have c9 : wr.cell? ⟨b9, 0, none⟩ = some (.slice (some ⟨ab, 0, none⟩) n n) := by
          have := (HM.out.kb wr (hK2).kept.x).2.1.cell 0
          simp only [trC, List.getElem?_toArray, List.getElem?_cons_zero] at this
          rw [HN.out] at this
          exact this
        have cab := hK2.cellAb hlt
        rw [HR.out.1] at cab
        by_cases hkl : k < L
        · obtain ⟨gr, hgr⟩ := HR.out.2 (by omega)
          subst hgr
          obtain ⟨xs, hx, -, hls⟩ := hK2.row hlt
          obtain ⟨lv, hlv, m, ys, hm6, hown, hbS⟩ := hls k (Nat.le_refl _) (by rw [HL.out]; exact hkl)
          obtain ⟨lA, lc, rfl⟩ := own_slice hown
          obtain ⟨-, -, -, -, zl, -⟩ := own_parts hown
          simp only [slA] at zl
          rw [HR.out.1, HL.out] at hx
          have cl := own_cell hx hlv
          have HX := Lib.hid (And.intro hx hlv)
          have HO := Lib.hid (And.intro hown (And.intro hbS zl))
          have HK2 := Lib.hid hK2
          clear hx hls hlv hown hbS zl hK2
          go_wp2
          rename World => wk
          go_loopw [17] (fun q wr => ∃ j : Nat, j ≤ m ∧ q = .int .i64 j ∧ Wk Sa wk wr) (fun q _ => m - (intOf q).toNat)
          case atStart => exact ⟨0, Nat.zero_le _, rfl, Wk.refl _ _⟩
          case round =>
            obtain ⟨j, hj, rfl, hw⟩ := hrel
            clear c9 cab cl
            have hK3 := HK2.out.wk hw
            have c9 : wr.cell? ⟨b9, 0, none⟩ = some (.slice (some ⟨ab, 0, none⟩) n n) := by
              have := (HM.out.kb wr (hK3).kept.x).2.1.cell 0
              simp only [trC, List.getElem?_toArray, List.getElem?_cons_zero] at this
              rw [HN.out] at this
              exact this
            have cab := hK3.cellAb hlt
            rw [HR.out.1] at cab
            have cl := own_cell (hw.own HX.out.1 (by decide) (by decide)) HX.out.2
            by_cases hjm : j < m
            · obtain ⟨gl, hgl⟩ := HO.out.2.2 (by omega)
              subst hgl
              obtain ⟨zs, hz⟩ := own_shp HO.out.1 hw.shp
              obtain ⟨-, -, cs, hcs⟩ := own_lt hz (b := gl) rfl
              have hc := hz.cellAt j (by omega)
              obtain ⟨x, hx⟩ : ∃ x, zs[j]? = some x := ⟨_, List.getElem?_eq_getElem (by rw [hz.1]; omega)⟩
              rw [hx] at hc
              have hfz := hz.frozenAt j
              have HH := Lib.hid (hw.trans (Wk.setCell (i := j) (.int .i64 (-3)) (HO.out.2.1 gl rfl) hcs (.inl rfl)))
              clear hw hK3 hz hcs hx
              go_wp2
              go_roundw
              case rel => exact ⟨j + 1, by omega, by go_num, HH.out⟩
              case measure => simp [intOf]; omega
            · have ej : j = m := by omega
              subst ej
              obtain ⟨zs, hz⟩ := own_shp HO.out.1 hw.shp
              obtain ⟨i0, hi0, hz0, hz1, hz2⟩ := info_parts Try.info64
              have HZ := Lib.hid hz
              have HW := Lib.hid hw
              clear hw hK3 hz
              go_wp2_with (at_builtin; refine wpList_app _ rfl _ _ 22 rfl 0 2 i0 (.int .i64 0) 1 8 Try.underlying22 hi0 hz0 hz1 hz2 rfl (by decide) _ _ _ rfl (HZ.out.alloc _) (some ⟨wr.heap.size, 0, none⟩) 1 1 rfl (fun h => by cases h) (Nat.le_refl _) [.int .i64 (-4)] (by simp) (cell_app1 _ _ _) (ints_one [-4]) (by unfold maxLen; omega) (by omega) (by simp) ?_)
              intro v1 w1 h1 k1 p1 ob1 ne1
              obtain ⟨A1, cc1, rfl⟩ := own_slice h1
              have W1 : Wk Sa wk w1 := (HW.out.trans (Wk.same (Kept.alloc wr _))).later (Wk.app (HZ.out.alloc _) k1 p1) fun b hb => .inl (HO.out.2.1 b hb)
              have HW1 := Lib.hid (And.intro W1 (And.intro h1 ob1))
              have hsz1 : wk.heap.size ≤ wr.heap.size := HW.out.kept.size
              clear W1 h1 k1 p1 ob1 ne1 HW HZ cl cab c9
              go_wp2_with (at_builtin; refine wpList_app _ rfl _ _ 22 rfl 0 2 i0 (.int .i64 0) 1 8 Try.underlying22 hi0 hz0 hz1 hz2 rfl (by decide) _ _ _ rfl (HW1.out.2.1.alloc _) (some ⟨w1.heap.size, 0, none⟩) 1 1 rfl (fun h => by cases h) (Nat.le_refl _) [.int .i64 (-4)] (by simp) (cell_app1 _ _ _) (ints_one [-4]) (by unfold maxLen; omega) (by omega) (by simp) ?_)
              intro v2 w2 h2 k2 p2 ob2 ne2
              obtain ⟨A2, cc2, rfl⟩ := own_slice h2
              have W2 : Wk Sa wk w2 := (HW1.out.1.trans (Wk.same (Kept.alloc w1 _))).later (Wk.app (HW1.out.2.1.alloc _) k2 p2) fun b hb => by
                rcases HW1.out.2.2 with e | e
                · exact .inl (HO.out.2.1 b (e ▸ hb))
                · have := e b hb
                  exact .inr (by omega)
              have hK4 := HK2.out.wk W2
              have c9 : w2.cell? ⟨b9, 0, none⟩ = some (.slice (some ⟨ab, 0, none⟩) n n) := by
                have := (HM.out.kb w2 (hK4).kept.x).2.1.cell 0
                simp only [trC, List.getElem?_toArray, List.getElem?_cons_zero] at this
                rw [HN.out] at this
                exact this
              have cab := hK4.cellAb hlt
              rw [HR.out.1] at cab
              have hx2 := W2.own HX.out.1 (by decide) (by decide)
              have hxl := hx2.1
              have a0 := hx2.cellAt (k * 3) (by omega)
              have a1 := hx2.cellAt (k * 3 + 1) (by omega)
              have a2 := hx2.cellAt (k * 3 + 2) (by omega)
              obtain ⟨x0, e0⟩ : ∃ x, xs[k * 3]? = some x := ⟨_, List.getElem?_eq_getElem (by omega)⟩
              obtain ⟨x1, e1⟩ : ∃ x, xs[k * 3 + 1]? = some x := ⟨_, List.getElem?_eq_getElem (by omega)⟩
              obtain ⟨x2, e2⟩ : ∃ x, xs[k * 3 + 2]? = some x := ⟨_, List.getElem?_eq_getElem (by omega)⟩
              rw [e0] at a0
              rw [e1] at a1
              rw [e2] at a2
              have z0 := hx2.frozenAt (k * 3)
              have z1 := hx2.frozenAt (k * 3 + 1)
              have z2 := hx2.frozenAt (k * 3 + 2)
              have HK4 := Lib.hid hK4
              clear h2 k2 p2 ob2 ne2 W2 hK4 hx2 hxl e0 e1 e2 HW1 hsz1 hi0 hz0 hz1 hz2 i0
              go_wp2
              go_roundw
              case rel => exact ⟨k + 1, by omega, by go_num, HK4.out.put hlt (HR.out.1.trans (by rw [HL.out])) (HA.out.own i hlt gr (by rw [HR.out.1]; rfl)) (fun j b hj hb e => HA.out.ne j i b hj hlt hb (by rw [HR.out.1, e]; rfl)) (by rw [HL.out]; exact hkl) _ _⟩
              case measure => simp [intOf]; omega
        · have ek : k = L := by omega
          subst ek
          have HK3 := Lib.hid (hK2.next (by rw [HL.out]; exact Nat.le_refl _))
          obtain ⟨xr, hxr⟩ := hK2.ownAt hlt
          have hg : Grow u wr n rw_ i k (.slice Ar k cr) := by
            rw [HR.out.1, HL.out] at hxr
            exact ⟨⟨xr, hxr⟩, .inl (by rw [HR.out.1])⟩
          have HG := Lib.hid hg
          clear hxr hg hK2
          go_wp2
          clear cab c9
          rename World => wl
          go_loopw [19, 20] (fun v q wr => ∃ kk : Nat, kk ≤ 8 ∧ q = .int .i64 kk ∧ AnK u ab n Sa rw_ ln (i + 1) 0 wr ∧ Grow u wr n rw_ i (k + kk) v) (fun _ q _ => 8 - (intOf q).toNat)
          case atStart => exact ⟨0, by omega, rfl, HK3.out, HG.out⟩
          case round =>
            obtain ⟨kk, hkk, rfl, hA1, hG1⟩ := hrel
            by_cases hk8 : kk < 8
            · obtain ⟨ys, ho⟩ := hG1.own
              obtain ⟨vA, vc, rfl⟩ := own_slice ho
              obtain ⟨i0, hi0, hz0, hz1, hz2⟩ := info_parts Try.infoAns
              have HO := Lib.hid ho
              have HA1 := Lib.hid (And.intro hA1 hG1)
              clear ho hA1 hG1
              go_wp2_with (at_builtin; refine wpList_app _ rfl _ _ 44 rfl 0 46 i0 (.agg #[.bool false, .int .i64 0, .slice none 0 0]) 3 40 Try.underlying44 hi0 hz0 hz1 hz2 rfl (by decide) _ _ _ rfl (HO.out.alloc _) (some ⟨wr.heap.size, 0, none⟩) 1 1 rfl (fun h => by cases h) (Nat.le_refl _) [.bool false, .int .i64 (-2), .slice none 0 0] (by simp) (cell_appN _ #[.bool false, .int .i64 (-2), .slice none 0 0] _) (by simp [Value.oneCell']) (by unfold maxLen; omega) (by omega) (by simp) ?_)
              intro v1 w1 h1 k1 p1 ob1 ne1
              have hal : Kept (fun _ => False) wr (wr.alloc (.cells #[.bool false, .int .i64 (-2), .slice none 0 0] 46)) := Kept.alloc _ _
              have hgr := (HA1.out.1.wk (Wk.same hal)).grow (HA1.out.2.same hal) hlt (by rw [HL.out]; omega) (fun j b hj hb => HA.out.own j hj b hb) (fun j b hj hb hb' => HA.out.ne j i b hj hlt hb hb') k1 p1 h1 (ob1.imp id fun h b hb => by have := h b hb; simp; omega)
              have HH := Lib.hid hgr
              clear h1 k1 p1 ob1 ne1 hal hgr HO HA1 hi0 hz0 hz1 hz2 i0
              go_wp2
              go_roundw
              case rel => exact ⟨kk + 1, by omega, by go_num, HH.out⟩
              case measure => simp [intOf]; omega
            · have HH := Lib.hid hA1
              clear hA1 hG1
              go_wp2
              go_roundw
              case rel => exact ⟨i + 1, by omega, by go_num, HH.out⟩
              case measure => simp [intOf]; omega
    · have ei : i = n := by omega
      subst ei
      have HH := Lib.hid hK1
      clear hK1
      go_wp2
      refine hK _ _ (fun h => absurd h hs) ?_
      exact next _ _ rfl rfl rfl rfl rfl rfl rfl HH.out.kept.er.x ⟨u, by rw [HN.out]; exact HH.out⟩
end
end Go.Proofs.Yteainbnoemkfcaa
namespace Go.Proofs.Yteainbnoemkfcaa
open Go.RowKit Go.Turn Go.Tame Go.Conc
structure Mid4 (W : World) (s o : Scr) (v5 v6 v7 : Value) (b2 b3 b10 : Nat) (Bb : Nat → Prop) (ab' : Nat) (ov' tv' : Value) (w : World) : Prop where
  kp : Kp0 W s o v5 v6 v7 b2 b3 w
  b10 : Blk w b10 31 (trC ab' (min s.nt 64) ov' tv' s.run)
  tb : TrA W w (min s.nt 64) s.run (rnOf s.ss) Bb ab' ov' tv'
section
variable {W w : World} {s o : Scr} {v5 v6 v7 : Value} {b2 b3 b9 b10 : Nat} {Bb Sa : Nat → Prop} {ab ab' : Nat} {ov tv ov' tv' : Value} {rw_ : Nat → Value} {ln : Nat → Nat}
theorem Mid4.kpt {w1 : World} (M : Mid4 W s o v5 v6 v7 b2 b3 b10 Bb ab' ov' tv' w) (k : Kpt W w w1) : Mid4 W s o v5 v6 v7 b2 b3 b10 Bb ab' ov' tv' w1 :=
  ⟨⟨M.kp.kb.kpt k, (Kpt.x (Sa := fun _ => False) k).own M.kp.o5 fun _ _ z => z, (Kpt.x (Sa := fun _ => False) k).own M.kp.o6 fun _ _ z => z⟩, (Kpt.x (Sa := fun _ => False) k).blk M.b10 id, M.tb.kpt k⟩
theorem Mid4.re {y : World} {τ : Nat → Question → Nat} {n : Nat} (M : Mid4 W s o v5 v6 v7 b2 b3 b10 Bb ab' ov' tv' (y.re τ n)) : Mid4 W s o v5 v6 v7 b2 b3 b10 Bb ab' ov' tv' y :=
  M.kpt (w1 := y) ⟨Nat.le_refl _, fun _ _ _ _ _ h => h, rfl, rfl⟩
theorem Mid4.kept {w1 : World} (M : Mid4 W s o v5 v6 v7 b2 b3 b10 Bb ab' ov' tv' w) (k : Kept (fun _ => False) w w1) : Mid4 W s o v5 v6 v7 b2 b3 b10 Bb ab' ov' tv' w1 :=
  M.kpt ⟨k.size, fun b c t r _ hb => (k.block b (lt_of_some hb) id).trans hb, k.os, k.output⟩
theorem AnK.cellA2 {u wr : World} {n i k : Nat} (h : AnK u ab n Sa rw_ ln i k wr) {j : Nat} (hj : j < n) : wr.cell? ⟨ab, j, none⟩ = some (rw_ j) := by
  obtain ⟨c, h1, h2⟩ := h.blk
  rw [cell_of_row wr ab j c _ (0, 0) h1]
  exact h2 j hj
theorem AnK.re {y u : World} {n i k : Nat} {τ : Nat → Question → Nat} {d : Nat} (h : AnK u ab n Sa rw_ ln i k (y.re τ d)) : AnK u ab n Sa rw_ ln i k y :=
  h.wk (w' := y) ⟨⟨Nat.le_refl _, fun _ _ _ => rfl, rfl, rfl⟩, fun b c t h => ⟨c, h, rfl⟩, fun _ _ _ _ _ h => h⟩
set_option maxHeartbeats 4000000 in
set_option maxRecDepth 100000 in
theorem keeps_12 (tm : Array Value) (hsz : tm.size = 301) (h2 : tm[2]? = some (.pointer (some ⟨b2, 0, none⟩))) (h3 : tm[3]? = some (.pointer (some ⟨b3, 0, none⟩))) (h5 : tm[5]? = some v5) (h6 : tm[6]? = some v6) (h9 : tm[9]? = some (.pointer (some ⟨b9, 0, none⟩))) (h10 : tm[10]? = some (.pointer (some ⟨b10, 0, none⟩))) (M : Mid4 W s o v5 v6 v7 b2 b3 b10 Bb ab' ov' tv' w) (h99 : Blk w b9 31 (trC ab (min s.nt 64) ov tv s.run)) (hAn : ∃ u, AnK u ab (min s.nt 64) Sa rw_ ln (min s.nt 64) 0 w)
    (hle : ∀ i, i < min s.nt 64 → ln i ≤ 65536) (next : ∀ (tm : Array Value) (w' : World), tm.size = 301 → tm[2]? = some (.pointer (some ⟨b2, 0, none⟩)) → tm[3]? = some (.pointer (some ⟨b3, 0, none⟩)) → tm[5]? = some v5 → tm[6]? = some v6 → tm[9]? = some (.pointer (some ⟨b9, 0, none⟩)) → tm[10]? = some (.pointer (some ⟨b10, 0, none⟩)) → Mid4 W s o v5 v6 v7 b2 b3 b10 Bb ab' ov' tv' w' → KpT W 13 tm w') : KpT W 12 tm w := by
  obtain ⟨u0, hAn⟩ := hAn
  have hs : ¬ (lgA Try.tame (PostT (.bool true) W) W).strict := fun h => h
  obtain ⟨f, rfl⟩ := lit301 tm hsz
  replace h2 : f 2 = .pointer (some ⟨b2, 0, none⟩) := by simpa using h2
  replace h3 : f 3 = .pointer (some ⟨b3, 0, none⟩) := by simpa using h3
  replace h5 : f 5 = v5 := by simpa using h5
  replace h6 : f 6 = v6 := by simpa using h6
  replace h9 : f 9 = .pointer (some ⟨b9, 0, none⟩) := by simpa using h9
  replace h10 : f 10 = .pointer (some ⟨b10, 0, none⟩) := by simpa using h10
  rw [h2, h3, h5, h6, h9, h10]
  clear h2 h3 h5 h6 h9 h10 hsz
  unfold KpT
  simp only [tailC, Try.f7, Option.getD_some]
  refine Lg.move _ (fun _ _ => step_seq) (fun h => h) ?_
  refine Lg.code fun K hK u τ n' hy => ?_
  subst hy
  have HM := Lib.hid M.re
  clear M
  have hAn := hAn.re
  have h99 : Blk u b9 31 (trC ab (min s.nt 64) ov tv s.run) := h99
  obtain ⟨n, hn⟩ : ∃ n, min s.nt 64 = n := ⟨_, rfl⟩
  rw [hn] at hAn h99 hle
  have hn64 : n ≤ 64 := by omega
  have c9 := h99.cell 0
  simp only [trC, List.getElem?_toArray, List.getElem?_cons_zero] at c9
  have HA := Lib.hid hAn
  have HL := Lib.hid hle
  clear hn hAn h99 hle
  go_wp2
  go_loopw [21] (fun q wr => ∃ i : Nat, i ≤ n ∧ q = .int .i64 i ∧ wr = u) (fun q _ => n - (intOf q).toNat)
  case atStart => exact ⟨0, Nat.zero_le _, rfl, rfl⟩
  case round =>
    obtain ⟨i, hi, rfl, rfl⟩ := hrel
    by_cases hlt : i < n
    · obtain ⟨xs, hx, hxs⟩ := HA.out.done i hlt hlt
      obtain ⟨er, lr, mr, nr, zr, -⟩ := own_parts hx
      have hl6 := HL.out i hlt
      have cab := HA.out.cellA2 hlt
      generalize hcr : slC (rw_ i) = cr at *
      generalize hAr : slA (rw_ i) = Ar at *
      generalize hL : ln i = L at *
      rw [er] at cab hx
      have HX := Lib.hid (And.intro hx (And.intro hxs zr))
      clear hx hxs er lr mr nr zr hcr hAr hL
      go_wp2
      rename World => wq
      go_loopw [22] (fun q wr => ∃ k : Nat, k ≤ L ∧ q = .int .i64 k ∧ wr = wq) (fun q _ => L - (intOf q).toNat)
      case atStart => exact ⟨0, Nat.zero_le _, rfl, rfl⟩
      case round =>
        obtain ⟨k, hk, rfl, rfl⟩ := hrel
        by_cases hkl : k < L
        · obtain ⟨gr, hgr⟩ := HX.out.2.2 (by omega)
          subst hgr
          have cr1 := own_cell HX.out.1 (HX.out.2.1 k hkl)
          go_wp2
          go_roundw
          case rel => exact ⟨k + 1, by omega, by go_num, trivial⟩
          case measure => simp [intOf]; omega
        · have ek : k = L := by omega
          subst ek
          go_wp2
          go_roundw
          case rel => exact ⟨i + 1, by omega, by go_num, trivial⟩
          case measure => simp [intOf]; omega
    · go_wp2
      refine hK _ _ (fun h => absurd h hs) ?_
      exact next _ _ rfl rfl rfl rfl rfl rfl rfl HM.out
end
end Go.Proofs.Yteainbnoemkfcaa
namespace Go.Proofs.Yteainbnoemkfcaa
open Go.RowKit Go.Turn Go.Tame Go.Conc
section
variable {W w : World} {s o : Scr} {v5 v6 v7 : Value} {b2 b3 b9 b10 : Nat} {Bb Sa : Nat → Prop} {ab ab' : Nat} {ov tv ov' tv' : Value}
set_option maxHeartbeats 4000000 in
set_option maxRecDepth 100000 in
theorem keeps_13 (tm : Array Value) (hsz : tm.size = 301) (h2 : tm[2]? = some (.pointer (some ⟨b2, 0, none⟩))) (h3 : tm[3]? = some (.pointer (some ⟨b3, 0, none⟩))) (h5 : tm[5]? = some v5) (h6 : tm[6]? = some v6) (h9 : tm[9]? = some (.pointer (some ⟨b9, 0, none⟩))) (h10 : tm[10]? = some (.pointer (some ⟨b10, 0, none⟩))) (M : Mid4 W s o v5 v6 v7 b2 b3 b10 Bb ab' ov' tv' w) (next : ∀ (tm : Array Value) (w' : World), tm.size = 301 → tm[2]? = some (.pointer (some ⟨b2, 0, none⟩)) → tm[3]? = some (.pointer (some ⟨b3, 0, none⟩)) → tm[5]? = some v5 → tm[6]? = some v6 → tm[9]? = some (.pointer (some ⟨b9, 0, none⟩)) → tm[10]? = some (.pointer (some ⟨b10, 0, none⟩)) → Mid4 W s o v5 v6 v7 b2 b3 b10 Bb ab' ov' tv' w' → KpT W 14 tm w') : KpT W 13 tm w := by
  have hs : ¬ (lgA Try.tame (PostT (.bool true) W) W).strict := fun h => h
  obtain ⟨f, rfl⟩ := lit301 tm hsz
  replace h2 : f 2 = .pointer (some ⟨b2, 0, none⟩) := by simpa using h2
  replace h3 : f 3 = .pointer (some ⟨b3, 0, none⟩) := by simpa using h3
  replace h5 : f 5 = v5 := by simpa using h5
  replace h6 : f 6 = v6 := by simpa using h6
  replace h9 : f 9 = .pointer (some ⟨b9, 0, none⟩) := by simpa using h9
  replace h10 : f 10 = .pointer (some ⟨b10, 0, none⟩) := by simpa using h10
  rw [h2, h3, h5, h6, h9, h10]
  clear h2 h3 h5 h6 h9 h10 hsz
  unfold KpT
  simp only [tailC, Try.f7, Option.getD_some]
  refine Lg.move _ (fun _ _ => step_seq) (fun h => h) ?_
  have HM := Lib.hid M
  clear M
  refine Lg.move _ (fun _ _ => step_region) (fun h => h) ?_
  refine Lg.pre 0 8 1 (by simp) fun K hK z τ n' hz => ?_
  subst hz
  have HM1 := Lib.hid HM.out.re
  clear HM
  obtain ⟨c0, c1, c2, c3⟩ := HM1.out.kp.kb.cells.2
  simp only [List.drop_zero, List.take_succ_cons, List.take_zero]
  go_wp2
  refine hK _ _ (fun h => absurd h hs) ?_
  clear hK K c0 c1 c2 c3
  have hk1 := HM1.out.kp.kb
  refine Lg.call (i := 8) (rest := []) (f := 10) (args := #[.slice o.qA o.ss.length o.qc, .slice o.tA o.nt o.cp, .slice o.sA o.xs.length o.sc, .int .i64 o.most]) rfl rfl (fun y => by go_simp) (hk1.o_.play Try.tame (PostT (.bool true) W) hk1.size) ?_
  intro v t' w1 hpd
  have HM2 := Lib.hid (HM1.out.kpt ⟨hpd.size, hpd.near, hpd.io⟩)
  clear hpd hk1 HM1
  rw [Frame.finish_at]
  walk_nrm
  refine Lg.move _ (fun _ _ => step_region_end) (fun h => h) ?_
  exact next _ _ rfl rfl rfl rfl rfl rfl rfl HM2.out
set_option maxHeartbeats 4000000 in
set_option maxRecDepth 100000 in
theorem keeps_14 (tm : Array Value) (hsz : tm.size = 301) (h2 : tm[2]? = some (.pointer (some ⟨b2, 0, none⟩))) (h3 : tm[3]? = some (.pointer (some ⟨b3, 0, none⟩))) (h5 : tm[5]? = some v5) (h6 : tm[6]? = some v6) (h9 : tm[9]? = some (.pointer (some ⟨b9, 0, none⟩))) (h10 : tm[10]? = some (.pointer (some ⟨b10, 0, none⟩))) (M : Mid4 W s o v5 v6 v7 b2 b3 b10 Bb ab' ov' tv' w) (next : ∀ (tm : Array Value) (w' : World) (b23 : Nat) (Bc : Nat → Prop) (ac : Nat) (oc tc : Value), tm.size = 301 → tm[2]? = some (.pointer (some ⟨b2, 0, none⟩)) → tm[3]? = some (.pointer (some ⟨b3, 0, none⟩)) → tm[5]? = some v5 → tm[6]? = some v6 → tm[9]? = some (.pointer (some ⟨b9, 0, none⟩)) → tm[10]? = some (.pointer (some ⟨b10, 0, none⟩)) →
      tm[23]? = some (.pointer (some ⟨b23, 0, none⟩)) → Mid4 W s o v5 v6 v7 b2 b3 b10 Bb ab' ov' tv' w' → Blk w' b23 31 (trC ac (min s.nt 64) oc tc s.run) → TrA W w' (min s.nt 64) s.run (rnOf s.ss) Bc ac oc tc → KpT W 15 tm w') : KpT W 14 tm w := by
  have hs : ¬ (lgA Try.tame (PostT (.bool true) W) W).strict := fun h => h
  obtain ⟨f, rfl⟩ := lit301 tm hsz
  replace h2 : f 2 = .pointer (some ⟨b2, 0, none⟩) := by simpa using h2
  replace h3 : f 3 = .pointer (some ⟨b3, 0, none⟩) := by simpa using h3
  replace h5 : f 5 = v5 := by simpa using h5
  replace h6 : f 6 = v6 := by simpa using h6
  replace h9 : f 9 = .pointer (some ⟨b9, 0, none⟩) := by simpa using h9
  replace h10 : f 10 = .pointer (some ⟨b10, 0, none⟩) := by simpa using h10
  rw [h2, h3, h5, h6, h9, h10]
  clear h2 h3 h5 h6 h9 h10 hsz
  unfold KpT
  simp only [tailC, Try.f7, Option.getD_some]
  refine Lg.move _ (fun _ _ => step_seq) (fun h => h) ?_
  have HM := Lib.hid M
  clear M
  refine Lg.move _ (fun _ _ => step_region) (fun h => h) ?_
  refine Lg.pre 0 8 3 (by simp) fun K hK z τ n' hz => ?_
  subst hz
  have HM1 := Lib.hid HM.out.re
  clear HM
  obtain ⟨c0, c1, c2, c3⟩ := HM1.out.kp.kb.cells.1
  simp only [List.drop_zero, List.take_succ_cons, List.take_zero]
  go_wp2
  refine hK _ _ (fun h => absurd h hs) ?_
  clear hK K c0 c1 c2 c3
  have hk1 := HM1.out.kp.kb
  refine Lg.call (i := 8) (rest := [9, 10]) (f := 10) (args := #[.slice s.qA s.ss.length s.qc, .slice s.tA s.nt s.cp, .slice s.sA s.xs.length s.sc, .int .i64 s.most]) rfl rfl (fun y => by go_simp) (hk1.s_.play Try.tame (PostT (.bool true) W) hk1.size) ?_
  intro v t' w1 hpd
  have HM2 := Lib.hid (HM1.out.kpt ⟨hpd.size, hpd.near, hpd.io⟩)
  obtain ⟨ac, oc, tc, Bc, rfl, tb, av, k⟩ := hpd.tra hk1.size
  obtain ⟨oA, occ, rfl⟩ := own_slice tb.ov_
  obtain ⟨tA, tcc, rfl⟩ := own_slice tb.tv_
  have HT := Lib.hid tb
  clear hpd tb av k hk1 HM1
  unfold trV
  rw [Frame.finish_at]
  walk_nrm
  refine (show (lgA Try.tame (PostT (.bool true) W) W).T _ (Frame.at _ ⟨_, []⟩ (.inRegion _ (List.range' 9 (2 + 0)) :: _)) [] w1 from ?_)
  refine Lg.pre 9 2 0 (by simp) fun K hK q τ n' hq => ?_
  subst hq
  have HT2 : Hid (TrA W q _ _ _ _ _ _ _) := Lib.hid HT.out.re
  have HM3 := Lib.hid HM2.out.re
  clear HT HM2
  simp only [List.drop_succ_cons, List.drop_zero, List.take_succ_cons, List.take_zero]
  go_wp2
  refine hK _ _ (fun h => absurd h hs) ?_
  clear hK K
  refine Lg.move _ (fun _ _ => step_region_end) (fun h => h) ?_
  have hk : Kept (fun _ => False) q (q.alloc (.cells (trC ac (min s.nt 64) (.slice oA s.run.order.length occ) (.slice tA (rnOf s.ss + rnOf s.ss) tcc) s.run) 31)) := Kept.alloc _ _
  exact next _ _ q.heap.size Bc ac _ _ rfl rfl rfl rfl rfl rfl rfl rfl (HM3.out.kept hk) (Blk.new q 31 (trC ac (min s.nt 64) _ _ s.run)) (HT2.out.keep fun b hb => hk.block b (HT2.out.lt hb) id)
end
end Go.Proofs.Yteainbnoemkfcaa
namespace Go.Turn
section
variable {P : Program} {ops : Array Oper} {Q : Exit → Act → World → Prop} {S : World → Prop}
end
theorem wp_strict {P : Program} {c : Code} {Q : Exit → Act → World → Prop} {a : Act} {w : World} (h : c.wp P (fun e a' w' => e = .normal ∧ Q .normal a' w') a w) : c.wp P Q a w := wp_mono h (by rintro e a w ⟨rfl, h⟩; exact h)
end Go.Turn
namespace Go.Proofs.Yteainbnoemkfcaa
open Go.RowKit Go.Turn Go.Tame Go.Conc
theorem rdk {P : Program} {ops : Array Oper} {md : Region.Mode} {Q : Exit → Act → World → Prop} {S : World → Prop} {listed : Array Bool} {a : Act} {w : World} (i fuel : Nat) (d : Tmp)
    (h : ∃ o, ops[i]? = some o ∧ o.dst = some d ∧ Region.noSelect ops = true ∧ Region.free md ops listed i = true ∧ (Region.ready md ops listed).contains i = true ∧ (∀ c a w, ¬ Q (.panic c) a w) ∧ Region.wanted o (yielded ops a.tmps) = true ∧ S w ∧
      ∃ v, (∀ wq, S wq → (execOp a.eval o).run P wq = .ok (.value v) wq) ∧ wpAnyH P md ops Q S fuel (listed.setIfInBounds i true) (a.put (some d) v) w) : wpAnyH P md ops Q S (fuel + 1) listed a w := by
  obtain ⟨o, h1, h2, h3, h4, h5, h6, h7, h8, h9⟩ := h
  exact wpAnyH_read (some d) h1 h2 h3 h4 h5 h6 h7 h8 h9
theorem kcell {w w' : World} (hk : Kept (fun _ => False) w w') {b o : Nat} {v : Value} (h : w.cell? ⟨b, o, none⟩ = some v) : w'.cell? ⟨b, o, none⟩ = some v := (World.cell?_of_block (w := w) (a := ⟨b, o, none⟩) (hk.block b (lt_of_cell h) id)).trans h
theorem ints_own {w : World} {b0 : Nat} {e : TypeId} {g c : Nat} {xs : List Int} {x : Int} (h : w.ownsRow b0 e 1 (.slice (some ⟨g, 0, none⟩) (xs.length + 1) c) (xs.length + 1) ((xs ++ [x]).map (Value.int .i64))) : IntsAt w (.slice (some ⟨g, 0, none⟩) xs.length c) xs :=
  ⟨_, c, rfl, fun i hi => ⟨g, 0, rfl, (own_lt h (b := g) rfl).2.1, by rw [Nat.zero_add]; exact own_cell h (ints_get hi)⟩⟩
theorem last_own {w : World} {b0 : Nat} {e : TypeId} {g c : Nat} {xs : List Int} {x : Int} (h : w.ownsRow b0 e 1 (.slice (some ⟨g, 0, none⟩) (xs.length + 1) c) (xs.length + 1) ((xs ++ [x]).map (Value.int .i64))) : w.cell? ⟨g, xs.length, none⟩ = some (.int .i64 x) := own_cell h (by simp)
section
variable {W w : World} {s o : Scr} {v5 v6 v7 : Value} {b2 b3 b9 b10 b23 : Nat} {Bb Bc : Nat → Prop} {ac ab' : Nat} {oc tc ov' tv' : Value}
set_option maxHeartbeats 8000000 in
set_option maxRecDepth 100000 in
theorem keeps_15 (tm : Array Value) (hsz : tm.size = 301) (h2 : tm[2]? = some (.pointer (some ⟨b2, 0, none⟩))) (h3 : tm[3]? = some (.pointer (some ⟨b3, 0, none⟩))) (h5 : tm[5]? = some v5) (h6 : tm[6]? = some v6) (h9 : tm[9]? = some (.pointer (some ⟨b9, 0, none⟩))) (h10 : tm[10]? = some (.pointer (some ⟨b10, 0, none⟩))) (h23 : tm[23]? = some (.pointer (some ⟨b23, 0, none⟩))) (M : Mid4 W s o v5 v6 v7 b2 b3 b10 Bb ab' ov' tv' w) (B23 : Blk w b23 31 (trC ac (min s.nt 64) oc tc s.run)) (T23 : TrA W w (min s.nt 64) s.run (rnOf s.ss) Bc ac oc tc) : KpT W 15 tm w := by
  have hs : ¬ (lgA Try.tame (PostT (.bool true) W) W).strict := fun h => h
  obtain ⟨f, rfl⟩ := lit301 tm hsz
  replace h2 : f 2 = .pointer (some ⟨b2, 0, none⟩) := by simpa using h2
  replace h3 : f 3 = .pointer (some ⟨b3, 0, none⟩) := by simpa using h3
  replace h5 : f 5 = v5 := by simpa using h5
  replace h6 : f 6 = v6 := by simpa using h6
  replace h9 : f 9 = .pointer (some ⟨b9, 0, none⟩) := by simpa using h9
  replace h10 : f 10 = .pointer (some ⟨b10, 0, none⟩) := by simpa using h10
  rw [h2, h3, h5, h6, h9, h10]
  clear h2 h3 h5 h6 h9 h10 hsz
  unfold KpT
  simp only [tailC, Try.f7, Option.getD_some]
  have HM := Lib.hid M
  clear M
  replace h23 : f 23 = .pointer (some ⟨b23, 0, none⟩) := by simpa using h23
  rw [h23]
  clear h23
  refine lgA_rest Try.tame rfl Try.func7 (by kernel_rfl) (fun tm w v h w' => ?_) fun u τ2 n2 hu => ?_
  · simp [results, Try.f7] at h ⊢
    exact h
  subst hu
  have HM1 := Lib.hid HM.out.re
  have HB : Hid (Blk u b23 31 _) := Lib.hid B23
  have HT := Lib.hid T23.re
  clear HM B23 T23
  obtain ⟨e5, l5, m5, -, z5, -⟩ := own_parts HM1.out.kp.o5
  obtain ⟨e6, l6, m6, -, z6, -⟩ := own_parts HM1.out.kp.o6
  obtain ⟨g5, y5⟩ := z5 (by omega)
  obtain ⟨g6, y6⟩ := z6 (by omega)
  generalize slC v5 = c5 at *
  generalize slC v6 = c6 at *
  rw [y5] at e5
  rw [y6] at e6
  subst e5 e6
  obtain ⟨oA, occ, rfl⟩ := own_slice HT.out.ov_
  obtain ⟨tA, tcc, rfl⟩ := own_slice HT.out.tv_
  obtain ⟨oA', occ', rfl⟩ := own_slice HM1.out.tb.ov_
  obtain ⟨tA', tcc', rfl⟩ := own_slice HM1.out.tb.tv_
  clear y5 y6 z5 z6
  go_wp2_with fail
  rename_i K0 hK0
  have p1 := HM1.out.b10.cell 0
  have p2 := HM1.out.b10.cell 1
  have p3 := HM1.out.b10.cell 2
  have p4 := HM1.out.b10.cell 3
  have p5 := HB.out.cell 0
  have p6 := HB.out.cell 1
  have p7 := HB.out.cell 2
  have p8 := HB.out.cell 3
  simp only [trC, List.getElem?_toArray, List.getElem?_cons_zero, List.getElem?_cons_succ] at p1 p2 p3 p4 p5 p6 p7 p8
  have p9 := HM1.out.kp.kb.cells.1.1
  have p10 := HM1.out.kp.kb.cells.1.2.2.1
  have p11 := last_own HM1.out.kp.o5
  have p12 := last_own HM1.out.kp.o6
  have HS := Lib.hid (And.intro p1 (And.intro p2 (And.intro p3 (And.intro p4 (And.intro p5 (And.intro p6 (And.intro p7 (And.intro p8 (And.intro p9 (And.intro p10 (And.intro p11 p12)))))))))))
  clear p1 p2 p3 p4 p5 p6 p7 p8 p9 p10 p11 p12 HB
  have hq1 : (s.ss.length : Int) < (s.ss.length : Int) + 1 := by omega
  have hq2 : (s.xs.length : Int) < (s.xs.length : Int) + 1 := by omega
  have hq3 : (s.ss.length : Int) ≤ (c5 : Int) := by omega
  have hq4 : (s.xs.length : Int) ≤ (c6 : Int) := by omega
  have hq5 : s.ss.length ≤ c5 := by omega
  have hq6 : s.xs.length ≤ c6 := by omega
  have hx5 : s.ss.length ≤ maxLen := by omega
  have hx6 : s.xs.length ≤ maxLen := by omega
  have HL := Lib.hid (And.intro hx5 hx6)
  clear hx5 hx6 l5 m5 l6 m6
  refine wp_strict ?_
  refine wp_region_held (S := Kept (fun _ => False) u) (by kernel_rfl) ?_
  simp only [List.size_toArray, List.length_cons, List.length_nil, Nat.reduceAdd]
  have HW1 := Lib.hid (Kept.drew (S := fun _ => False) u)
  have HW1 : Hid (Kept (fun _ => False) u { u with drawn := u.drawn + 1 }) := HW1
  iterate 2
    first
    | refine rdk 0 41 260 ?_
    | refine rdk 1 40 261 ?_
    refine ⟨_, rfl, rfl, by kernel_rfl, by kernel_rfl, by kernel_rfl, (fun c a w h => by cases h.1), rfl, HW1.out, ?_⟩
    apply Exists.intro
    refine ⟨fun wq hw => ?_, ?_⟩
    · obtain ⟨h1, h2, h3, h4, h5, h6, h7, h8, h9, h10, h11, h12⟩ := HS.out
      have h1 := kcell hw h1
      have h2 := kcell hw h2
      have h3 := kcell hw h3
      have h4 := kcell hw h4
      have h5 := kcell hw h5
      have h6 := kcell hw h6
      have h7 := kcell hw h7
      have h8 := kcell hw h8
      have h9 := kcell hw h9
      have h10 := kcell hw h10
      have h11 := kcell hw h11
      have h12 := kcell hw h12
      go_simp
      try simp only [hq1, hq2, hq3, hq4, hq5, hq6, if_true, if_false]
      rfl
    simp only [Act.put, List.setIfInBounds_toArray, List.set_cons_zero, List.set_cons_succ]
  refine wpAnyH_one (i := 2) (fuel := 39) (by kernel_rfl) rfl rfl fun K hK' => ?_
  unfold Oper.wp
  go_simp
  refine (trace_eq _ (min s.nt 64) _ _ _ _ _ _ _ _ _ _ _ _ ((HM1.out.tb).keep fun b hb => HW1.out.block b (HM1.out.tb.lt hb) id).trace ((HT.out).keep fun b hb => HW1.out.block b (HT.out.lt hb) id).trace (by unfold maxLen; omega)).mono ?_
  rintro e wn1 ⟨rfl, hB⟩
  have HW2 : Hid (Kept (fun _ => False) u wn1) := Lib.hid (HW1.out.trans (Kept.of_below hB))
  dsimp only
  refine hK' _ _ HW2.out ?_
  clear hK' K hB HW1
  have HW1 := HW2
  clear HW2
  try simp only [Act.put, List.setIfInBounds_toArray, List.set_cons_zero, List.set_cons_succ]
  iterate 26
    first
    | refine rdk 3 38 263 ?_
    | refine rdk 4 37 264 ?_
    | refine rdk 5 36 265 ?_
    | refine rdk 6 35 266 ?_
    | refine rdk 7 34 267 ?_
    | refine rdk 8 33 268 ?_
    | refine rdk 9 32 269 ?_
    | refine rdk 10 31 270 ?_
    | refine rdk 11 30 271 ?_
    | refine rdk 12 29 272 ?_
    | refine rdk 13 28 273 ?_
    | refine rdk 14 27 274 ?_
    | refine rdk 15 26 275 ?_
    | refine rdk 16 25 276 ?_
    | refine rdk 17 24 277 ?_
    | refine rdk 18 23 278 ?_
    | refine rdk 19 22 279 ?_
    | refine rdk 20 21 280 ?_
    | refine rdk 21 20 281 ?_
    | refine rdk 22 19 282 ?_
    | refine rdk 23 18 283 ?_
    | refine rdk 24 17 284 ?_
    | refine rdk 25 16 285 ?_
    | refine rdk 26 15 286 ?_
    | refine rdk 27 14 287 ?_
    | refine rdk 28 13 288 ?_
    refine ⟨_, rfl, rfl, by kernel_rfl, by kernel_rfl, by kernel_rfl, (fun c a w h => by cases h.1), rfl, HW1.out, ?_⟩
    apply Exists.intro
    refine ⟨fun wq hw => ?_, ?_⟩
    · obtain ⟨h1, h2, h3, h4, h5, h6, h7, h8, h9, h10, h11, h12⟩ := HS.out
      have h1 := kcell hw h1
      have h2 := kcell hw h2
      have h3 := kcell hw h3
      have h4 := kcell hw h4
      have h5 := kcell hw h5
      have h6 := kcell hw h6
      have h7 := kcell hw h7
      have h8 := kcell hw h8
      have h9 := kcell hw h9
      have h10 := kcell hw h10
      have h11 := kcell hw h11
      have h12 := kcell hw h12
      go_simp
      try simp only [hq1, hq2, hq3, hq4, hq5, hq6, if_true, if_false]
      rfl
    simp only [Act.put, List.setIfInBounds_toArray, List.set_cons_zero, List.set_cons_succ]
  refine wpAnyH_one (i := 29) (fuel := 12) (by kernel_rfl) rfl rfl fun K hK' => ?_
  unfold Oper.wp
  go_simp
  refine (numbers_eq _ _ s.ss _ (ints_own (own_kept HM1.out.kp.o5 HW1.out (fun _ _ z => z))) ((ScrF.st HM1.out.kp.kb.s_).ints.kept HW1.out (fun _ _ _ _ h => h)) HL.out.1).mono ?_
  rintro e wn2 ⟨rfl, kd2, hkd2⟩
  have HW2 : Hid (Kept (fun _ => False) u wn2) := Lib.hid (hkd2 ▸ HW1.out.trans (Kept.drewN _ _ kd2))
  dsimp only
  refine hK' _ _ HW2.out ?_
  clear hK' K hkd2 HW1
  have HW1 := HW2
  clear HW2
  try simp only [Act.put, List.setIfInBounds_toArray, List.set_cons_zero, List.set_cons_succ]
  iterate 9
    first
    | refine rdk 30 11 290 ?_
    | refine rdk 31 10 291 ?_
    | refine rdk 32 9 292 ?_
    | refine rdk 33 8 293 ?_
    | refine rdk 34 7 294 ?_
    | refine rdk 35 6 295 ?_
    | refine rdk 36 5 296 ?_
    | refine rdk 37 4 297 ?_
    | refine rdk 38 3 298 ?_
    refine ⟨_, rfl, rfl, by kernel_rfl, by kernel_rfl, by kernel_rfl, (fun c a w h => by cases h.1), rfl, HW1.out, ?_⟩
    apply Exists.intro
    refine ⟨fun wq hw => ?_, ?_⟩
    · obtain ⟨h1, h2, h3, h4, h5, h6, h7, h8, h9, h10, h11, h12⟩ := HS.out
      have h1 := kcell hw h1
      have h2 := kcell hw h2
      have h3 := kcell hw h3
      have h4 := kcell hw h4
      have h5 := kcell hw h5
      have h6 := kcell hw h6
      have h7 := kcell hw h7
      have h8 := kcell hw h8
      have h9 := kcell hw h9
      have h10 := kcell hw h10
      have h11 := kcell hw h11
      have h12 := kcell hw h12
      go_simp
      try simp only [hq1, hq2, hq3, hq4, hq5, hq6, if_true, if_false]
      rfl
    simp only [Act.put, List.setIfInBounds_toArray, List.set_cons_zero, List.set_cons_succ]
  refine wpAnyH_one (i := 39) (fuel := 2) (by kernel_rfl) rfl rfl fun K hK' => ?_
  unfold Oper.wp
  go_simp
  refine (ints_eq _ _ s.xs _ (ints_own (own_kept HM1.out.kp.o6 HW1.out (fun _ _ z => z))) ((ScrF.sch HM1.out.kp.kb.s_).ints.kept HW1.out (fun _ _ _ _ h => h)) HL.out.2).mono ?_
  rintro e wn3 ⟨rfl, kd3, hkd3⟩
  have HW2 : Hid (Kept (fun _ => False) u wn3) := Lib.hid (hkd3 ▸ HW1.out.trans (Kept.drewN _ _ kd3))
  dsimp only
  refine hK' _ _ HW2.out ?_
  clear hK' K hkd3 HW1
  have HW1 := HW2
  clear HW2
  try simp only [Act.put, List.setIfInBounds_toArray, List.set_cons_zero, List.set_cons_succ]
  iterate 1
    first
    | refine rdk 40 1 300 ?_
    refine ⟨_, rfl, rfl, by kernel_rfl, by kernel_rfl, by kernel_rfl, (fun c a w h => by cases h.1), rfl, HW1.out, ?_⟩
    apply Exists.intro
    refine ⟨fun wq hw => ?_, ?_⟩
    · obtain ⟨h1, h2, h3, h4, h5, h6, h7, h8, h9, h10, h11, h12⟩ := HS.out
      have h1 := kcell hw h1
      have h2 := kcell hw h2
      have h3 := kcell hw h3
      have h4 := kcell hw h4
      have h5 := kcell hw h5
      have h6 := kcell hw h6
      have h7 := kcell hw h7
      have h8 := kcell hw h8
      have h9 := kcell hw h9
      have h10 := kcell hw h10
      have h11 := kcell hw h11
      have h12 := kcell hw h12
      go_simp
      try simp only [hq1, hq2, hq3, hq4, hq5, hq6, if_true, if_false]
      rfl
    simp only [Act.put, List.setIfInBounds_toArray, List.set_cons_zero, List.set_cons_succ]
  refine wpAnyH_one (i := 41) (fuel := 0) (by kernel_rfl) rfl rfl fun K hK' => ?_
  unfold Oper.wp
  go_simp
  refine hK' _ _ HW1.out ?_
  clear hK' K
  refine wpAnyH_done (by kernel_rfl) ⟨rfl, ?_⟩ _
  refine hK0 _ _ ?_
  clear hK0 K0
  go_wp2
  go_ret
  exact ⟨rfl, HW1.out.os.trans HM1.out.kp.kb.io.1, HW1.out.output.trans HM1.out.kp.kb.io.2⟩
end
end Go.Proofs.Yteainbnoemkfcaa
namespace Go.Proofs.Yteainbnoemkfcaa
open Go.RowKit Go.Turn Go.Tame Go.Conc
theorem keeps_true {W : World} {s o : Scr} (hsA : s.At W W) (hoA : o.At W W) :
    (lgA Try.tame (PostT (.bool true) W) W).T () (Frame.enter Try.prog 7 #[.agg s.vals, .agg o.vals] .normal) [] (seen0 W) :=
  keeps_begin hsA hoA fun tm w v5 v6 v7 rows b2 b3 hz h2 h3 h5 h6 h7 C K0 => keeps_6 tm hz h2 h3 h5 h6 h7 C K0
    fun tm w b9 Ba ab ov tv hz h2 h3 h5 h6 h7 h9 M1 => keeps_7 tm hz h2 h3 h5 h6 h7 h9 M1
    fun tm w b10 Bb ab' ov' tv' hz h2 h3 h5 h6 h7 h9 h10 M2 => keeps_8 tm hz h2 h3 h5 h6 h7 h9 h10 M2
    fun tm w hz h2 h3 h5 h6 h7 h9 h10 hk => by
      obtain ⟨rw_, ln, M3⟩ := mid3_of M2 hk
      exact keeps_9 tm hz h2 h3 h5 h6 h9 h10 M3 fun tm w hz h2 h3 h5 h6 h9 h10 M4 => keeps_10 tm hz h2 h3 h5 h6 h9 h10 M4
        fun tm w hz h2 h3 h5 h6 h9 h10 M5 => keeps_11 tm hz h2 h3 h5 h6 h9 h10 M5
        fun tm w' hz h2 h3 h5 h6 h9 h10 x hA => keeps_12 tm hz h2 h3 h5 h6 h9 h10 ⟨(M5.kb w' x).1, (M5.kb w' x).2.2.1, (M5.kb w' x).2.2.2⟩ (M5.kb w' x).2.1 hA M5.ans.le
        fun tm w hz h2 h3 h5 h6 h9 h10 M6 => keeps_13 tm hz h2 h3 h5 h6 h9 h10 M6
        fun tm w hz h2 h3 h5 h6 h9 h10 M7 => keeps_14 tm hz h2 h3 h5 h6 h9 h10 M7
        fun tm w b23 Bc ac oc tc hz h2 h3 h5 h6 h9 h10 h23 M8 B23 T23 => keeps_15 tm hz h2 h3 h5 h6 h9 h10 h23 M8 B23 T23
end Go.Proofs.Yteainbnoemkfcaa
namespace Go.Proofs.Yteainbnoemkfcaa.slotsKeeps
open Go.ChangeShapes Go.WideShapes Go.ChangeAt Go.RowKit Go.Deep Go.Turn
theorem own : ownKnob Try.prog.godebug = none := by kernel_rfl
theorem laidOut : laidOutB Try.prog = true := by kernel_rfl
set_option maxRecDepth 100000 in
theorem lifted (os : Os) (started : os.Started) (H : Type) (enc : TypeId × Value → H) :
    ReturnsInLeavingWide {} Try.checked os 7 .any (Rows.slotsKeepsSpec.pre6 enc Try.prog Try.f7 Rows.slotsKeepsRow.domain false) (Rows.slotsKeepsSpec.post enc Try.prog Try.f7 false true false false) := by
  refine returnsInLeavingWide_of_change_sized (C := Try.checked) own started Try.func7
    (ChangeSpec.witness6 (enc := enc) (C := Try.checked) false ⟨#[], #[.agg #[.slice none 0 0, .slice none 0 0, .slice none 0 0, .int .i64 0], .agg #[.slice none 0 0, .slice none 0 0, .slice none 0 0, .int .i64 0]], []⟩ 8 (by kernel_rfl) (by kernel_rfl) (by kernel_rfl) (by kernel_rfl)) ?_
  intro W base args ds gs before hval0 hW _ hsz _
  have hval : ∀ (j : Nat) t v, Try.f7.params[j]? = some t → args[j]? = some v → Value.okWide Try.prog W .any base t v := hval0
  have hW' := hW
  obtain ⟨p, q, hA0, hV, rfl, hfz, hnd⟩ := hW
  have hA : DataW.TrodAll enc Try.prog W 0 (fun _ => true) true Try.f7.params.toList args.toList ds p := hA0
  rw [Try.params7] at hA hval hsz
  obtain ⟨v0, vs0, d0, ds0, p0, q0, hargs, rfl, rfl, h0, r0⟩ := trodAll_cons hA
  obtain ⟨v1, vs1, d1, ds1, p1, q1, rfl, rfl, rfl, h1, r1⟩ := trodAll_cons r0
  obtain ⟨rfl, rfl, rfl⟩ := trodAll_nil r1
  obtain rfl : args = #[v0, v1] := by cases args; simp_all
  obtain ⟨rfl, rfl⟩ := trodVars_none hV
  have hst0 := hval 0 26 v0 rfl rfl
  have hst1 := hval 1 26 v1 rfl rfl
  unfold Value.okWide at hst0 hst1
  rw [Try.underlying26] at hst0 hst1
  obtain ⟨c0, rfl, _, _⟩ := hst0
  obtain ⟨c1, rfl, _, _⟩ := hst1
  have h0k := h0
  have h1k := h1
  have hlt : ∀ x ∈ p0 ++ p1, x.block < W.heap.size := fun x hx => by simpa using hW'.lt x (by simpa using hx)
  obtain ⟨fuel0, h0⟩ := h0
  obtain ⟨fuel1, h1⟩ := h1
  have hw0 : (DataW.weights Try.prog 26 d0).all (· ≤ reachBytes) = true := by
    refine List.all_eq_true.2 fun n hn => ?_
    exact List.all_eq_true.1 hsz n (DataW.weights_mem_each (j := 0) (t := 26) (d := d0) rfl rfl n hn)
  have hw1 : (DataW.weights Try.prog 26 d1).all (· ≤ reachBytes) = true := by
    refine List.all_eq_true.2 fun n hn => ?_
    exact List.all_eq_true.1 hsz n (DataW.weights_mem_each (j := 1) (t := 26) (d := d1) rfl rfl n hn)
  obtain ⟨ss, qA, qc, nt, tA, cp, Tb, To, A, len, cap, ops, sA, sc, xs, most, rfl, hs⟩ := open_scriptF h0 hw0
  obtain ⟨ss', qA', qc', nt', tA', cp', Tb', To', A', len', cap', ops', sA', sc', xs', most', rfl, ho⟩ := open_scriptF h1 hw1
  simp only [List.append_nil] at hW'
  obtain ⟨M, last, o, w', t', r1, r2, r3, r4⟩ := run_good Try.tame (keeps_true (s := ⟨ss, qA, qc, nt, tA, cp, Tb, To, A, len, cap, ops, sA, sc, xs, most⟩) (o := ⟨ss', qA', qc', nt', tA', cp', Tb', To', A', len', cap', ops', sA', sc', xs', most'⟩) hs ho)
  refine ⟨M, last, o, w', t', r1, r2, r3, r4.mono fun v hF => ?_⟩
  have hb : Below W.heap.size W { w' with tape := W.tape } := ⟨hF.os, rfl, hF.output, hF.size, hF.old⟩
  obtain rfl := hF.val
  exact ⟨_, _, _, [], _, [], hW', trodAll_cons_mk (shut_bool Try.underlying4 _) trodAll_mk0,
    trodAll_cons_mk ((Below.trod laidOut (by kernel_rfl) (of_decide_eq_true (by kernel_rfl)) h0k hb fun x hx => hlt x (List.mem_append.2 (.inl hx))).of_heap (by rfl)) (trodAll_cons_mk ((Below.trod laidOut (by kernel_rfl) (of_decide_eq_true (by kernel_rfl)) h1k hb fun x hx => hlt x (List.mem_append.2 (.inr hx))).of_heap (by rfl)) trodAll_mk0), rfl, hF.frame _, fun h => by cases h⟩
theorem over : Rows.slotsKeepsRow.holds Try.pinned (OpenSpec.ofChange Rows.slotsKeepsSpec) :=
  OpenClaim.holds_of_wide_leaving 7 Try.f7 rfl rfl rfl rfl rfl rfl rfl ⟨rfl, rfl, rfl, rfl, rfl⟩ rfl rfl rfl rfl rfl (by kernel_rfl) Try.func7 (by kernel_rfl)
    (of_decide_eq_true (by kernel_rfl)) (by unfold Func.isWrapper; first | (rw [if_pos (by decide +kernel)]; kernel_rfl) | (rw [if_neg (by decide +kernel)]; exact ⟨rfl, rfl⟩))
    (fun os started H enc _ => lifted os started H enc)
theorem proved : Rows.SlotsKeepsSaid := over
end Go.Proofs.Yteainbnoemkfcaa.slotsKeeps
