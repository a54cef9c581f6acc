/- DERIVED. The document's machine of layer 11, walked: a step. -/
import Derived.Test.YteainbnoemkfcaaGe
import Derived.Maps.AppendAt
import Derived.Test.YteainbnoemkfcaaGg
import Derived.Deep.AppendLies
set_option linter.unusedVariables false
set_option linter.unusedSectionVars false
set_option linter.unusedSimpArgs false
namespace Go.Proofs.Yteainbnoemkfcaa
open Go.RowKit
structure Row where
  e : TypeId
  sz : Nat
  v : Value
  n : Nat
  f : Nat → Value
def cellsN (m : Nat) (f : Nat → Value) : List Value := (List.range m).map f
theorem cellsN_get {m j : Nat} {f : Nat → Value} (h : j < m) : (cellsN m f)[j]? = some (f j) := by simp [cellsN, h]
theorem cellsN_len (m : Nat) (f : Nat → Value) : (cellsN m f).length = m := by simp [cellsN]
theorem cellsN_congr {m : Nat} {f g : Nat → Value} (h : ∀ k, k < m → f k = g k) : cellsN m f = cellsN m g := List.map_congr_left fun k hk => h k (List.mem_range.1 hk)
theorem cellsN_set {m j : Nat} {f : Nat → Value} {u : Value} : (cellsN m f).set j u = cellsN m (fun k => if k = j then u else f k) := by
  apply List.ext_getElem?
  intro k
  simp only [List.getElem?_set, cellsN_len]
  by_cases hk : k < m
  · rw [cellsN_get hk, cellsN_get hk]
    by_cases e : j = k
    · subst e; simp [hk]
    · simp [e, Ne.symm e]
  · rw [List.getElem?_eq_none (by rw [cellsN_len]; omega), List.getElem?_eq_none (by rw [cellsN_len]; omega)]
    by_cases e : j = k
    · subst e; simp [hk]
    · simp [e]
theorem cellsN_app {m k : Nat} {f g : Nat → Value} : cellsN m f ++ cellsN k g = cellsN (m + k) (fun j => if j < m then f j else g (j - m)) := by
  apply List.ext_getElem?
  intro j
  simp only [List.getElem?_append, cellsN_len]
  by_cases hj : j < m
  · simp only [hj, if_true, cellsN_get hj, cellsN_get (show j < m + k by omega)]
  · simp only [hj, if_false]
    by_cases hk : j - m < k
    · rw [cellsN_get hk, cellsN_get (show j < m + k by omega)]; simp [hj]
    · rw [List.getElem?_eq_none (by rw [cellsN_len]; omega), List.getElem?_eq_none (by rw [cellsN_len]; omega)]
theorem cellsN_list (l : List Value) (d : Value) : l = cellsN l.length (fun j => l.getD j d) := by
  apply List.ext_getElem?
  intro j
  by_cases hj : j < l.length
  · rw [cellsN_get hj]; simp [hj]
  · rw [List.getElem?_eq_none (by omega), List.getElem?_eq_none (by rw [cellsN_len]; omega)]
def Row.At (d : Row) (B : Nat) (w : World) : Prop := w.ownsRow B d.e d.sz d.v d.n (cellsN (d.n * d.sz) d.f)
theorem Row.At.same {d : Row} {B : Nat} {w w' : World} (h : d.At B w) (hs : ∀ b, d.v.ownBlock = some b → w'.heap[b]? = w.heap[b]?) : d.At B w' := by
  obtain ⟨h1, h2⟩ := h
  refine ⟨h1, ?_⟩
  rcases h2 with h2 | ⟨g, cap, cur, e, hg, hh, r⟩
  · exact .inl h2
  · exact .inr ⟨g, cap, cur, e, hg, (hs g (by rw [e]; rfl)).trans hh, r⟩
def Row.nil (e : TypeId) (sz : Nat) (f : Nat → Value) : Row := ⟨e, sz, .slice none 0 0, 0, f⟩
structure Mems {ρ : Type} (B : Nat) (R : ρ → Option Row) (w : World) : Prop where
  ex : ∃ lab : Nat → Option ρ, ∀ r d, R r = some d → d.At B w ∧ ∀ b, d.v.ownBlock = some b → lab b = some r
section
variable {ρ : Type} [DecidableEq ρ] {B : Nat} {R R' : ρ → Option Row} {w w' : World}
theorem Mems.at_ (h : Mems B R w) {r : ρ} {d : Row} (hr : R r = some d) : d.At B w := by
  obtain ⟨lab, h⟩ := h.ex
  exact (h r d hr).1
theorem Mems.cell (h : Mems B R w) {r : ρ} {e : TypeId} {sz g cap n : Nat} {f : Nat → Value} (hr : R r = some ⟨e, sz, .slice (some ⟨g, 0, none⟩) n cap, n, f⟩) {j : Nat} (hj : j < n * sz) : w.cell? ⟨g, j, none⟩ = some (f j) := by
  have := (h.at_ hr).cellAt (g := g) j hj
  rw [this]
  exact cellsN_get hj
theorem Mems.frozen (h : Mems B R w) {r : ρ} {e : TypeId} {sz g cap n : Nat} {f : Nat → Value} (hr : R r = some ⟨e, sz, .slice (some ⟨g, 0, none⟩) n cap, n, f⟩) (j : Nat) : w.frozen? ⟨g, j, none⟩ = false := World.ownsRow.frozenAt (h.at_ hr) j
theorem Mems.lt (h : Mems B R w) {r : ρ} {d : Row} (hr : R r = some d) {b : Nat} (hb : d.v.ownBlock = some b) : B ≤ b ∧ b < w.heap.size := World.ownsRow.lt (h.at_ hr) b hb
theorem Mems.same (h : Mems B R w) (hs : ∀ b, b < w.heap.size → w'.heap[b]? = w.heap[b]?) : Mems B R w' := by
  obtain ⟨lab, k⟩ := h.ex
  exact ⟨lab, fun r d hr => ⟨(k r d hr).1.same fun b hb => hs b (h.lt hr hb).2, (k r d hr).2⟩⟩
theorem Mems.drewN (h : Mems B R w) (n : Nat) : Mems B R (w.drewN n) := h.same fun _ _ => rfl
theorem Mems.alloc (h : Mems B R w) (o : Obj) : Mems B R (w.alloc o) := h.same fun b hb => Below.heap_alloc _ _ _ hb
theorem Mems.mono (h : Mems B R w) (hm : ∀ r d, R' r = some d → R r = some d) : Mems B R' w := by
  obtain ⟨lab, k⟩ := h.ex
  exact ⟨lab, fun r d hr => k r d (hm r d hr)⟩
theorem Mems.dropped (h : Mems B R w) (hm : ∀ r d, R' r = some d → R r = some d ∨ (d.v = .slice none 0 0 ∧ d.n = 0)) : Mems B R' w := by
  obtain ⟨lab, k⟩ := h.ex
  refine ⟨lab, fun r d hr => ?_⟩
  rcases hm r d hr with h1 | ⟨h1, h2⟩
  · exact k r d h1
  · refine ⟨⟨by simp [h2, cellsN], .inl ⟨h1, h2⟩⟩, fun b hb => by rw [h1] at hb; cases hb⟩
theorem Mems.set (h : Mems B R w) {r : ρ} {e : TypeId} {sz g cap n : Nat} {f f' : Nat → Value} (hr : R r = some ⟨e, sz, .slice (some ⟨g, 0, none⟩) n cap, n, f⟩) (j : Nat) (u : Value)
    (hr' : R' r = some ⟨e, sz, .slice (some ⟨g, 0, none⟩) n cap, n, f'⟩) (hf : ∀ k, k < n * sz → f' k = if k = j then u else f k) (ho : ∀ r', r' ≠ r → R' r' = R r') : Mems B R' (w.setCell ⟨g, j, none⟩ u) := by
  obtain ⟨lab, k⟩ := h.ex
  refine ⟨lab, fun r1 d hd => ?_⟩
  by_cases e1 : r1 = r
  · subst e1
    rw [hr'] at hd
    cases hd
    refine ⟨?_, (k r1 _ hr).2⟩
    have := (World.ownsRow.stored (k r1 _ hr).1 j u).1
    rw [cellsN_set] at this
    unfold Row.At
    rw [cellsN_congr hf]
    exact this
  · rw [ho r1 e1] at hd
    obtain ⟨k1, k2⟩ := k r1 d hd
    refine ⟨k1.same fun b hb => Below.heap_setCell _ _ _ _ fun z => ?_, k2⟩
    have l1 := k2 b hb
    have l2 := (k r _ hr).2 g rfl
    rw [show b = g from z, l2] at l1
    cases l1
    exact e1 rfl
theorem Mems.app (h : Mems B R w) {r : ρ} {d d' : Row} (hr : R r = some d) (hr' : R' r = some d') (ho : ∀ r', r' ≠ r → R' r' = R r')
    (hg : w.grownBy w' d.v.ownBlock) (hn : d'.At B w') (hv : d'.v.ownBlock = d.v.ownBlock ∨ d'.v.ownBlock = some w.heap.size) : Mems B R' w' := by
  obtain ⟨lab, k⟩ := h.ex
  refine ⟨fun b => if d'.v.ownBlock = some b then some r else lab b, fun r1 d1 hd => ?_⟩
  by_cases e1 : r1 = r
  · subst e1
    rw [hr'] at hd
    cases hd
    exact ⟨hn, fun b hb => by simp [hb]⟩
  · rw [ho r1 e1] at hd
    obtain ⟨k1, k2⟩ := k r1 d1 hd
    have hne : ∀ b, d1.v.ownBlock = some b → d.v.ownBlock ≠ some b := fun b hb z => by
      have l1 := k2 b hb
      have l2 := (k r _ hr).2 b z
      rw [l2] at l1
      cases l1
      exact e1 rfl
    refine ⟨k1.same fun b hb => hg.block b (h.lt hd hb).2 fun z => hne b hb z.symm, fun b hb => ?_⟩
    have : d'.v.ownBlock ≠ some b := fun z => by
      rcases hv with hv | hv
      · exact hne b hb (hv ▸ z)
      · rw [hv] at z
        cases z
        have := (h.lt hd hb).2
        omega
    simp [this, k2 b hb]
theorem Mems.new (h : Mems B R w) {r : ρ} {d' : Row} (hr' : R' r = some d') (ho : ∀ r', r' ≠ r → R' r' = R r') (hs : ∀ b, b < w.heap.size → w'.heap[b]? = w.heap[b]?) (hn : d'.At B w') (hv : ∀ b, d'.v.ownBlock = some b → w.heap.size ≤ b) : Mems B R' w' := by
  obtain ⟨lab, k⟩ := h.ex
  refine ⟨fun b => if d'.v.ownBlock = some b then some r else lab b, fun r1 d1 hd => ?_⟩
  by_cases e1 : r1 = r
  · subst e1
    rw [hr'] at hd
    cases hd
    exact ⟨hn, fun b hb => by simp [hb]⟩
  · rw [ho r1 e1] at hd
    obtain ⟨k1, k2⟩ := k r1 d1 hd
    refine ⟨k1.same fun b hb => hs b (h.lt hd hb).2, fun b hb => ?_⟩
    have : d'.v.ownBlock ≠ some b := fun z => by have := hv b z; have := (h.lt hd hb).2; omega
    simp [this, k2 b hb]
theorem Mems.moved (h : Mems B R w) {r r2 : ρ} {d : Row} (hr : R r = some d) (h2 : R' r2 = some d) (h1 : ∀ d', R' r = some d' → d'.v = .slice none 0 0 ∧ d'.n = 0) (hne : r ≠ r2) (ho : ∀ r', r' ≠ r → r' ≠ r2 → R' r' = R r') : Mems B R' w := by
  obtain ⟨lab, k⟩ := h.ex
  refine ⟨fun b => if d.v.ownBlock = some b then some r2 else lab b, fun r1 d1 hd => ?_⟩
  by_cases e2 : r1 = r2
  · subst e2
    rw [h2] at hd
    cases hd
    exact ⟨(k r _ hr).1, fun b hb => by simp [hb]⟩
  by_cases e1 : r1 = r
  · subst e1
    obtain ⟨z1, z2⟩ := h1 d1 hd
    exact ⟨⟨by simp [z2, cellsN], .inl ⟨z1, z2⟩⟩, fun b hb => by rw [z1] at hb; cases hb⟩
  · rw [ho r1 e1 e2] at hd
    obtain ⟨k1, k2⟩ := k r1 d1 hd
    refine ⟨k1, fun b hb => ?_⟩
    have : d.v.ownBlock ≠ some b := fun z => by
      have l1 := k2 b hb
      have l2 := (k r _ hr).2 b z
      rw [l2] at l1
      cases l1
      exact e1 rfl
    simp [this, k2 b hb]
end
theorem wp_cut {P : Program} {x y : Code} {Q : Exit → Act → World → Prop} {a : Act} {w : World} (h : ∀ K : Act → World → Prop, Hid (∀ a' w', y.wp P Q a' w' → K a' w') → x.wp P (Exit.then K Q) a w) : (Code.seq x y).wp P Q a w :=
  wp_seq (h _ (Lib.hid fun _ _ h => h))
def upd2 (F : Nat → Nat → Value) (i k : Nat) (u : Value) : Nat → Nat → Value := fun i' k' => if i' = i ∧ k' = k then u else F i' k'
def recF (sz : Nat) (F : Nat → Nat → Value) : Nat → Value := fun j => F (j / sz) (j % sz)
theorem recF_at {sz i k : Nat} {F : Nat → Nat → Value} (hk : k < sz) : recF sz F (i * sz + k) = F i k := by
  unfold recF
  rw [Nat.mul_comm, Nat.mul_add_div (by omega), Nat.div_eq_of_lt hk, Nat.add_zero, Nat.mul_add_mod, Nat.mod_eq_of_lt hk]
theorem recF_upd {sz i k : Nat} {F : Nat → Nat → Value} (hk : k < sz) (u : Value) (j : Nat) : recF sz (upd2 F i k u) j = if j = i * sz + k then u else recF sz F j := by
  unfold recF upd2
  have : (j / sz = i ∧ j % sz = k) ↔ j = i * sz + k := by
    constructor
    · rintro ⟨h1, h2⟩
      have := Nat.div_add_mod j sz
      rw [h1, h2, Nat.mul_comm] at this
      exact this.symm
    · rintro rfl
      rw [Nat.mul_comm, Nat.mul_add_div (by omega), Nat.div_eq_of_lt hk, Nat.add_zero, Nat.mul_add_mod, Nat.mod_eq_of_lt hk]
      exact ⟨rfl, rfl⟩
  by_cases h : j = i * sz + k
  · rw [if_pos h, if_pos (this.2 h)]
  · rw [if_neg h, if_neg (fun z => h (this.1 z))]
theorem recF_lt {sz i k n : Nat} (hi : i < n) (hk : k < sz) : i * sz + k < n * sz := by
  have : (i + 1) * sz ≤ n * sz := Nat.mul_le_mul_right _ hi
  rw [Nat.add_mul, Nat.one_mul] at this
  omega
end Go.Proofs.Yteainbnoemkfcaa
namespace Go.Turn
section
variable {P : Program} {ops : Array Oper} {m : Nat}
def reachB (md : Region.Mode) (ops : Array Oper) (m : Nat) : Nat → Nat → Bool
  | 0, j => waits md ops m j
  | f + 1, j => waits md ops m j || (List.range ops.size).any (fun i => waits md ops i j && reachB md ops m f i)
def lastR (md : Region.Mode) (ops : Array Oper) (m : Nat) : Bool := decide (m < ops.size) && (List.range ops.size).all (fun i => (ops[i]?).all fun o => o.after.all fun e => decide (e.on < i)) && (List.range ops.size).all (fun j => j == m || reachB md ops m ops.size j)
theorem reach_listed {md : Region.Mode} {listed : Array Bool} (hc : Closed md ops listed) (hi : m ∈ Region.ready md ops listed) : ∀ (f j : Nat), reachB md ops m f j = true → listed.getD j false = true
  | 0, j, h => waits_ready hi h
  | f + 1, j, h => by
    simp only [reachB, Bool.or_eq_true, List.any_eq_true, Bool.and_eq_true] at h
    rcases h with h | ⟨x, _, h1, h2⟩
    · exact waits_ready hi h
    · exact hc.2 x j (reach_listed hc hi f x h2) h1
theorem last_of3 {md : Region.Mode} (hB : lastR md ops m = true) : ∀ (f t : Nat) (listed : Array Bool), Closed md ops listed → listed.getD m true = false → open_ listed ops.size ≤ f → ∃ l, Region.linearise.go md ops f t listed [] = l ++ [m] ∧ m ∉ l := by
  have hB' := hB
  simp only [lastR, Bool.and_eq_true, decide_eq_true_eq] at hB'
  obtain ⟨⟨hm, hb⟩, hall⟩ := hB'
  intro f
  induction f with
  | zero =>
    intro t listed hc h0 hf
    have := open_pos (listed := listed) ops.size hm (by rw [getD_any listed (by rw [hc.1]; exact hm) false true]; exact h0)
    omega
  | succ f ih =>
    intro t listed hc h0 hf
    simp only [Region.linearise.go]
    change ∃ l, (match (Region.ready md ops listed)[t % (Region.ready md ops listed).length]? with
      | some i => Region.linearise.go md ops f (t / (Region.ready md ops listed).length) (listed.setIfInBounds i true) [i]
      | none => [].reverse) = l ++ [m] ∧ m ∉ l
    have hne : Region.ready md ops listed ≠ [] := ready_some hb hc.1 m hm (by rw [getD_any listed (by rw [hc.1]; exact hm) false true]; exact h0)
    have hlt : t % (Region.ready md ops listed).length < (Region.ready md ops listed).length := Nat.mod_lt _ (List.length_pos_iff.2 hne)
    rw [List.getElem?_eq_getElem hlt]
    have hi := List.getElem_mem hlt
    generalize (Region.ready md ops listed)[t % (Region.ready md ops listed).length] = i at hi
    simp only []
    rw [linearise_go_acc]
    by_cases e : i = m
    · subst e
      have key : Region.ready md ops (listed.setIfInBounds i true) = [] := by
        apply Classical.byContradiction
        intro hn
        obtain ⟨j, hj⟩ := List.exists_mem_of_ne_nil _ hn
        obtain ⟨h1, o, ho, _⟩ := mem_ready.1 hj
        have hjlt : j < ops.size := (Array.getElem?_eq_some_iff.1 ho).1
        rw [getD_set] at h1
        split at h1
        · cases h1
        · rename_i hne'
          have hji : j ≠ i := fun z => hne' ⟨z.symm, by rw [hc.1]; exact hjlt⟩
          have h2 := (List.all_eq_true.1 hall) j (List.mem_range.2 hjlt)
          have h3 : listed.getD j false = true := by
            simp only [Bool.or_eq_true, beq_iff_eq] at h2
            rcases h2 with h2 | h2
            · exact absurd h2 hji
            · exact reach_listed hc hi _ _ h2
          rw [getD_any listed (by rw [hc.1]; exact hjlt) true false, h3] at h1
          cases h1
      rw [go_nil key]
      exact ⟨[], rfl, by simp⟩
    · have hlt' : i < listed.size := by
        obtain ⟨_, o, ho, _⟩ := mem_ready.1 hi
        rw [hc.1]; exact (Array.getElem?_eq_some_iff.1 ho).1
      have h2 := open_set hlt' (mem_ready.1 hi).1 ops.size
      rw [if_pos (by rw [← hc.1]; exact hlt')] at h2
      obtain ⟨l, h3, h4⟩ := ih (t / (Region.ready md ops listed).length) _ (closed_step hc hi) (by rw [getD_set, if_neg (fun h => e h.1)]; exact h0) (by omega)
      rw [h3]
      exact ⟨i :: l, by simp, by simp [h4, Ne.symm e]⟩
theorem last_begin3 {md : Region.Mode} (hB : lastR md ops m = true) (t : Nat) : ∃ l, Region.linearise.go md ops ops.size t (Array.replicate ops.size false) [] = l ++ [m] ∧ m ∉ l := by
  have hm : m < ops.size := by simp only [lastR, Bool.and_eq_true, decide_eq_true_eq] at hB; exact hB.1.1
  have e : ∀ x d, x < ops.size → (Array.replicate ops.size false).getD x d = false := fun x d h => by simp [Array.getD, h]
  refine last_of3 hB ops.size t _ ⟨by simp, fun x y hx _ => ?_⟩ (e m true hm) ?_
  · by_cases h : x < ops.size
    · rw [e x false h] at hx; cases hx
    · simp [Array.getD, h] at hx
  · have : ∀ n, open_ (Array.replicate ops.size false) n ≤ n := fun n => by
      induction n with
      | zero => exact Nat.le_refl _
      | succ n ih => simp only [open_]; split <;> omega
    exact this _
theorem wp_region_lastR {id : Nat} {Q : Exit → Act → World → Prop} {S : World → Prop} {a : Act} {w : World} (m : Nat) (hm : P.follows .mixedOrders = true) (hlast : lastR .any ops m = true) (hg : noGuard ops m = true)
    (h : wpAnyH P .any (idle ops m) (Exit.then (fun a' w' => wpOps P ops Q [m] a' w') fun _ _ _ => False) S (idle ops m).size (Array.replicate (idle ops m).size false) a w.drew) : (Code.region id ops true).wp P Q a w := by
  refine wp_region_draw fun t => ?_
  rw [show Region.schedule (P.follows .mixedOrders) ops t = Region.linearise.go .any ops ops.size t (Array.replicate ops.size false) [] from by simp [Region.schedule, hm, Region.linearise]]
  obtain ⟨l, hl, hml⟩ := last_begin3 hlast t
  have hmlt : m < ops.size := by simp only [lastR, Bool.and_eq_true, decide_eq_true_eq] at hlast; exact hlast.1.1
  have hs : (idle ops m).size = ops.size := by simp [idle]
  have h1 := wpAny_sound _ t _ _ _ (wpAny_of_held _ _ _ _ h)
  rw [hs, idle_go, hl, wpOps_split, idle_wp hg l hml] at h1
  rw [hl, wpOps_split]
  refine wpOps_mono' (fun a' w' hz => ?_) (fun e a w he hz => ?_) l a _ h1
  · obtain ⟨o, ho⟩ : ∃ o, ops[m]? = some o := ⟨_, Array.getElem?_eq_getElem hmlt⟩
    have ho' : (idle ops m)[m]? = some { o with dst := none, op := .move (.const undef), guard := none } := by simp [idle, Array.getElem?_modify, ho]
    have hr : (execOp a'.eval { o with dst := none, op := .move (.const undef), guard := none }).run P w' = .ok (.value undef) w' := by simp [execOp, go_sem, Act.eval]
    have hz' : wpOps P (idle ops m) (Exit.then (fun a' w' => wpOps P ops Q [m] a' w') fun _ _ _ => False) [m] a' w' := hz
    simp only [wpOps, ho', Region.wanted, if_true] at hz'
    rcases hz' with hz' | ⟨_, a2, w2, hz'⟩
    · rw [Oper.wp, hr, Oper.upon_value] at hz'
      have : wpOps P ops Q [m] a' w' := hz'
      exact this
    · exact hz'.elim
  · cases e with
    | normal => exact absurd rfl he
    | _ => exact hz.elim
theorem wp_region_lastQ {id : Nat} {Q : Exit → Act → World → Prop} {a : Act} {w : World} (m : Nat) (hm : P.follows .mixedOrders = true) (hlast : lastR .any ops m = true) (hg : noGuard ops m = true) (hB : Region.lexB .any (idle ops m) = true)
    (h : wpQuiet P (idle ops m) (fun w' => ∃ n, w' = w.drewN n) (fun a' => ∀ w', (∃ n, w' = w.drewN n) → wpOps P ops Q [m] a' w') (idle ops m).toList a) : (Code.region id ops true).wp P Q a w := by
  refine wp_region_draw fun t => ?_
  rw [show Region.schedule (P.follows .mixedOrders) ops t = Region.linearise.go .any ops ops.size t (Array.replicate ops.size false) [] from by simp [Region.schedule, hm, Region.linearise]]
  obtain ⟨l, hl, hml⟩ := last_begin3 hlast t
  have hmlt : m < ops.size := by simp only [lastR, Bool.and_eq_true, decide_eq_true_eq] at hlast; exact hlast.1.1
  have hs : (idle ops m).size = ops.size := by simp [idle]
  simp only [Region.lexB, Bool.and_eq_true] at hB
  have h1 : wpOps P (idle ops m) (Exit.then (fun a' w' => wpOps P ops Q [m] a' w') fun _ _ _ => False) (Region.linearise.go .any (idle ops m) (idle ops m).size t (Array.replicate (idle ops m).size false) []) a w.drew := by
    refine wpAny_sound _ _ _ _ _ (wpAny_of_quiet (C := fun w' => ∃ n, w' = w.drewN n) (Q := fun a' => ∀ w', (∃ n, w' = w.drewN n) → wpOps P ops Q [m] a' w') (fun _ _ hc hk => hk _ hc) _ _ _ _ ⟨1, rfl⟩ ?_)
    have := wpAnyQ_lex (C := fun w' => ∃ n, w' = w.drewN n) (md := .any) hB.1 (idle ops m).toList 0 (Array.replicate (idle ops m).size false) a (by simp) (by simpa using hB.2) h
    simpa using this
  rw [hs, idle_go, hl, wpOps_split, idle_wp hg l hml] at h1
  rw [hl, wpOps_split]
  refine wpOps_mono' (fun a' w' hz => ?_) (fun e a w he hz => ?_) l a _ h1
  · obtain ⟨o, ho⟩ : ∃ o, ops[m]? = some o := ⟨_, Array.getElem?_eq_getElem hmlt⟩
    have ho' : (idle ops m)[m]? = some { o with dst := none, op := .move (.const undef), guard := none } := by simp [idle, Array.getElem?_modify, ho]
    have hr : (execOp a'.eval { o with dst := none, op := .move (.const undef), guard := none }).run P w' = .ok (.value undef) w' := by simp [execOp, go_sem, Act.eval]
    have hz' : wpOps P (idle ops m) (Exit.then (fun a' w' => wpOps P ops Q [m] a' w') fun _ _ _ => False) [m] a' w' := hz
    simp only [wpOps, ho', Region.wanted, if_true] at hz'
    rcases hz' with hz' | ⟨_, a2, w2, hz'⟩
    · rw [Oper.wp, hr, Oper.upon_value] at hz'
      have : wpOps P ops Q [m] a' w' := hz'
      exact this
    · exact hz'.elim
  · cases e with
    | normal => exact absurd rfl he
    | _ => exact hz.elim
end
end Go.Turn
namespace Go.Proofs.Yteainbnoemkfcaa
open Go.RowKit
open Go.ConcN (upd upd_ne upd_same)
def GoodI (q : Int) : Prop := 0 ≤ q ∧ q < 4611686018427387904
instance (q : Int) : Decidable (GoodI q) := by unfold GoodI; infer_instance
structure RM where
  size : Nat
  S : Nat → Int
  V : Nat → Int
  n : Nat
  ops : Nat → List OpI
  ans : Nat → List Ans
  at_ : Nat → Nat
  pc : Nat → Nat
  q : Nat → Int
  x : Nat → Int
  v : Nat → Int
  seen : Nat → List Int
  /-- Rows that lie beside it. -/
  X : Nat → Option Row
namespace RM
def slot (m : RM) (q : Int) : Nat := (q % m.size).toNat
def lap (m : RM) (q : Int) : Int := q / m.size
def end_ (m : RM) (i : Nat) (a : Ans) : RM := { m with ans := upd m.ans i (m.ans i ++ [a]), at_ := upd m.at_ i (m.at_ i + 1), pc := upd m.pc i 0 }
def stand (m : RM) (i p : Nat) : RM := { m with pc := upd m.pc i p }
def enter (m : RM) (i : Nat) (q : Int) : RM := { m with q := upd m.q i q, seen := upd m.seen i [] }
def begin_ (m : RM) (i : Nat) (o : OpI) : RM :=
  if m.size = 0 ∨ o.kind < 1 ∨ 5 < o.kind then (m.enter i o.a).end_ i ⟨false, 0, []⟩
  else if o.kind = 4 ∧ (¬ GoodI o.a ∨ o.b < o.a) then (m.enter i o.a).end_ i ⟨true, if -9223372036854775808 < o.a then o.a - 1 else o.a, []⟩
  else if o.kind = 4 then (m.enter i o.a).stand i 1
  else if ¬ GoodI o.a ∧ o.kind = 3 then (m.enter i o.a).end_ i ⟨false, 0, []⟩
  else if ¬ GoodI o.a then (m.enter i o.a).end_ i ⟨false, 1, []⟩
  else if o.kind = 5 ∧ o.b < 1 then (m.enter i o.a).end_ i ⟨true, 0, []⟩
  else (m.enter i o.a).stand i 1
def get (m : RM) (i p : Nat) : RM × Int × Int × Bool :=
  let s := m.S (m.slot (m.q i))
  let l := 2 * m.lap (m.q i)
  if p = 1 then ({ m with x := upd m.x i s }, 0, if s < l then 6 else if l < s then 10 else 0, decide (s < l) || decide (l < s))
  else if p = 2 then ({ m with v := upd m.v i (m.V (m.slot (m.q i))) }, 0, 0, false)
  else if s = m.x i then (m, m.v i, 0, true) else (m, 0, 10, true)
def see (m : RM) (i : Nat) (v : Int) : RM := { m with seen := upd m.seen i (m.seen i ++ [v]) }
def gathered (m : RM) (i : Nat) (o : OpI) (v e : Int) : RM :=
  if e ≠ 0 ∧ m.seen i = [] then m.end_ i ⟨false, e, []⟩
  else
    let m1 := if e = 0 then m.see i v else m
    if e ≠ 0 ∨ ((m1.seen i).length : Int) = o.b ∨ (m1.seen i).length = m1.size then m1.end_ i ⟨true, 0, m1.seen i⟩
    else
      let m2 : RM := { m1 with q := upd m1.q i (m1.q i + 1), pc := upd m1.pc i 1 }
      if GoodI (m2.q i) then m2 else m2.end_ i ⟨true, 0, m2.seen i⟩
def step (m : RM) (i : Nat) (o : OpI) : RM :=
  let q := m.q i
  let s := m.slot q
  let l := m.lap q
  let p := m.pc i
  let m0 := m.stand i (p + 1)
  if o.kind = 1 then
    if p = 1 then { m0 with S := upd m0.S s (2 * l - 1) }
    else if p = 2 then { m0 with V := upd m0.V s o.b }
    else if p = 3 then ({ m0 with S := upd m0.S s (2 * l) } : RM).end_ i ⟨true, 0, []⟩
    else m0
  else if o.kind = 2 then
    let r := m0.get i p
    if r.2.2.2 then (if r.2.2.1 = 0 then r.1.end_ i ⟨true, r.2.1, []⟩ else r.1.end_ i ⟨false, r.2.2.1, []⟩) else r.1
  else if o.kind = 5 then
    let r := m0.get i p
    if r.2.2.2 then r.1.gathered i o r.2.1 r.2.2.1 else r.1
  else if o.kind = 3 then m0.end_ i ⟨m0.S s == 2 * l, 0, []⟩
  else if o.kind = 4 then
    let m1 := m0.stand i 1
    if m1.S s ≠ 2 * l then m1.end_ i ⟨true, q - 1, []⟩
    else
      let m2 : RM := { m1 with q := upd m1.q i (q + 1) }
      if q = o.b ∨ ¬ GoodI (q + 1) ∨ o.a + m2.size ≤ q + 1 then m2.end_ i ⟨true, q, []⟩ else m2
  else m0
def settle (m : RM) (i : Nat) : Nat → RM
  | 0 => m
  | f + 1 => if m.pc i = 0 then (match (m.ops i)[m.at_ i]? with | some o => settle (m.begin_ i o) i f | none => m) else m
def settled (m : RM) (i : Nat) : RM := m.settle i ((m.ops i).length + 1 - m.at_ i)
def left (m : RM) : Bool := (List.range m.n).any fun i => decide (m.pc i ≠ 0)
def does (m : RM) (i : Nat) : RM := match (m.ops i)[m.at_ i]? with | some o => (m.step i o).settled i | none => m
end RM
inductive Rl where
  | box | S | V | T | ans (i : Nat) | seen (i : Nat) | ls (i k : Nat) | ext (k : Nat)
  deriving DecidableEq
def nilV : Value := .slice none 0 0
def boxF (st : RM) (V : Rl → Value) : Nat → Value
  | 0 => .int .i64 st.size
  | 1 => V .S
  | 2 => V .V
  | 3 => V .T
  | _ => .int .i64 0
def thF (st : RM) (V : Rl → Value) (oV : Nat → Value) (i : Nat) : Nat → Value
  | 0 => oV i
  | 1 => V (.ans i)
  | 2 => .int .i64 i
  | 3 => .int .i64 (st.at_ i)
  | 4 => .int .i64 (st.pc i)
  | 5 => .int .i64 (st.q i)
  | 6 => .int .i64 (st.x i)
  | 7 => .int .i64 (st.v i)
  | _ => V (.seen i)
def ansF (V : Rl → Value) (i : Nat) (l : List Ans) (k : Nat) : Nat → Value
  | 0 => .bool ((l.getD k ⟨false, 0, []⟩).ok)
  | 1 => .int .i64 ((l.getD k ⟨false, 0, []⟩).n)
  | _ => V (.ls i k)
def lsRow (v : Value) (l : List Int) : Row := ⟨2, 1, v, l.length, fun j => .int .i64 (l.getD j 0)⟩
def memOf (mb : Nat) (st : RM) (V : Rl → Value) (oV : Nat → Value) : Rl → Option Row
  | .box => some ⟨102, 5, .slice (some ⟨mb, 0, none⟩) 1 1, 1, boxF st V⟩
  | .S => some ⟨2, 1, V .S, st.size, fun j => .int .i64 (st.S j)⟩
  | .V => some ⟨2, 1, V .V, st.size, fun j => .int .i64 (st.V j)⟩
  | .T => some ⟨104, 9, V .T, st.n, recF 9 (thF st V oV)⟩
  | .ans i => if i < st.n then some ⟨46, 3, V (.ans i), (st.ans i).length, recF 3 (ansF V i (st.ans i))⟩ else none
  | .seen i => if i < st.n ∧ st.pc i ≠ 0 then some (lsRow (V (.seen i)) (st.seen i)) else none
  | .ls i k => if i < st.n then (st.ans i)[k]?.map fun a => lsRow (V (.ls i k)) a.ls else none
  | .ext k => st.X k
def RMem (B mb : Nat) (oV : Nat → Value) (st : RM) (w : World) : Prop := ∃ V, Mems B (memOf mb st V oV) w
section
variable {B mb : Nat} {oV : Nat → Value} {st : RM} {V : Rl → Value} {w w' : World}
theorem RMem.same (h : RMem B mb oV st w) (hs : ∀ b, b < w.heap.size → w'.heap[b]? = w.heap[b]?) : RMem B mb oV st w' := by
  obtain ⟨V, h⟩ := h
  exact ⟨V, h.same hs⟩
theorem bcell (h : Mems B (memOf mb st V oV) w) (k : Nat) (hk : k < 5) : w.cell? ⟨mb, k, none⟩ = some (boxF st V k) := h.cell (r := .box) rfl (by omega)
theorem tb_of (h : Mems B (memOf mb st V oV) w) (hn : 0 < st.n) : ∃ tb tc, V .T = .slice (some ⟨tb, 0, none⟩) st.n tc ∧ st.n ≤ tc ∧ tc ≤ maxLen := by
  have := h.at_ (r := .T) rfl
  rcases this.2 with ⟨_, h2⟩ | ⟨g, cap, cur, h1, _, _, h3, h4, _⟩
  · simp only at h2; omega
  · exact ⟨g, cap, h1, h3, h4⟩
theorem sb_of (h : Mems B (memOf mb st V oV) w) (hn : 0 < st.size) : (∃ b c, V .S = .slice (some ⟨b, 0, none⟩) st.size c ∧ st.size ≤ c ∧ c ≤ maxLen) ∧ ∃ b c, V .V = .slice (some ⟨b, 0, none⟩) st.size c ∧ st.size ≤ c ∧ c ≤ maxLen := by
  constructor
  · rcases (h.at_ (r := .S) rfl).2 with ⟨_, h2⟩ | ⟨g, cap, cur, h1, _, _, h3, h4, _⟩
    · simp only at h2; omega
    · exact ⟨g, cap, h1, h3, h4⟩
  · rcases (h.at_ (r := .V) rfl).2 with ⟨_, h2⟩ | ⟨g, cap, cur, h1, _, _, h3, h4, _⟩
    · simp only at h2; omega
    · exact ⟨g, cap, h1, h3, h4⟩
section
variable {tb tc i : Nat} (h : Mems B (memOf mb st V oV) w) (hT : V .T = .slice (some ⟨tb, 0, none⟩) st.n tc) (hi : i < st.n)
include h hT
theorem trow : memOf mb st V oV .T = some ⟨104, 9, .slice (some ⟨tb, 0, none⟩) st.n tc, st.n, recF 9 (thF st V oV)⟩ := by simp only [memOf, hT]
theorem tfrozen (j : Nat) : w.frozen? ⟨tb, j, none⟩ = false := h.frozen (trow h hT) j
include hi
theorem tcell (k : Nat) (hk : k < 9) : w.cell? ⟨tb, i * 9 + k, none⟩ = some (thF st V oV i k) := by
  rw [h.cell (trow h hT) (recF_lt hi hk), recF_at hk]
theorem tset {st' : RM} {V' : Rl → Value} (k : Nat) (hk : k < 9) (u : Value) (hn : st'.n = st.n) (hV : V' .T = V .T) (hF : ∀ i' k', k' < 9 → thF st' V' oV i' k' = upd2 (thF st V oV) i k u i' k') (ho : ∀ r, r ≠ .T → memOf mb st' V' oV r = memOf mb st V oV r) :
    Mems B (memOf mb st' V' oV) (w.setCell ⟨tb, i * 9 + k, none⟩ u) := by
  refine h.set (f' := recF 9 (thF st' V' oV)) (trow h hT) _ u ?_ (fun j hj => ?_) ho
  · simp only [memOf, hV, hT, hn]
  · rw [← recF_upd hk u j]
    exact hF _ _ (Nat.mod_lt _ (by omega))
theorem tsetQ (u : Int) : Mems B (memOf mb { st with q := upd st.q i u } V oV) (w.setCell ⟨tb, i * 9 + 5, none⟩ (.int .i64 u)) :=
  tset h hT hi 5 (by omega) _ rfl rfl (fun i' k' hk => by
    unfold upd2
    by_cases e : i' = i
    · subst e; rcases k' with _ | _ | _ | _ | _ | _ | _ | _ | k' <;> simp [thF, upd_same]
    · rcases k' with _ | _ | _ | _ | _ | _ | _ | _ | k' <;> simp [thF, upd_ne _ _ e, e]) fun r hr => by cases r <;> first | rfl | exact absurd rfl hr
theorem tsetX (u : Int) : Mems B (memOf mb { st with x := upd st.x i u } V oV) (w.setCell ⟨tb, i * 9 + 6, none⟩ (.int .i64 u)) :=
  tset h hT hi 6 (by omega) _ rfl rfl (fun i' k' hk => by
    unfold upd2
    by_cases e : i' = i
    · subst e; rcases k' with _ | _ | _ | _ | _ | _ | _ | _ | k' <;> simp [thF, upd_same]
    · rcases k' with _ | _ | _ | _ | _ | _ | _ | _ | k' <;> simp [thF, upd_ne _ _ e, e]) fun r hr => by cases r <;> first | rfl | exact absurd rfl hr
theorem tsetV (u : Int) : Mems B (memOf mb { st with v := upd st.v i u } V oV) (w.setCell ⟨tb, i * 9 + 7, none⟩ (.int .i64 u)) :=
  tset h hT hi 7 (by omega) _ rfl rfl (fun i' k' hk => by
    unfold upd2
    by_cases e : i' = i
    · subst e; rcases k' with _ | _ | _ | _ | _ | _ | _ | _ | k' <;> simp [thF, upd_same]
    · rcases k' with _ | _ | _ | _ | _ | _ | _ | _ | k' <;> simp [thF, upd_ne _ _ e, e]) fun r hr => by cases r <;> first | rfl | exact absurd rfl hr
theorem tsetPc (u : Nat) (hz : st.pc i ≠ 0 ∨ u = 0 ∨ (V (.seen i) = nilV ∧ st.seen i = [])) : Mems B (memOf mb { st with pc := upd st.pc i u } V oV) (w.setCell ⟨tb, i * 9 + 4, none⟩ (.int .i64 u)) := by
  have h1 : Mems B (fun r => if r = .T then memOf mb { st with pc := upd st.pc i u } V oV .T else memOf mb st V oV r) (w.setCell ⟨tb, i * 9 + 4, none⟩ (.int .i64 u)) := by
    refine h.set (f' := recF 9 (thF { st with pc := upd st.pc i u } V oV)) (trow h hT) _ _ (by simp [memOf, hT]) (fun j hj => ?_) fun r hr => by simp [hr]
    rw [← recF_upd (by omega) _ j]
    unfold recF upd2
    have hk : j % 9 < 9 := Nat.mod_lt _ (by omega)
    generalize j % 9 = k' at hk
    generalize j / 9 = i'
    by_cases e : i' = i
    · subst e; rcases k' with _ | _ | _ | _ | _ | _ | _ | _ | k' <;> simp [thF, upd_same]
    · rcases k' with _ | _ | _ | _ | _ | _ | _ | _ | k' <;> simp [thF, upd_ne _ _ e, e]
  refine h1.dropped fun r d hr => ?_
  cases r with
  | T => exact .inl hr
  | seen l =>
    simp only [memOf] at hr
    by_cases hl : l < st.n ∧ upd st.pc i u l ≠ 0
    · rw [if_pos hl] at hr
      by_cases e : l = i
      · subst e
        rw [upd_same] at hl
        rcases hz with hz | hz | ⟨hz1, hz2⟩
        · exact .inl (by simpa [memOf, hl.1, hz] using hr)
        · exact absurd hz hl.2
        · cases hr
          exact .inr ⟨hz1, by simp [lsRow, hz2]⟩
      · rw [upd_ne _ _ e] at hl
        exact .inl (by simpa [memOf, hl.1, hl.2] using hr)
    · rw [if_neg hl] at hr; cases hr
  | _ => exact .inl hr
theorem tsetNil (hz : st.pc i = 0) : ∃ V', V' .T = V .T ∧ V' (.seen i) = nilV ∧ Mems B (memOf mb { st with seen := upd st.seen i [] } V' oV) (w.setCell ⟨tb, i * 9 + 8, none⟩ nilV) := by
  refine ⟨fun r => if r = .seen i then nilV else V r, rfl, by simp, tset h hT hi 8 (by omega) _ rfl rfl (fun i' k' hk => ?_) fun r hr => ?_⟩
  · unfold upd2
    by_cases e : i' = i
    · subst e; rcases k' with _ | _ | _ | _ | _ | _ | _ | _ | k' <;> simp [thF] <;> omega
    · rcases k' with _ | _ | _ | _ | _ | _ | _ | _ | k' <;> simp [thF, e]
  · cases r with
    | T => exact absurd rfl hr
    | seen l =>
      by_cases e : l = i
      · subst e; simp [memOf, hz]
      · simp [memOf, e, upd_ne _ _ e]
    | box => simp only [memOf]; congr 2
    | _ => rfl
end
end
end Go.Proofs.Yteainbnoemkfcaa
namespace Go.Proofs.Yteainbnoemkfcaa
open Go.RowKit Go.Turn
open Go.ConcN (upd upd_ne upd_same)
section
variable {B mb : Nat} {oV : Nat → Value} {st : RM} {V : Rl → Value} {w w' : World}
theorem refslot_ok (h : Mems B (memOf mb st V oV) w) (h0 : 0 < st.size) (h2 : st.size ≤ 65536) (q : Int) (g : GoodI q) : Calls Try.prog 45 #[.pointer (some ⟨mb, 0, none⟩), .int .i64 q] w fun e w' => e = .returned (.int .i64 (q % (st.size : Int))) ∧ w = w' := by
  obtain ⟨g0, g1⟩ := g
  have c0 := bcell h 0 (by omega)
  simp only [boxF] at c0
  have hb0 : 0 ≤ q % (st.size : Int) := Int.emod_nonneg _ (by omega)
  have hb1 : q % (st.size : Int) < st.size := Int.emod_lt_of_pos _ (by omega)
  have hq : Int.tmod q st.size = q % (st.size : Int) := Int.tmod_eq_emod_of_nonneg g0
  have hz : ((st.size : Int) == 0) = false := by simp; omega
  clear h
  go_enter Try.func45, Try.ntmps45
  go_wp2
  go_ret
  try exact ⟨rfl, rfl⟩
theorem reflap_ok (h : Mems B (memOf mb st V oV) w) (h0 : 0 < st.size) (h2 : st.size ≤ 65536) (q : Int) (g : GoodI q) : Calls Try.prog 44 #[.pointer (some ⟨mb, 0, none⟩), .int .i64 q] w fun e w' => e = .returned (.int .i64 (q / (st.size : Int))) ∧ w = w' := by
  obtain ⟨g0, g1⟩ := g
  have c0 := bcell h 0 (by omega)
  simp only [boxF] at c0
  have hd0 : 0 ≤ q / (st.size : Int) := Int.ediv_nonneg g0 (by omega)
  have hd1 : q / (st.size : Int) ≤ q := Int.ediv_le_self _ g0
  have hq : Int.tdiv q st.size = q / (st.size : Int) := Int.tdiv_eq_ediv_of_nonneg g0
  have hz : ((st.size : Int) == 0) = false := by simp; omega
  clear h
  go_enter Try.func44, Try.ntmps44
  go_wp2
  go_ret
  try exact ⟨rfl, rfl⟩
theorem refgood_ok (q : Int) (w : World) : Calls Try.prog 17 #[.int .i64 q] w fun e w' => e = .returned (.bool (decide (GoodI q))) ∧ w = w' := by
  by_cases h0 : 0 ≤ q
  · by_cases h1 : q < 4611686018427387904
    · have hg : decide (GoodI q) = true := decide_eq_true ⟨h0, h1⟩
      rw [hg]
      clear hg
      go_enter Try.func17, Try.ntmps17
      go_wp2
      go_ret
      try exact ⟨rfl, rfl⟩
    · have hg : decide (GoodI q) = false := decide_eq_false fun h => h1 h.2
      rw [hg]
      clear hg
      go_enter Try.func17, Try.ntmps17
      go_wp2
      go_ret
      try exact ⟨rfl, rfl⟩
  · have hg : decide (GoodI q) = false := decide_eq_false fun h => h0 h.1
    rw [hg]
    clear hg
    go_enter Try.func17, Try.ntmps17
    go_wp2
    go_ret
    try exact ⟨rfl, rfl⟩
end
end Go.Proofs.Yteainbnoemkfcaa
namespace Go.Proofs.Yteainbnoemkfcaa
open Go.RowKit Go.Turn
open Go.ConcN (upd upd_ne upd_same)
def memE (mb : Nat) (st : RM) (V : Rl → Value) (i : Nat) (v : Value) (a : Ans) (lv : Value) (F : Nat → Nat → Value) : Rl → Option Row := fun r =>
  if r = .T then some ⟨104, 9, V .T, st.n, recF 9 F⟩
  else if r = .ans i then some ⟨46, 3, v, (st.ans i).length + 1, recF 3 (ansF (fun r => if r = .ls i (st.ans i).length then lv else V r) i (st.ans i ++ [a]))⟩
  else memOf mb st V (fun _ => nilV) r
section
variable {B mb : Nat} {oV : Nat → Value} {st : RM} {V : Rl → Value} {w w' : World} {tb tc i : Nat} {v : Value} {a : Ans} {lv : Value} {F : Nat → Nat → Value}
theorem memE_T : memE mb st V i v a lv F .T = some ⟨104, 9, V .T, st.n, recF 9 F⟩ := if_pos rfl
theorem memE_box : memE mb st V i v a lv F .box = some ⟨102, 5, .slice (some ⟨mb, 0, none⟩) 1 1, 1, boxF st V⟩ := rfl
theorem endF (hT : V .T = .slice (some ⟨tb, 0, none⟩) st.n tc) (h : Mems B (memE mb st V i v a lv F) w) (hi : i < st.n) (k : Nat) (hk : k < 9) : w.cell? ⟨tb, i * 9 + k, none⟩ = some (F i k) := by
  have e := memE_T (mb := mb) (st := st) (V := V) (i := i) (v := v) (a := a) (lv := lv) (F := F)
  rw [hT] at e
  rw [h.cell e (recF_lt hi hk), recF_at hk]
theorem endZ (hT : V .T = .slice (some ⟨tb, 0, none⟩) st.n tc) (h : Mems B (memE mb st V i v a lv F) w) (j : Nat) : w.frozen? ⟨tb, j, none⟩ = false := by
  have e := memE_T (mb := mb) (st := st) (V := V) (i := i) (v := v) (a := a) (lv := lv) (F := F)
  rw [hT] at e
  exact h.frozen e j
theorem endB (h : Mems B (memE mb st V i v a lv F) w) (k : Nat) (hk : k < 5) : w.cell? ⟨mb, k, none⟩ = some (boxF st V k) := h.cell memE_box (by omega)
theorem endS (hT : V .T = .slice (some ⟨tb, 0, none⟩) st.n tc) (h : Mems B (memE mb st V i v a lv F) w) (i' k : Nat) (hk : k < 9) (u : Value) : Mems B (memE mb st V i v a lv (upd2 F i' k u)) (w.setCell ⟨tb, i' * 9 + k, none⟩ u) := by
  have e : ∀ F, memE mb st V i v a lv F .T = _ := fun F => memE_T (mb := mb) (st := st) (V := V) (i := i) (v := v) (a := a) (lv := lv) (F := F)
  rw [hT] at e
  refine h.set (e F) _ u (e _) (fun j _ => recF_upd hk u j) fun r hr => ?_
  simp only [memE, hr, if_false]
theorem end_app (h : Mems B (memOf mb st V oV) w) (hi : i < st.n) (hne : ∀ k, V (.ls i k) = V (.ls i k)) {w1 : World} (hown : w1.ownsRow B 46 3 v ((st.ans i).length + 1) (cellsN ((st.ans i).length * 3) (recF 3 (ansF V i (st.ans i))) ++ [.bool a.ok, .int .i64 a.n, lv]))
    (hg : w.grownBy w1 (V (.ans i)).ownBlock) (hv : v.ownBlock = (V (.ans i)).ownBlock ∨ v.ownBlock = some w.heap.size) : Mems B (memE mb st V i v a lv (thF st V oV)) w1 := by
  have h0 : Mems B (fun r => if r = .T then some ⟨104, 9, V .T, st.n, recF 9 (thF st V oV)⟩ else memOf mb st V (fun _ => nilV) r) w := h.mono fun r d hr => by
    cases r <;> exact hr
  refine h0.app (r := .ans i) (d := ⟨46, 3, V (.ans i), (st.ans i).length, recF 3 (ansF V i (st.ans i))⟩) (d' := ⟨46, 3, v, (st.ans i).length + 1, recF 3 (ansF (fun r => if r = .ls i (st.ans i).length then lv else V r) i (st.ans i ++ [a]))⟩) ?_ ?_ (fun r hr => ?_) hg ?_ hv
  · simp [memOf, hi]
  · simp [memE]
  · by_cases e : r = .T
    · subst e; rfl
    · simp [memE, e, hr]
  · have := hown
    unfold Row.At
    simp only
    have e : cellsN (((st.ans i).length + 1) * 3) (recF 3 (ansF (fun r => if r = .ls i (st.ans i).length then lv else V r) i (st.ans i ++ [a]))) = cellsN ((st.ans i).length * 3) (recF 3 (ansF V i (st.ans i))) ++ [.bool a.ok, .int .i64 a.n, lv] := by
      have e1 : ([.bool a.ok, .int .i64 a.n, lv] : List Value) = cellsN 3 (fun j => ([.bool a.ok, .int .i64 a.n, lv] : List Value).getD j undef) := cellsN_list _ _
      rw [e1, cellsN_app, show (st.ans i).length * 3 + 3 = ((st.ans i).length + 1) * 3 from by omega]
      refine cellsN_congr fun j hj => ?_
      by_cases hlt : j < (st.ans i).length * 3
      · have hlt' : j / 3 < (st.ans i).length := (Nat.div_lt_iff_lt_mul (by omega)).2 hlt
        simp only [recF, hlt, if_true]
        generalize j % 3 = k
        generalize j / 3 = l at hlt'
        have e2 : ¬ l = (st.ans i).length := by omega
        rcases k with _ | _ | k <;> simp [ansF, e2, List.getElem?_append_left hlt']
      · obtain ⟨k, rfl⟩ : ∃ k, j = (st.ans i).length * 3 + k := ⟨j - (st.ans i).length * 3, by omega⟩
        have hk : k < 3 := by omega
        rw [recF_at hk]
        simp only [hlt, if_false, Nat.add_sub_cancel_left]
        rcases k with _ | _ | _ | k
        · simp [ansF]
        · simp [ansF]
        · simp [ansF]
        · omega
    rw [e]
    exact this
theorem end_fin (h : Mems B (memE mb st V i v a lv (upd2 (upd2 (upd2 (thF st V oV) i 1 v) i 3 (.int .i64 ((st.at_ i + 1 : Nat) : Int))) i 4 (.int .i64 0))) w) (hi : i < st.n) (hl : (a.ls = [] ∧ lv = nilV) ∨ (st.pc i ≠ 0 ∧ a.ls = st.seen i ∧ lv = V (.seen i))) : RMem B mb oV (st.end_ i a) w := by
  have hseen : Mems B (fun r => if r = .ls i (st.ans i).length then some (lsRow lv a.ls) else if r = .seen i then none else memE mb st V i v a lv (upd2 (upd2 (upd2 (thF st V oV) i 1 v) i 3 (.int .i64 ((st.at_ i + 1 : Nat) : Int))) i 4 (.int .i64 0)) r) w := by
    rcases hl with ⟨e1, e2⟩ | ⟨e0, e1, e2⟩
    · refine h.dropped fun r d hr => ?_
      by_cases c1 : r = .ls i (st.ans i).length
      · simp only [c1, if_true] at hr
        cases hr
        exact .inr ⟨by rw [e2]; rfl, by simp [lsRow, e1]⟩
      · simp only [c1, if_false] at hr
        by_cases c2 : r = .seen i
        · simp [c2] at hr
        · simp only [c2, if_false] at hr; exact .inl hr
    · refine h.moved (r := .seen i) (r2 := .ls i (st.ans i).length) (d := lsRow lv a.ls) ?_ (by simp) (fun d' hd => ?_) (by simp) (fun r c1 c2 => ?_)
      · simp [memE, memOf, hi, e0, e1, e2]
      · simp at hd
      · simp only [c1, c2, if_false]
  refine ⟨fun r => if r = .ans i then v else if r = .ls i (st.ans i).length then lv else V r, hseen.mono fun r d hr => ?_⟩
  cases r with
  | box =>
    have : boxF (st.end_ i a) (fun r => if r = .ans i then v else if r = .ls i (st.ans i).length then lv else V r) = boxF st V := by
      funext k
      rcases k with _ | _ | _ | _ | k <;> simp [boxF, RM.end_]
    simp only [memOf, this] at hr
    simpa [memE, memOf] using hr
  | S => simpa [memE, memOf, RM.end_] using hr
  | V => simpa [memE, memOf, RM.end_] using hr
  | T =>
    have : recF 9 (thF (st.end_ i a) (fun r => if r = .ans i then v else if r = .ls i (st.ans i).length then lv else V r) oV) = recF 9 (upd2 (upd2 (upd2 (thF st V oV) i 1 v) i 3 (.int .i64 ((st.at_ i + 1 : Nat) : Int))) i 4 (.int .i64 0)) := by
      funext j
      unfold recF upd2
      have hk : j % 9 < 9 := Nat.mod_lt _ (by omega)
      generalize j % 9 = k' at hk
      generalize j / 9 = i'
      by_cases e : i' = i
      · subst e; rcases k' with _ | _ | _ | _ | _ | _ | _ | _ | k' <;> simp [thF, RM.end_, upd_same]
      · rcases k' with _ | _ | _ | _ | _ | _ | _ | _ | k' <;> simp [thF, RM.end_, upd_ne _ _ e, e]
    simp only [memOf, this] at hr
    simpa [memE, RM.end_] using hr
  | ans l =>
    by_cases e : l = i
    · subst e
      have : ansF (fun r => if r = .ans l then v else if r = .ls l (st.ans l).length then lv else V r) l (st.ans l ++ [a]) = ansF (fun r => if r = .ls l (st.ans l).length then lv else V r) l (st.ans l ++ [a]) := by
        funext k j
        rcases j with _ | _ | j <;> simp [ansF]
      simp only [memOf, RM.end_, upd_same, hi, if_true, this] at hr
      simpa [memE] using hr
    · have : ansF (fun r => if r = .ans i then v else if r = .ls i (st.ans i).length then lv else V r) l (st.ans l) = ansF V l (st.ans l) := by
        funext k j
        rcases j with _ | _ | j <;> simp [ansF, e]
      simp only [memOf, RM.end_, upd_ne _ _ e, this] at hr
      simpa [memE, memOf, e] using hr
  | seen l =>
    by_cases e : l = i
    · subst e; simp [memOf, RM.end_, upd_same] at hr
    · simpa [memE, memOf, RM.end_, e, upd_ne _ _ e] using hr
  | ls l k =>
    by_cases e : l = i
    · subst e
      by_cases ek : k = (st.ans l).length
      · subst ek
        simpa [memE, memOf, RM.end_, upd_same, hi] using hr
      · simp only [memOf, RM.end_, upd_same, hi, if_true] at hr
        by_cases hk : k < (st.ans l).length
        · rw [List.getElem?_append_left hk] at hr
          simpa [memE, memOf, ek, hi] using hr
        · rw [List.getElem?_eq_none (by simp; omega)] at hr
          cases hr
    · simpa [memE, memOf, RM.end_, e, upd_ne _ _ e] using hr
  | ext k => simpa [memE, memOf, RM.end_] using hr
end
end Go.Proofs.Yteainbnoemkfcaa
namespace Go.Proofs.Yteainbnoemkfcaa
open Go.RowKit Go.Turn
open Go.ConcN (upd upd_ne upd_same)
section
variable {B mb : Nat} {oV : Nat → Value} {st : RM} {V : Rl → Value}
set_option maxHeartbeats 2000000 in
set_option maxRecDepth 100000 in
theorem refend_ok (w : World) (hB : B ≤ w.heap.size) (h : Mems B (memOf mb st V oV) w) {i : Nat} (hi : i < st.n) (hn : st.n ≤ 64) (hat : st.at_ i < 65536) (hans : (st.ans i).length < 65536) (a : Ans) (lv : Value) (hlo : ∃ A c, lv = .slice A a.ls.length c)
    (hl : (a.ls = [] ∧ lv = nilV) ∨ (st.pc i ≠ 0 ∧ a.ls = st.seen i ∧ lv = V (.seen i))) :
    Calls Try.prog 58 #[.pointer (some ⟨mb, 0, none⟩), .int .i64 i, .agg #[.bool a.ok, .int .i64 a.n, lv]] w fun e w' => e = .returned (.tuple #[]) ∧ RMem B mb oV (st.end_ i a) w' ∧ Below B w w' := by
  obtain ⟨tb, tc, hT, htc, _⟩ := tb_of h (by omega)
  obtain ⟨lA, lc, rfl⟩ := hlo
  have HL := Lib.hid hl
  have HM := Lib.hid h
  have HT := Lib.hid hT
  clear hl h hT
  obtain ⟨rA, rc, hrw⟩ : ∃ A c, V (.ans i) = .slice A (st.ans i).length c := own_slice (HM.out.at_ (r := .ans i) (d := ⟨46, 3, V (.ans i), (st.ans i).length, recF 3 (ansF V i (st.ans i))⟩) (by simp only [memOf, hi, if_true]))
  have HRW := Lib.hid hrw
  clear hrw
  go_enter Try.func58, Try.ntmps58
  refine wp_cut fun K hK => ?_
  go_wp2
  refine hK.out _ _ ?_
  clear hK K
  have h1 := Lib.hid (HM.out.alloc (.cells #[.bool a.ok, .int .i64 a.n, .slice lA a.ls.length lc] 46))
  have hb5 := Blk.new w 46 #[.bool a.ok, .int .i64 a.n, .slice lA a.ls.length lc]
  have bw : Below B w (w.alloc (.cells #[.bool a.ok, .int .i64 a.n, .slice lA a.ls.length lc] 46)) := (Below.refl _ _).alloc hB _
  have hsz : (w.alloc (.cells #[.bool a.ok, .int .i64 a.n, .slice lA a.ls.length lc] 46)).heap.size = w.heap.size + 1 := by simp
  have n8 : ∀ r d, memOf mb st V oV r = some d → d.v.ownBlock ≠ some w.heap.size := fun r d hr hz => by have := (HM.out.lt hr hz).2; omega
  have BW := Lib.hid bw
  have N8 := Lib.hid n8
  clear bw n8
  generalize w.alloc (.cells #[.bool a.ok, .int .i64 a.n, .slice lA a.ls.length lc] 46) = v at *
  generalize w.heap.size = b5 at *
  have c1 : v.cell? ⟨mb, 3, none⟩ = some (.slice (some ⟨tb, 0, none⟩) st.n tc) := by have := bcell h1.out 3 (by omega); rw [this]; exact congrArg some HT.out
  have c2 : v.cell? ⟨tb, i * 9 + 1, none⟩ = some (.slice rA (st.ans i).length rc) := by have := tcell h1.out HT.out hi 1 (by omega); rw [this]; exact congrArg some HRW.out
  have o0 := hb5.cell 0
  have o1 := hb5.cell 1
  have o2 := hb5.cell 2
  simp at o0 o1 o2
  obtain ⟨i0, hi0, hz0, hz1, hz2⟩ := info_parts Try.infoAns
  have rA_ := h1.out.at_ (r := .ans i) (d := ⟨46, 3, V (.ans i), (st.ans i).length, recF 3 (ansF V i (st.ans i))⟩) (by simp only [memOf, hi, if_true])
  have hq1 : v.ownsRow B 46 3 (.slice rA (st.ans i).length rc) (st.ans i).length (cellsN ((st.ans i).length * 3) (recF 3 (ansF V i (st.ans i)))) := by rw [← HRW.out]; exact rA_
  have HQ1 := Lib.hid hq1
  have l8 := hb5.lt
  have lmb := lt_of_cell c1
  have ltb := lt_of_cell c2
  have hBv : B ≤ v.heap.size := by omega
  have own_ne : ∀ b r d, memOf mb st V oV r = some d → d.v.ownBlock = some b → r ≠ .ans i → (Value.slice rA (st.ans i).length rc).ownBlock ≠ some b := fun b r d hr hb hne hz => by
    obtain ⟨lab, k⟩ := h1.out.ex
    have l1 := (k r d hr).2 b hb
    have l2 := (k (.ans i) ⟨46, 3, V (.ans i), (st.ans i).length, recF 3 (ansF V i (st.ans i))⟩ (by simp only [memOf, hi, if_true])).2 b (by rw [HRW.out]; exact hz)
    rw [l1] at l2
    cases l2
    exact hne rfl
  have nmb := own_ne mb .box _ rfl rfl (by simp)
  have ntb := own_ne tb .T _ rfl (by rw [HT.out]; rfl) (by simp)
  have nb5 : (Value.slice rA (st.ans i).length rc).ownBlock ≠ some b5 := fun hz => N8.out (.ans i) ⟨46, 3, V (.ans i), (st.ans i).length, recF 3 (ansF V i (st.ans i))⟩ (by simp only [memOf, hi, if_true]) (by rw [HRW.out]; exact hz)
  have HSZ := Lib.hid hsz
  clear hq1 rA_ own_ne hsz
  refine wp_cut fun K hK => ?_
  refine wp_region_last (S := fun w' => w'.cell? ⟨mb, 3, none⟩ = some (.slice (some ⟨tb, 0, none⟩) st.n tc) ∧ w'.cell? ⟨tb, i * 9 + 1, none⟩ = some (.slice rA (st.ans i).length rc) ∧ w'.cell? ⟨b5, 0, none⟩ = some (.bool a.ok) ∧ w'.cell? ⟨b5, 1, none⟩ = some (.int .i64 a.n) ∧ w'.cell? ⟨b5, 2, none⟩ = some (.slice lA a.ls.length lc)) 18 (by kernel_rfl) (by kernel_rfl) (by kernel_rfl) ?_
  simp only [idle, List.modify_toArray, List.modify_succ_cons, List.modify_zero_cons, List.size_toArray, List.length_cons, List.length_nil, Nat.reduceAdd]
  have HS : v.drew.cell? ⟨mb, 3, none⟩ = some (.slice (some ⟨tb, 0, none⟩) st.n tc) ∧ v.drew.cell? ⟨tb, i * 9 + 1, none⟩ = some (.slice rA (st.ans i).length rc) ∧ v.drew.cell? ⟨b5, 0, none⟩ = some (.bool a.ok) ∧ v.drew.cell? ⟨b5, 1, none⟩ = some (.int .i64 a.n) ∧ v.drew.cell? ⟨b5, 2, none⟩ = some (.slice lA a.ls.length lc) := ⟨c1, c2, o0, o1, o2⟩
  refine wpAnyH_read (i := 0) (some 6) rfl rfl (by kernel_rfl) (by kernel_rfl) (by kernel_rfl) (fun _ _ _ h => h) rfl HS ?_
  apply Exists.intro
  refine ⟨fun wq hw => ?_, ?_⟩
  · obtain ⟨hw1, hw2, hw3, hw4, hw5⟩ := hw
    go_simp
    rfl
  simp only [Act.put, List.setIfInBounds_toArray, List.set_cons_zero, List.set_cons_succ]
  refine wpAnyH_read (i := 1) (some 7) rfl rfl (by kernel_rfl) (by kernel_rfl) (by kernel_rfl) (fun _ _ _ h => h) rfl HS ?_
  apply Exists.intro
  refine ⟨fun wq hw => ?_, ?_⟩
  · obtain ⟨hw1, hw2, hw3, hw4, hw5⟩ := hw
    go_simp
    rfl
  simp only [Act.put, List.setIfInBounds_toArray, List.set_cons_zero, List.set_cons_succ]
  refine wpAnyH_read (i := 2) (some 8) rfl rfl (by kernel_rfl) (by kernel_rfl) (by kernel_rfl) (fun _ _ _ h => h) rfl HS ?_
  apply Exists.intro
  refine ⟨fun wq hw => ?_, ?_⟩
  · obtain ⟨hw1, hw2, hw3, hw4, hw5⟩ := hw
    go_simp
    rfl
  simp only [Act.put, List.setIfInBounds_toArray, List.set_cons_zero, List.set_cons_succ]
  refine wpAnyH_read (i := 3) (some 9) rfl rfl (by kernel_rfl) (by kernel_rfl) (by kernel_rfl) (fun _ _ _ h => h) rfl HS ?_
  apply Exists.intro
  refine ⟨fun wq hw => ?_, ?_⟩
  · obtain ⟨hw1, hw2, hw3, hw4, hw5⟩ := hw
    go_simp
    rfl
  simp only [Act.put, List.setIfInBounds_toArray, List.set_cons_zero, List.set_cons_succ]
  refine wpAnyH_read (i := 4) (some 10) rfl rfl (by kernel_rfl) (by kernel_rfl) (by kernel_rfl) (fun _ _ _ h => h) rfl HS ?_
  apply Exists.intro
  refine ⟨fun wq hw => ?_, ?_⟩
  · obtain ⟨hw1, hw2, hw3, hw4, hw5⟩ := hw
    go_simp
    rfl
  simp only [Act.put, List.setIfInBounds_toArray, List.set_cons_zero, List.set_cons_succ]
  refine wpAnyH_read (i := 5) (some 11) rfl rfl (by kernel_rfl) (by kernel_rfl) (by kernel_rfl) (fun _ _ _ h => h) rfl HS ?_
  apply Exists.intro
  refine ⟨fun wq hw => ?_, ?_⟩
  · obtain ⟨hw1, hw2, hw3, hw4, hw5⟩ := hw
    go_simp
    rfl
  simp only [Act.put, List.setIfInBounds_toArray, List.set_cons_zero, List.set_cons_succ]
  refine wpAnyH_read (i := 6) (some 12) rfl rfl (by kernel_rfl) (by kernel_rfl) (by kernel_rfl) (fun _ _ _ h => h) rfl HS ?_
  apply Exists.intro
  refine ⟨fun wq hw => ?_, ?_⟩
  · obtain ⟨hw1, hw2, hw3, hw4, hw5⟩ := hw
    go_simp
    rfl
  simp only [Act.put, List.setIfInBounds_toArray, List.set_cons_zero, List.set_cons_succ]
  refine wpAnyH_read (i := 7) (some 13) rfl rfl (by kernel_rfl) (by kernel_rfl) (by kernel_rfl) (fun _ _ _ h => h) rfl HS ?_
  apply Exists.intro
  refine ⟨fun wq hw => ?_, ?_⟩
  · obtain ⟨hw1, hw2, hw3, hw4, hw5⟩ := hw
    go_simp
    rfl
  simp only [Act.put, List.setIfInBounds_toArray, List.set_cons_zero, List.set_cons_succ]
  refine wpAnyH_read (i := 8) (some 14) rfl rfl (by kernel_rfl) (by kernel_rfl) (by kernel_rfl) (fun _ _ _ h => h) rfl HS ?_
  apply Exists.intro
  refine ⟨fun wq hw => ?_, ?_⟩
  · obtain ⟨hw1, hw2, hw3, hw4, hw5⟩ := hw
    go_simp
    rfl
  simp only [Act.put, List.setIfInBounds_toArray, List.set_cons_zero, List.set_cons_succ]
  refine wpAnyH_read (i := 9) (some 15) rfl rfl (by kernel_rfl) (by kernel_rfl) (by kernel_rfl) (fun _ _ _ h => h) rfl HS ?_
  apply Exists.intro
  refine ⟨fun wq hw => ?_, ?_⟩
  · obtain ⟨hw1, hw2, hw3, hw4, hw5⟩ := hw
    go_simp
    rfl
  simp only [Act.put, List.setIfInBounds_toArray, List.set_cons_zero, List.set_cons_succ]
  refine wpAnyH_read (i := 10) (some 16) rfl rfl (by kernel_rfl) (by kernel_rfl) (by kernel_rfl) (fun _ _ _ h => h) rfl HS ?_
  apply Exists.intro
  refine ⟨fun wq hw => ?_, ?_⟩
  · obtain ⟨hw1, hw2, hw3, hw4, hw5⟩ := hw
    go_simp
    rfl
  simp only [Act.put, List.setIfInBounds_toArray, List.set_cons_zero, List.set_cons_succ]
  refine wpAnyH_read (i := 11) (some 17) rfl rfl (by kernel_rfl) (by kernel_rfl) (by kernel_rfl) (fun _ _ _ h => h) rfl HS ?_
  apply Exists.intro
  refine ⟨fun wq hw => ?_, ?_⟩
  · obtain ⟨hw1, hw2, hw3, hw4, hw5⟩ := hw
    go_simp
    rfl
  simp only [Act.put, List.setIfInBounds_toArray, List.set_cons_zero, List.set_cons_succ]
  refine wpAnyH_read (i := 12) (some 18) rfl rfl (by kernel_rfl) (by kernel_rfl) (by kernel_rfl) (fun _ _ _ h => h) rfl HS ?_
  apply Exists.intro
  refine ⟨fun wq hw => ?_, ?_⟩
  · obtain ⟨hw1, hw2, hw3, hw4, hw5⟩ := hw
    go_simp
    rfl
  simp only [Act.put, List.setIfInBounds_toArray, List.set_cons_zero, List.set_cons_succ]
  refine wpAnyH_read (i := 13) (some 19) rfl rfl (by kernel_rfl) (by kernel_rfl) (by kernel_rfl) (fun _ _ _ h => h) rfl HS ?_
  apply Exists.intro
  refine ⟨fun wq hw => ?_, ?_⟩
  · obtain ⟨hw1, hw2, hw3, hw4, hw5⟩ := hw
    go_simp
    rfl
  simp only [Act.put, List.setIfInBounds_toArray, List.set_cons_zero, List.set_cons_succ]
  clear HS
  refine wpAnyH_one (i := 14) (by kernel_rfl) rfl rfl fun K' hK' => ?_
  go_simp
  refine hK' _ _ ⟨(one_cell' v _ _ 3 lmb).trans c1, (one_cell' v _ _ _ ltb).trans c2, (one_cell' v _ _ 0 l8).trans o0, (one_cell' v _ _ 1 l8).trans o1, (one_cell' v _ _ 2 l8).trans o2⟩ ?_
  clear hK' K'
  refine wpAnyH_one (i := 15) (by kernel_rfl) rfl rfl fun K' hK' => ?_
  refine wp_append_lies _ _ _ _ rfl B 46 i0 _ 3 40 Try.underlying44 hi0 hz0 hz1 hz2 rfl (by omega) (.slice rA (st.ans i).length rc) (st.ans i).length _ rfl (HQ1.out.alloc _).drew ⟨v.heap.size, 0, none⟩ 1 1 [.bool a.ok, .int .i64 a.n, .slice lA a.ls.length lc] rfl rfl (World.news_of_block (cs := #[.bool a.ok, .int .i64 a.n, .slice lA a.ls.length lc]) (t := 46) (fr := (0, 0)) (news_one v _ _)) (by simp [Value.oneCell']) (by omega) (by unfold maxLen; omega) (by omega) (by simp; omega) (v.heap.size + 1) (one_len _ _) fun gg cap' w1 hown1 hgrow hgat hgl => ?_
  have ln1 := one_len v (Obj.cells #[.bool a.ok, .int .i64 a.n, .slice lA a.ls.length lc] 46)
  have key : ∀ b, b < v.heap.size → (Value.slice rA (st.ans i).length rc).ownBlock ≠ some b → w1.heap[b]? = v.heap[b]? := fun b hb hne => (hgrow.block b (by rw [ln1]; omega) (fun z => hne z.symm)).trans (Below.heap_alloc _ _ _ hb)
  have k1 := (World.cell?_of_block (w := v) (w' := w1) (a := ⟨mb, 3, none⟩) (key _ lmb nmb)).trans c1
  have k2 := (World.cell?_of_block (w := v) (w' := w1) (a := ⟨tb, i * 9 + 1, none⟩) (key _ ltb ntb)).trans c2
  have k80 := (World.cell?_of_block (w := v) (w' := w1) (a := ⟨b5, 0, none⟩) (key _ l8 nb5)).trans o0
  have k81 := (World.cell?_of_block (w := v) (w' := w1) (a := ⟨b5, 1, none⟩) (key _ l8 nb5)).trans o1
  have k82 := (World.cell?_of_block (w := v) (w' := w1) (a := ⟨b5, 2, none⟩) (key _ l8 nb5)).trans o2
  refine hK' _ _ ⟨k1, k2, k80, k81, k82⟩ ?_
  clear hK' K'
  have HS : w1.cell? ⟨mb, 3, none⟩ = some (.slice (some ⟨tb, 0, none⟩) st.n tc) ∧ w1.cell? ⟨tb, i * 9 + 1, none⟩ = some (.slice rA (st.ans i).length rc) ∧ w1.cell? ⟨b5, 0, none⟩ = some (.bool a.ok) ∧ w1.cell? ⟨b5, 1, none⟩ = some (.int .i64 a.n) ∧ w1.cell? ⟨b5, 2, none⟩ = some (.slice lA a.ls.length lc) := ⟨k1, k2, k80, k81, k82⟩
  simp only [Act.put, List.setIfInBounds_toArray, List.set_cons_zero, List.set_cons_succ, List.getElem_toArray, List.getElem_cons_zero, List.getElem_cons_succ]
  refine wpAnyH_read (i := 16) (some 22) rfl rfl (by kernel_rfl) (by kernel_rfl) (by kernel_rfl) (fun _ _ _ h => h) rfl HS ?_
  apply Exists.intro
  refine ⟨fun wq hw => ?_, ?_⟩
  · obtain ⟨hw1, hw2, hw3, hw4, hw5⟩ := hw
    go_simp
    rfl
  simp only [Act.put, List.setIfInBounds_toArray, List.set_cons_zero, List.set_cons_succ]
  refine wpAnyH_read (i := 17) (some 23) rfl rfl (by kernel_rfl) (by kernel_rfl) (by kernel_rfl) (fun _ _ _ h => h) rfl HS ?_
  apply Exists.intro
  refine ⟨fun wq hw => ?_, ?_⟩
  · obtain ⟨hw1, hw2, hw3, hw4, hw5⟩ := hw
    go_simp
    rfl
  simp only [Act.put, List.setIfInBounds_toArray, List.set_cons_zero, List.set_cons_succ]
  refine wpAnyH_read (i := 18) none rfl rfl (by kernel_rfl) (by kernel_rfl) (by kernel_rfl) (fun _ _ _ h => h) rfl HS ?_
  apply Exists.intro
  refine ⟨fun wq hw => ?_, ?_⟩
  · go_simp
    rfl
  simp only [Act.put]
  clear HS
  refine wpAnyH_done (by kernel_rfl) ?_ _
  simp only [Exit.then]
  refine wpOps_list (m := 18) rfl ?_
  have hm1 : Mems B (memE mb st V i (.slice (some ⟨gg, 0, none⟩) ((st.ans i).length + 1) cap') a (.slice lA a.ls.length lc) (thF st V oV)) w1 := end_app (w := (v.alloc (Obj.cells #[.bool a.ok, .int .i64 a.n, .slice lA a.ls.length lc] 46)).drew) ((h1.out.alloc _).same fun _ _ => rfl) hi (fun _ => rfl) hown1 (by rw [HRW.out]; exact hgrow) (by
    rw [HRW.out]
    rcases hgat with z | z
    · exact .inl z.symm
    · right; rw [ln1]; simp [Value.ownBlock, z])
  have bw1 : Below B w w1 := (Below.drewN (BW.out.alloc (by omega) _) 1).grown hgrow (by show B ≤ (v.alloc (Obj.cells #[.bool a.ok, .int .i64 a.n, .slice lA a.ls.length lc] 46)).heap.size; simp; omega) (fun k hk => (HQ1.out.lt k hk).1)
  have z2 := endZ HT.out hm1 (i * 9 + 1)
  have HM1 := Lib.hid hm1
  have BW1 := Lib.hid bw1
  clear hgrow hown1 hgat key k80 k81 k82 c1 c2 o0 o1 o2 hm1 bw1 HQ1
  go_wp2
  refine hK.out _ _ ?_
  clear hK K k1 k2 z2
  have hm2 := endS HT.out HM1.out i 1 (by omega) (.slice (some ⟨gg, 0, none⟩) ((st.ans i).length + 1) cap')
  have bw2 : Below B w (w1.setCell ⟨tb, i * 9 + 1, none⟩ (.slice (some ⟨gg, 0, none⟩) ((st.ans i).length + 1) cap')) := BW1.out.setCell (HM.out.lt (r := .T) rfl (by rw [HT.out]; rfl)).1 _
  clear HM1 BW1
  generalize World.setCell _ _ _ = w2 at *
  have c1 : w2.cell? ⟨mb, 3, none⟩ = some (.slice (some ⟨tb, 0, none⟩) st.n tc) := by have := endB hm2 3 (by omega); rw [this]; exact congrArg some HT.out
  have c2 : w2.cell? ⟨tb, i * 9 + 3, none⟩ = some (.int .i64 (st.at_ i)) := by have := endF HT.out hm2 hi 3 (by omega); rw [this]; simp [upd2, thF]
  have z2 := endZ HT.out hm2 (i * 9 + 3)
  have HM2 := Lib.hid hm2
  have BW2 := Lib.hid bw2
  clear hm2 bw2
  refine wp_cut fun K hK => ?_
  refine wp_region_last (S := fun w' => w'.cell? ⟨mb, 3, none⟩ = some (.slice (some ⟨tb, 0, none⟩) st.n tc) ∧ w'.cell? ⟨tb, i * 9 + 3, none⟩ = some (.int .i64 (st.at_ i)) ∧ True ∧ True ∧ True) 16 (by kernel_rfl) (by kernel_rfl) (by kernel_rfl) ?_
  simp only [idle, List.modify_toArray, List.modify_succ_cons, List.modify_zero_cons, List.size_toArray, List.length_cons, List.length_nil, Nat.reduceAdd]
  have HS : w2.drew.cell? ⟨mb, 3, none⟩ = some (.slice (some ⟨tb, 0, none⟩) st.n tc) ∧ w2.drew.cell? ⟨tb, i * 9 + 3, none⟩ = some (.int .i64 (st.at_ i)) ∧ True ∧ True ∧ True := ⟨c1, c2, trivial, trivial, trivial⟩
  refine wpAnyH_read (i := 0) (some 24) rfl rfl (by kernel_rfl) (by kernel_rfl) (by kernel_rfl) (fun _ _ _ h => h) rfl HS ?_
  apply Exists.intro
  refine ⟨fun wq hw => ?_, ?_⟩
  · obtain ⟨hw1, hw2, hw3, hw4, hw5⟩ := hw
    go_simp
    rfl
  simp only [Act.put, List.setIfInBounds_toArray, List.set_cons_zero, List.set_cons_succ]
  refine wpAnyH_read (i := 1) (some 25) rfl rfl (by kernel_rfl) (by kernel_rfl) (by kernel_rfl) (fun _ _ _ h => h) rfl HS ?_
  apply Exists.intro
  refine ⟨fun wq hw => ?_, ?_⟩
  · obtain ⟨hw1, hw2, hw3, hw4, hw5⟩ := hw
    go_simp
    rfl
  simp only [Act.put, List.setIfInBounds_toArray, List.set_cons_zero, List.set_cons_succ]
  refine wpAnyH_read (i := 2) (some 26) rfl rfl (by kernel_rfl) (by kernel_rfl) (by kernel_rfl) (fun _ _ _ h => h) rfl HS ?_
  apply Exists.intro
  refine ⟨fun wq hw => ?_, ?_⟩
  · obtain ⟨hw1, hw2, hw3, hw4, hw5⟩ := hw
    go_simp
    rfl
  simp only [Act.put, List.setIfInBounds_toArray, List.set_cons_zero, List.set_cons_succ]
  refine wpAnyH_read (i := 3) (some 27) rfl rfl (by kernel_rfl) (by kernel_rfl) (by kernel_rfl) (fun _ _ _ h => h) rfl HS ?_
  apply Exists.intro
  refine ⟨fun wq hw => ?_, ?_⟩
  · obtain ⟨hw1, hw2, hw3, hw4, hw5⟩ := hw
    go_simp
    rfl
  simp only [Act.put, List.setIfInBounds_toArray, List.set_cons_zero, List.set_cons_succ]
  refine wpAnyH_read (i := 4) (some 28) rfl rfl (by kernel_rfl) (by kernel_rfl) (by kernel_rfl) (fun _ _ _ h => h) rfl HS ?_
  apply Exists.intro
  refine ⟨fun wq hw => ?_, ?_⟩
  · obtain ⟨hw1, hw2, hw3, hw4, hw5⟩ := hw
    go_simp
    rfl
  simp only [Act.put, List.setIfInBounds_toArray, List.set_cons_zero, List.set_cons_succ]
  refine wpAnyH_read (i := 5) (some 29) rfl rfl (by kernel_rfl) (by kernel_rfl) (by kernel_rfl) (fun _ _ _ h => h) rfl HS ?_
  apply Exists.intro
  refine ⟨fun wq hw => ?_, ?_⟩
  · obtain ⟨hw1, hw2, hw3, hw4, hw5⟩ := hw
    go_simp
    rfl
  simp only [Act.put, List.setIfInBounds_toArray, List.set_cons_zero, List.set_cons_succ]
  refine wpAnyH_read (i := 6) (some 30) rfl rfl (by kernel_rfl) (by kernel_rfl) (by kernel_rfl) (fun _ _ _ h => h) rfl HS ?_
  apply Exists.intro
  refine ⟨fun wq hw => ?_, ?_⟩
  · obtain ⟨hw1, hw2, hw3, hw4, hw5⟩ := hw
    go_simp
    rfl
  simp only [Act.put, List.setIfInBounds_toArray, List.set_cons_zero, List.set_cons_succ]
  refine wpAnyH_read (i := 7) (some 31) rfl rfl (by kernel_rfl) (by kernel_rfl) (by kernel_rfl) (fun _ _ _ h => h) rfl HS ?_
  apply Exists.intro
  refine ⟨fun wq hw => ?_, ?_⟩
  · obtain ⟨hw1, hw2, hw3, hw4, hw5⟩ := hw
    go_simp
    rfl
  simp only [Act.put, List.setIfInBounds_toArray, List.set_cons_zero, List.set_cons_succ]
  refine wpAnyH_read (i := 8) (some 32) rfl rfl (by kernel_rfl) (by kernel_rfl) (by kernel_rfl) (fun _ _ _ h => h) rfl HS ?_
  apply Exists.intro
  refine ⟨fun wq hw => ?_, ?_⟩
  · obtain ⟨hw1, hw2, hw3, hw4, hw5⟩ := hw
    go_simp
    rfl
  simp only [Act.put, List.setIfInBounds_toArray, List.set_cons_zero, List.set_cons_succ]
  refine wpAnyH_read (i := 9) (some 33) rfl rfl (by kernel_rfl) (by kernel_rfl) (by kernel_rfl) (fun _ _ _ h => h) rfl HS ?_
  apply Exists.intro
  refine ⟨fun wq hw => ?_, ?_⟩
  · obtain ⟨hw1, hw2, hw3, hw4, hw5⟩ := hw
    go_simp
    rfl
  simp only [Act.put, List.setIfInBounds_toArray, List.set_cons_zero, List.set_cons_succ]
  refine wpAnyH_read (i := 10) (some 34) rfl rfl (by kernel_rfl) (by kernel_rfl) (by kernel_rfl) (fun _ _ _ h => h) rfl HS ?_
  apply Exists.intro
  refine ⟨fun wq hw => ?_, ?_⟩
  · obtain ⟨hw1, hw2, hw3, hw4, hw5⟩ := hw
    go_simp
    rfl
  simp only [Act.put, List.setIfInBounds_toArray, List.set_cons_zero, List.set_cons_succ]
  refine wpAnyH_read (i := 11) (some 35) rfl rfl (by kernel_rfl) (by kernel_rfl) (by kernel_rfl) (fun _ _ _ h => h) rfl HS ?_
  apply Exists.intro
  refine ⟨fun wq hw => ?_, ?_⟩
  · obtain ⟨hw1, hw2, hw3, hw4, hw5⟩ := hw
    go_simp
    rfl
  simp only [Act.put, List.setIfInBounds_toArray, List.set_cons_zero, List.set_cons_succ]
  refine wpAnyH_read (i := 12) (some 36) rfl rfl (by kernel_rfl) (by kernel_rfl) (by kernel_rfl) (fun _ _ _ h => h) rfl HS ?_
  apply Exists.intro
  refine ⟨fun wq hw => ?_, ?_⟩
  · obtain ⟨hw1, hw2, hw3, hw4, hw5⟩ := hw
    go_simp
    rfl
  simp only [Act.put, List.setIfInBounds_toArray, List.set_cons_zero, List.set_cons_succ]
  refine wpAnyH_read (i := 13) (some 37) rfl rfl (by kernel_rfl) (by kernel_rfl) (by kernel_rfl) (fun _ _ _ h => h) rfl HS ?_
  apply Exists.intro
  refine ⟨fun wq hw => ?_, ?_⟩
  · obtain ⟨hw1, hw2, hw3, hw4, hw5⟩ := hw
    go_simp
    rfl
  simp only [Act.put, List.setIfInBounds_toArray, List.set_cons_zero, List.set_cons_succ]
  refine wpAnyH_read (i := 14) (some 38) rfl rfl (by kernel_rfl) (by kernel_rfl) (by kernel_rfl) (fun _ _ _ h => h) rfl HS ?_
  apply Exists.intro
  refine ⟨fun wq hw => ?_, ?_⟩
  · obtain ⟨hw1, hw2, hw3, hw4, hw5⟩ := hw
    go_simp
    rfl
  simp only [Act.put, List.setIfInBounds_toArray, List.set_cons_zero, List.set_cons_succ]
  refine wpAnyH_read (i := 15) (some 39) rfl rfl (by kernel_rfl) (by kernel_rfl) (by kernel_rfl) (fun _ _ _ h => h) rfl HS ?_
  apply Exists.intro
  refine ⟨fun wq hw => ?_, ?_⟩
  · obtain ⟨hw1, hw2, hw3, hw4, hw5⟩ := hw
    go_simp
    rfl
  simp only [Act.put, List.setIfInBounds_toArray, List.set_cons_zero, List.set_cons_succ]
  refine wpAnyH_read (i := 16) none rfl rfl (by kernel_rfl) (by kernel_rfl) (by kernel_rfl) (fun _ _ _ h => h) rfl HS ?_
  apply Exists.intro
  refine ⟨fun wq hw => ?_, ?_⟩
  · go_simp
    rfl
  simp only [Act.put]
  clear HS
  refine wpAnyH_done (by kernel_rfl) ?_ _
  simp only [Exit.then]
  refine wpOps_list (m := 16) rfl ?_
  have hm2 : Mems B _ w2.drew := HM2.out.same fun _ _ => rfl
  have bw2 : Below B w w2.drew := Below.drewN BW2.out 1
  have z2 : w2.drew.frozen? ⟨tb, i * 9 + 3, none⟩ = false := z2
  have c2 : w2.drew.cell? ⟨tb, i * 9 + 3, none⟩ = some (.int .i64 (st.at_ i)) := c2
  have HM3 := Lib.hid hm2
  have BW3 := Lib.hid bw2
  clear HM2 BW2 hm2 bw2 c1
  generalize w2.drew = w3 at *
  go_wp2
  refine hK.out _ _ ?_
  clear hK K z2 c2
  have hm4 := endS HT.out HM3.out i 3 (by omega) (.int .i64 ((st.at_ i + 1 : Nat) : Int))
  have bw4 : Below B w (w3.setCell ⟨tb, i * 9 + 3, none⟩ (.int .i64 ((st.at_ i + 1 : Nat) : Int))) := BW3.out.setCell (HM.out.lt (r := .T) rfl (by rw [HT.out]; rfl)).1 _
  clear HM3 BW3
  rw [show ((st.at_ i : Int) + 1) = ((st.at_ i + 1 : Nat) : Int) from by omega]
  generalize World.setCell _ _ _ = w4 at *
  have c1 : w4.cell? ⟨mb, 3, none⟩ = some (.slice (some ⟨tb, 0, none⟩) st.n tc) := by have := endB hm4 3 (by omega); rw [this]; exact congrArg some HT.out
  have c2 := endF HT.out hm4 hi 4 (by omega)
  have z2 := endZ HT.out hm4 (i * 9 + 4)
  have hm5 := endS HT.out hm4 i 4 (by omega) (.int .i64 0)
  have bw5 : Below B w (w4.setCell ⟨tb, i * 9 + 4, none⟩ (.int .i64 0)) := bw4.setCell (HM.out.lt (r := .T) rfl (by rw [HT.out]; rfl)).1 _
  have HM5 := Lib.hid (end_fin hm5 hi HL.out)
  have BW5 := Lib.hid bw5
  clear hm4 bw4 hm5 bw5
  go_wp2
  go_end0
  exact ⟨rfl, HM5.out, BW5.out⟩
end
end Go.Proofs.Yteainbnoemkfcaa
namespace Go.Proofs.Yteainbnoemkfcaa
open Go.RowKit Go.Turn
open Go.ConcN (upd upd_ne upd_same)
section
variable {B mb : Nat} {oV : Nat → Value} {st : RM} {V : Rl → Value}
def Fresh (B mb : Nat) (oV : Nat → Value) (st : RM) (i tb tc : Nat) (w : World) : Prop := ∃ V, V .T = .slice (some ⟨tb, 0, none⟩) st.n tc ∧ V (.seen i) = nilV ∧ Mems B (memOf mb st V oV) w
set_option maxHeartbeats 4000000 in
set_option maxRecDepth 100000 in
theorem refbegin_ok (w : World) (hB : B ≤ w.heap.size) (h : Mems B (memOf mb st V oV) w) {i : Nat} (hi : i < st.n) (hn : st.n ≤ 64) (hat : st.at_ i < 65536) (hans : (st.ans i).length < 65536) (hpc : st.pc i = 0) (hs : st.size ≤ 65536) (o : OpI) (ho : -9223372036854775808 ≤ o.a ∧ o.a < 9223372036854775808) :
    Calls Try.prog 57 #[.pointer (some ⟨mb, 0, none⟩), .int .i64 i, o.val] w fun e w' => e = .returned (.tuple #[]) ∧ RMem B mb oV (st.begin_ i o) w' ∧ Below B w w' := by
  obtain ⟨tb, tc, hT, htc, _⟩ := tb_of h (by omega)
  obtain ⟨kd, oa, ob, oc⟩ := o
  simp only at ho
  unfold OpI.val
  simp only
  have HM := Lib.hid h
  have HT := Lib.hid hT
  clear h hT
  go_enter Try.func57, Try.ntmps57
  refine wp_cut fun K hK => ?_
  go_wp2
  refine hK.out _ _ ?_
  clear hK K
  have h1 := Lib.hid (HM.out.alloc (.cells #[.int .i64 kd, .int .i64 oa, .int .i64 ob, .int .i64 oc] 49))
  have hb5 := Blk.new w 49 #[.int .i64 kd, .int .i64 oa, .int .i64 ob, .int .i64 oc]
  have bw : Below B w (w.alloc (.cells #[.int .i64 kd, .int .i64 oa, .int .i64 ob, .int .i64 oc] 49)) := (Below.refl _ _).alloc hB _
  have n5 : tb ≠ w.heap.size := by have := (HM.out.lt (r := .T) (b := tb) rfl (by rw [HT.out]; rfl)).2; omega
  have BW := Lib.hid bw
  clear bw
  generalize w.alloc (.cells #[.int .i64 kd, .int .i64 oa, .int .i64 ob, .int .i64 oc] 49) = v at *
  obtain ⟨b5, hb⟩ : ∃ b5, b5 = w.heap.size := ⟨_, rfl⟩
  rw [← hb] at hb5 n5 ⊢
  have HBB := Lib.hid hb
  clear hb
  have c1 : v.cell? ⟨mb, 3, none⟩ = some (.slice (some ⟨tb, 0, none⟩) st.n tc) := by have := bcell h1.out 3 (by omega); rw [this]; exact congrArg some HT.out
  have o1 := hb5.cell 1
  simp at o1
  have c2 := tcell h1.out HT.out hi 5 (by omega)
  have z2 := tfrozen h1.out HT.out (i * 9 + 5)
  simp only [thF] at c2
  have HB5 := Lib.hid hb5
  clear hb5
  refine wp_cut fun K hK => ?_
  refine wp_region_last (S := fun w' => w'.cell? ⟨mb, 3, none⟩ = some (.slice (some ⟨tb, 0, none⟩) st.n tc) ∧ w'.cell? ⟨b5, 1, none⟩ = some (.int .i64 oa) ∧ True ∧ True ∧ True) 9 (by kernel_rfl) (by kernel_rfl) (by kernel_rfl) ?_
  simp only [idle, List.modify_toArray, List.modify_succ_cons, List.modify_zero_cons, List.size_toArray, List.length_cons, List.length_nil, Nat.reduceAdd]
  have HS : v.drew.cell? ⟨mb, 3, none⟩ = some (.slice (some ⟨tb, 0, none⟩) st.n tc) ∧ v.drew.cell? ⟨b5, 1, none⟩ = some (.int .i64 oa) ∧ True ∧ True ∧ True := ⟨c1, o1, trivial, trivial, trivial⟩
  refine wpAnyH_read (i := 0) (some 7) rfl rfl (by kernel_rfl) (by kernel_rfl) (by kernel_rfl) (fun _ _ _ h => h) rfl HS ?_
  apply Exists.intro
  refine ⟨fun wq hw => ?_, ?_⟩
  · obtain ⟨hw1, hw2, hw3, hw4, hw5⟩ := hw
    go_simp
    rfl
  simp only [Act.put, List.setIfInBounds_toArray, List.set_cons_zero, List.set_cons_succ]
  refine wpAnyH_read (i := 1) (some 8) rfl rfl (by kernel_rfl) (by kernel_rfl) (by kernel_rfl) (fun _ _ _ h => h) rfl HS ?_
  apply Exists.intro
  refine ⟨fun wq hw => ?_, ?_⟩
  · obtain ⟨hw1, hw2, hw3, hw4, hw5⟩ := hw
    go_simp
    rfl
  simp only [Act.put, List.setIfInBounds_toArray, List.set_cons_zero, List.set_cons_succ]
  refine wpAnyH_read (i := 2) (some 9) rfl rfl (by kernel_rfl) (by kernel_rfl) (by kernel_rfl) (fun _ _ _ h => h) rfl HS ?_
  apply Exists.intro
  refine ⟨fun wq hw => ?_, ?_⟩
  · obtain ⟨hw1, hw2, hw3, hw4, hw5⟩ := hw
    go_simp
    rfl
  simp only [Act.put, List.setIfInBounds_toArray, List.set_cons_zero, List.set_cons_succ]
  refine wpAnyH_read (i := 3) (some 10) rfl rfl (by kernel_rfl) (by kernel_rfl) (by kernel_rfl) (fun _ _ _ h => h) rfl HS ?_
  apply Exists.intro
  refine ⟨fun wq hw => ?_, ?_⟩
  · obtain ⟨hw1, hw2, hw3, hw4, hw5⟩ := hw
    go_simp
    rfl
  simp only [Act.put, List.setIfInBounds_toArray, List.set_cons_zero, List.set_cons_succ]
  refine wpAnyH_read (i := 4) (some 11) rfl rfl (by kernel_rfl) (by kernel_rfl) (by kernel_rfl) (fun _ _ _ h => h) rfl HS ?_
  apply Exists.intro
  refine ⟨fun wq hw => ?_, ?_⟩
  · obtain ⟨hw1, hw2, hw3, hw4, hw5⟩ := hw
    go_simp
    rfl
  simp only [Act.put, List.setIfInBounds_toArray, List.set_cons_zero, List.set_cons_succ]
  refine wpAnyH_read (i := 5) (some 12) rfl rfl (by kernel_rfl) (by kernel_rfl) (by kernel_rfl) (fun _ _ _ h => h) rfl HS ?_
  apply Exists.intro
  refine ⟨fun wq hw => ?_, ?_⟩
  · obtain ⟨hw1, hw2, hw3, hw4, hw5⟩ := hw
    go_simp
    rfl
  simp only [Act.put, List.setIfInBounds_toArray, List.set_cons_zero, List.set_cons_succ]
  refine wpAnyH_read (i := 6) (some 13) rfl rfl (by kernel_rfl) (by kernel_rfl) (by kernel_rfl) (fun _ _ _ h => h) rfl HS ?_
  apply Exists.intro
  refine ⟨fun wq hw => ?_, ?_⟩
  · obtain ⟨hw1, hw2, hw3, hw4, hw5⟩ := hw
    go_simp
    rfl
  simp only [Act.put, List.setIfInBounds_toArray, List.set_cons_zero, List.set_cons_succ]
  refine wpAnyH_read (i := 7) (some 14) rfl rfl (by kernel_rfl) (by kernel_rfl) (by kernel_rfl) (fun _ _ _ h => h) rfl HS ?_
  apply Exists.intro
  refine ⟨fun wq hw => ?_, ?_⟩
  · obtain ⟨hw1, hw2, hw3, hw4, hw5⟩ := hw
    go_simp
    rfl
  simp only [Act.put, List.setIfInBounds_toArray, List.set_cons_zero, List.set_cons_succ]
  refine wpAnyH_read (i := 8) (some 15) rfl rfl (by kernel_rfl) (by kernel_rfl) (by kernel_rfl) (fun _ _ _ h => h) rfl HS ?_
  apply Exists.intro
  refine ⟨fun wq hw => ?_, ?_⟩
  · obtain ⟨hw1, hw2, hw3, hw4, hw5⟩ := hw
    go_simp
    rfl
  simp only [Act.put, List.setIfInBounds_toArray, List.set_cons_zero, List.set_cons_succ]
  refine wpAnyH_read (i := 9) none rfl rfl (by kernel_rfl) (by kernel_rfl) (by kernel_rfl) (fun _ _ _ h => h) rfl HS ?_
  apply Exists.intro
  refine ⟨fun wq hw => ?_, ?_⟩
  · go_simp
    rfl
  simp only [Act.put]
  clear HS
  refine wpAnyH_done (by kernel_rfl) ?_ _
  simp only [Exit.then]
  refine wpOps_list (m := 9) rfl ?_
  have hm2 := h1.out.same (w' := v.drew) fun _ _ => rfl
  have c2 : v.drew.cell? ⟨tb, i * 9 + 5, none⟩ = some (.int .i64 (st.q i)) := c2
  have z2 : v.drew.frozen? ⟨tb, i * 9 + 5, none⟩ = false := z2
  have hb5 : Blk v.drew b5 _ _ := HB5.out
  have bw2 : Below B w v.drew := Below.drewN BW.out 1
  clear c1 o1 HB5 h1 BW
  generalize v.drew = v2 at *
  have HM2 := Lib.hid hm2
  have BW2 := Lib.hid bw2
  have HB5 := Lib.hid hb5
  clear hm2 bw2 hb5
  go_wp2
  refine hK.out _ _ ?_
  clear hK K c2 z2
  have hm3 := tsetQ HM2.out HT.out hi oa
  have bw3 : Below B w (v2.setCell ⟨tb, i * 9 + 5, none⟩ (.int .i64 oa)) := BW2.out.setCell (HM.out.lt (r := .T) rfl (by rw [HT.out]; rfl)).1 _
  have hb5 := HB5.out.far (p := ⟨tb, i * 9 + 5, none⟩) (Ne.symm n5) (.int .i64 oa)
  clear HM2 BW2 HB5
  generalize World.setCell _ _ _ = v3 at *
  have c1 : v3.cell? ⟨mb, 3, none⟩ = some (.slice (some ⟨tb, 0, none⟩) st.n tc) := by have := bcell hm3 3 (by omega); rw [this]; exact congrArg some HT.out
  have c2 := tcell hm3 HT.out hi 8 (by omega)
  have z2 := tfrozen hm3 HT.out (i * 9 + 8)
  simp only [thF] at c2
  obtain ⟨V2, t1, t2, t3⟩ := tsetNil hm3 HT.out hi hpc
  have HF := Lib.hid (show Fresh B mb oV (st.enter i oa) i tb tc _ from ⟨V2, t1.trans HT.out, t2, t3⟩)
  have HBZ := Lib.hid (show Below B w (v3.setCell ⟨tb, i * 9 + 8, none⟩ nilV) from bw3.setCell (HM.out.lt (r := .T) rfl (by rw [HT.out]; rfl)).1 _)
  have hb5 := hb5.far (p := ⟨tb, i * 9 + 8, none⟩) (Ne.symm n5) nilV
  have HB5 := Lib.hid hb5
  unfold nilV at HF HBZ HB5
  clear hm3 bw3 hb5 t1 t2 t3
  refine wp_cut fun K hK => ?_
  go_wp2
  refine hK.out _ _ ?_
  clear hK K c1 c2 z2
  generalize World.setCell _ _ _ = z at *
  have k0 := HB5.out.cell 0
  have k1 := HB5.out.cell 1
  have k2 := HB5.out.cell 2
  simp at k0 k1 k2
  have c0 : z.cell? ⟨mb, 0, none⟩ = some (.int .i64 st.size) := by obtain ⟨V2, _, _, hm2⟩ := HF.out; exact bcell hm2 0 (by omega)
  by_cases e0 : st.size = 0
  · have f0 : ((st.size : Int) == 0) = true := by simp [e0]
    rw [show st.begin_ i ⟨kd, oa, ob, oc⟩ = (st.enter i oa).end_ i ⟨false, 0, []⟩ by simp [RM.begin_, e0]]
    obtain ⟨V2, hT2, hs2, hm2⟩ := HF.out
    have HMZ := Lib.hid hm2
    clear hm2 hT2 hs2
    have hBz : B ≤ z.heap.size := by have := HBZ.out.size; omega
    go_wp2_with (first
      | (go_at_call 17; refine (refgood_ok _ _).mono ?_; rintro e w' ⟨rfl, rfl⟩; rw [HG.out])
      | (go_at_call 58; refine (refend_ok (st := st.enter i oa) z hBz HMZ.out hi hn hat hans ⟨false, 0, []⟩ (.slice none 0 0) ⟨none, 0, rfl⟩ (.inl ⟨rfl, rfl⟩)).mono ?_; rintro e w' ⟨rfl, hm3, hb3⟩))
    go_end0
    exact ⟨rfl, hm3, HBZ.out.trans hb3⟩
  have f0 : ((st.size : Int) == 0) = false := by simp; omega
  by_cases e1 : kd < 1
  · have f1 : decide (kd < 1) = true := decide_eq_true e1
    rw [show st.begin_ i ⟨kd, oa, ob, oc⟩ = (st.enter i oa).end_ i ⟨false, 0, []⟩ by simp [RM.begin_, e1]]
    obtain ⟨V2, hT2, hs2, hm2⟩ := HF.out
    have HMZ := Lib.hid hm2
    clear hm2 hT2 hs2
    have hBz : B ≤ z.heap.size := by have := HBZ.out.size; omega
    go_wp2_with (first
      | (go_at_call 17; refine (refgood_ok _ _).mono ?_; rintro e w' ⟨rfl, rfl⟩; rw [HG.out])
      | (go_at_call 58; refine (refend_ok (st := st.enter i oa) z hBz HMZ.out hi hn hat hans ⟨false, 0, []⟩ (.slice none 0 0) ⟨none, 0, rfl⟩ (.inl ⟨rfl, rfl⟩)).mono ?_; rintro e w' ⟨rfl, hm3, hb3⟩))
    go_end0
    exact ⟨rfl, hm3, HBZ.out.trans hb3⟩
  have f1 : decide (kd < 1) = false := decide_eq_false e1
  by_cases e5 : 5 < kd
  · have f5 : decide (5 < kd) = true := decide_eq_true e5
    rw [show st.begin_ i ⟨kd, oa, ob, oc⟩ = (st.enter i oa).end_ i ⟨false, 0, []⟩ by simp [RM.begin_, e5]]
    obtain ⟨V2, hT2, hs2, hm2⟩ := HF.out
    have HMZ := Lib.hid hm2
    clear hm2 hT2 hs2
    have hBz : B ≤ z.heap.size := by have := HBZ.out.size; omega
    go_wp2_with (first
      | (go_at_call 17; refine (refgood_ok _ _).mono ?_; rintro e w' ⟨rfl, rfl⟩; rw [HG.out])
      | (go_at_call 58; refine (refend_ok (st := st.enter i oa) z hBz HMZ.out hi hn hat hans ⟨false, 0, []⟩ (.slice none 0 0) ⟨none, 0, rfl⟩ (.inl ⟨rfl, rfl⟩)).mono ?_; rintro e w' ⟨rfl, hm3, hb3⟩))
    go_end0
    exact ⟨rfl, hm3, HBZ.out.trans hb3⟩
  have f5 : decide (5 < kd) = false := decide_eq_false e5
  by_cases e4 : kd = 4
  · have f4 : (kd == 4) = true := by simpa using e4
    by_cases g : GoodI oa
    · have HG := Lib.hid (show decide (GoodI oa) = true from decide_eq_true g)
      have hm : -9223372036854775808 < oa := by have := g.1; omega
      by_cases l : ob < oa
      · have fl : decide (ob < oa) = true := decide_eq_true l
        have fm : decide (-9223372036854775808 < oa) = true := decide_eq_true hm
        rw [show st.begin_ i ⟨kd, oa, ob, oc⟩ = (st.enter i oa).end_ i ⟨true, oa - 1, []⟩ by simp [RM.begin_, e0, e4, g, l, hm]]
        clear e0 e1 e5 e4 g l
        obtain ⟨V2, hT2, hs2, hm2⟩ := HF.out
        have HMZ := Lib.hid hm2
        clear hm2 hT2 hs2
        have hBz : B ≤ z.heap.size := by have := HBZ.out.size; omega
        go_wp2_with (first
          | (go_at_call 17; refine (refgood_ok _ _).mono ?_; rintro e w' ⟨rfl, rfl⟩; rw [HG.out])
          | (go_at_call 58; refine (refend_ok (st := st.enter i oa) z hBz HMZ.out hi hn hat hans ⟨true, oa - 1, []⟩ (.slice none 0 0) ⟨none, 0, rfl⟩ (.inl ⟨rfl, rfl⟩)).mono ?_; rintro e w' ⟨rfl, hm3, hb3⟩))
        go_end0
        exact ⟨rfl, hm3, HBZ.out.trans hb3⟩
      · have fl : decide (ob < oa) = false := decide_eq_false l
        rw [show st.begin_ i ⟨kd, oa, ob, oc⟩ = (st.enter i oa).stand i 1 by simp [RM.begin_, e0, e4, g, l]]
        clear e0 e1 e5 e4 g l
        obtain ⟨V2, hT2, hs2, hm2⟩ := HF.out
        have c3 : z.cell? ⟨mb, 3, none⟩ = some (.slice (some ⟨tb, 0, none⟩) st.n tc) := by have := bcell hm2 3 (by omega); rw [this]; exact congrArg some hT2
        have c4 : z.cell? ⟨tb, i * 9 + 4, none⟩ = some (.int .i64 0) := by have := tcell hm2 hT2 hi 4 (by omega); rw [this]; simp [thF, RM.enter, hpc]
        have z4 := tfrozen hm2 hT2 (i * 9 + 4)
        have hm3 := tsetPc hm2 hT2 hi 1 (.inr (.inr ⟨hs2, by simp [RM.enter, upd_same]⟩))
        have hb3 : Below B w (z.setCell ⟨tb, i * 9 + 4, none⟩ (.int .i64 1)) := HBZ.out.setCell (hm2.lt (r := .T) rfl (by rw [hT2]; rfl)).1 _
        have HM3 := Lib.hid (show RMem B mb oV ((st.enter i oa).stand i 1) _ from ⟨_, hm3⟩)
        have HB3 := Lib.hid hb3
        clear hm2 hm3 hb3 hT2 hs2
        go_wp2_with (go_at_call 17; refine (refgood_ok _ _).mono ?_; rintro e w' ⟨rfl, rfl⟩; rw [HG.out])
        go_end0
        exact ⟨rfl, HM3.out, HB3.out⟩
    · have HG := Lib.hid (show decide (GoodI oa) = false from decide_eq_false g)
      by_cases hm : -9223372036854775808 < oa
      · have fm : decide (-9223372036854775808 < oa) = true := decide_eq_true hm
        rw [show st.begin_ i ⟨kd, oa, ob, oc⟩ = (st.enter i oa).end_ i ⟨true, oa - 1, []⟩ by simp [RM.begin_, e0, e4, g, hm]]
        clear e0 e1 e5 e4 g
        obtain ⟨V2, hT2, hs2, hm2⟩ := HF.out
        have HMZ := Lib.hid hm2
        clear hm2 hT2 hs2
        have hBz : B ≤ z.heap.size := by have := HBZ.out.size; omega
        go_wp2_with (first
          | (go_at_call 17; refine (refgood_ok _ _).mono ?_; rintro e w' ⟨rfl, rfl⟩; rw [HG.out])
          | (go_at_call 58; refine (refend_ok (st := st.enter i oa) z hBz HMZ.out hi hn hat hans ⟨true, oa - 1, []⟩ (.slice none 0 0) ⟨none, 0, rfl⟩ (.inl ⟨rfl, rfl⟩)).mono ?_; rintro e w' ⟨rfl, hm3, hb3⟩))
        go_end0
        exact ⟨rfl, hm3, HBZ.out.trans hb3⟩
      · have fm : decide (-9223372036854775808 < oa) = false := decide_eq_false hm
        rw [show st.begin_ i ⟨kd, oa, ob, oc⟩ = (st.enter i oa).end_ i ⟨true, oa, []⟩ by simp [RM.begin_, e0, e4, g, hm]]
        clear e0 e1 e5 e4 g
        obtain ⟨V2, hT2, hs2, hm2⟩ := HF.out
        have HMZ := Lib.hid hm2
        clear hm2 hT2 hs2
        have hBz : B ≤ z.heap.size := by have := HBZ.out.size; omega
        go_wp2_with (first
          | (go_at_call 17; refine (refgood_ok _ _).mono ?_; rintro e w' ⟨rfl, rfl⟩; rw [HG.out])
          | (go_at_call 58; refine (refend_ok (st := st.enter i oa) z hBz HMZ.out hi hn hat hans ⟨true, oa, []⟩ (.slice none 0 0) ⟨none, 0, rfl⟩ (.inl ⟨rfl, rfl⟩)).mono ?_; rintro e w' ⟨rfl, hm3, hb3⟩))
        go_end0
        exact ⟨rfl, hm3, HBZ.out.trans hb3⟩
  have f4 : (kd == 4) = false := by simpa using e4
  by_cases g : GoodI oa
  · have HG := Lib.hid (show decide (GoodI oa) = true from decide_eq_true g)
    by_cases k5 : kd = 5
    · have g5 : (kd == 5) = true := by simpa using k5
      by_cases l : ob < 1
      · have fl : decide (ob < 1) = true := decide_eq_true l
        rw [show st.begin_ i ⟨kd, oa, ob, oc⟩ = (st.enter i oa).end_ i ⟨true, 0, []⟩ by simp [RM.begin_, e0, k5, g, l]]
        clear e0 e1 e5 e4 g l k5
        obtain ⟨V2, hT2, hs2, hm2⟩ := HF.out
        have HMZ := Lib.hid hm2
        clear hm2 hT2 hs2
        have hBz : B ≤ z.heap.size := by have := HBZ.out.size; omega
        go_wp2_with (first
          | (go_at_call 17; refine (refgood_ok _ _).mono ?_; rintro e w' ⟨rfl, rfl⟩; rw [HG.out])
          | (go_at_call 58; refine (refend_ok (st := st.enter i oa) z hBz HMZ.out hi hn hat hans ⟨true, 0, []⟩ (.slice none 0 0) ⟨none, 0, rfl⟩ (.inl ⟨rfl, rfl⟩)).mono ?_; rintro e w' ⟨rfl, hm3, hb3⟩))
        go_end0
        exact ⟨rfl, hm3, HBZ.out.trans hb3⟩
      · have fl : decide (ob < 1) = false := decide_eq_false l
        rw [show st.begin_ i ⟨kd, oa, ob, oc⟩ = (st.enter i oa).stand i 1 by simp [RM.begin_, e0, k5, g, l]]
        clear e0 e1 e5 e4 g l k5
        obtain ⟨V2, hT2, hs2, hm2⟩ := HF.out
        have c3 : z.cell? ⟨mb, 3, none⟩ = some (.slice (some ⟨tb, 0, none⟩) st.n tc) := by have := bcell hm2 3 (by omega); rw [this]; exact congrArg some hT2
        have c4 : z.cell? ⟨tb, i * 9 + 4, none⟩ = some (.int .i64 0) := by have := tcell hm2 hT2 hi 4 (by omega); rw [this]; simp [thF, RM.enter, hpc]
        have z4 := tfrozen hm2 hT2 (i * 9 + 4)
        have hm3 := tsetPc hm2 hT2 hi 1 (.inr (.inr ⟨hs2, by simp [RM.enter, upd_same]⟩))
        have hb3 : Below B w (z.setCell ⟨tb, i * 9 + 4, none⟩ (.int .i64 1)) := HBZ.out.setCell (hm2.lt (r := .T) rfl (by rw [hT2]; rfl)).1 _
        have HM3 := Lib.hid (show RMem B mb oV ((st.enter i oa).stand i 1) _ from ⟨_, hm3⟩)
        have HB3 := Lib.hid hb3
        clear hm2 hm3 hb3 hT2 hs2
        go_wp2_with (go_at_call 17; refine (refgood_ok _ _).mono ?_; rintro e w' ⟨rfl, rfl⟩; rw [HG.out])
        go_end0
        exact ⟨rfl, HM3.out, HB3.out⟩
    · have g5 : (kd == 5) = false := by simpa using k5
      rw [show st.begin_ i ⟨kd, oa, ob, oc⟩ = (st.enter i oa).stand i 1 by simp [RM.begin_, e0, e1, e5, e4, k5, g]]
      clear e0 e1 e5 e4 g k5
      obtain ⟨V2, hT2, hs2, hm2⟩ := HF.out
      have c3 : z.cell? ⟨mb, 3, none⟩ = some (.slice (some ⟨tb, 0, none⟩) st.n tc) := by have := bcell hm2 3 (by omega); rw [this]; exact congrArg some hT2
      have c4 : z.cell? ⟨tb, i * 9 + 4, none⟩ = some (.int .i64 0) := by have := tcell hm2 hT2 hi 4 (by omega); rw [this]; simp [thF, RM.enter, hpc]
      have z4 := tfrozen hm2 hT2 (i * 9 + 4)
      have hm3 := tsetPc hm2 hT2 hi 1 (.inr (.inr ⟨hs2, by simp [RM.enter, upd_same]⟩))
      have hb3 : Below B w (z.setCell ⟨tb, i * 9 + 4, none⟩ (.int .i64 1)) := HBZ.out.setCell (hm2.lt (r := .T) rfl (by rw [hT2]; rfl)).1 _
      have HM3 := Lib.hid (show RMem B mb oV ((st.enter i oa).stand i 1) _ from ⟨_, hm3⟩)
      have HB3 := Lib.hid hb3
      clear hm2 hm3 hb3 hT2 hs2
      go_wp2_with (go_at_call 17; refine (refgood_ok _ _).mono ?_; rintro e w' ⟨rfl, rfl⟩; rw [HG.out])
      go_end0
      exact ⟨rfl, HM3.out, HB3.out⟩
  · have HG := Lib.hid (show decide (GoodI oa) = false from decide_eq_false g)
    by_cases k3 : kd = 3
    · have g3 : (kd == 3) = true := by simpa using k3
      rw [show st.begin_ i ⟨kd, oa, ob, oc⟩ = (st.enter i oa).end_ i ⟨false, 0, []⟩ by simp [RM.begin_, e0, k3, g]]
      clear e0 e1 e5 e4 g k3
      obtain ⟨V2, hT2, hs2, hm2⟩ := HF.out
      have HMZ := Lib.hid hm2
      clear hm2 hT2 hs2
      have hBz : B ≤ z.heap.size := by have := HBZ.out.size; omega
      go_wp2_with (first
        | (go_at_call 17; refine (refgood_ok _ _).mono ?_; rintro e w' ⟨rfl, rfl⟩; rw [HG.out])
        | (go_at_call 58; refine (refend_ok (st := st.enter i oa) z hBz HMZ.out hi hn hat hans ⟨false, 0, []⟩ (.slice none 0 0) ⟨none, 0, rfl⟩ (.inl ⟨rfl, rfl⟩)).mono ?_; rintro e w' ⟨rfl, hm3, hb3⟩))
      go_end0
      exact ⟨rfl, hm3, HBZ.out.trans hb3⟩
    · have g3 : (kd == 3) = false := by simpa using k3
      rw [show st.begin_ i ⟨kd, oa, ob, oc⟩ = (st.enter i oa).end_ i ⟨false, 1, []⟩ by simp [RM.begin_, e0, e1, e5, e4, k3, g]]
      clear e0 e1 e5 e4 g k3
      obtain ⟨V2, hT2, hs2, hm2⟩ := HF.out
      have HMZ := Lib.hid hm2
      clear hm2 hT2 hs2
      have hBz : B ≤ z.heap.size := by have := HBZ.out.size; omega
      go_wp2_with (first
        | (go_at_call 17; refine (refgood_ok _ _).mono ?_; rintro e w' ⟨rfl, rfl⟩; rw [HG.out])
        | (go_at_call 58; refine (refend_ok (st := st.enter i oa) z hBz HMZ.out hi hn hat hans ⟨false, 1, []⟩ (.slice none 0 0) ⟨none, 0, rfl⟩ (.inl ⟨rfl, rfl⟩)).mono ?_; rintro e w' ⟨rfl, hm3, hb3⟩))
      go_end0
      exact ⟨rfl, hm3, HBZ.out.trans hb3⟩
end
end Go.Proofs.Yteainbnoemkfcaa
namespace Go.Proofs.Yteainbnoemkfcaa
open Go.RowKit Go.Turn
open Go.ConcN (upd upd_ne upd_same)
section
variable {B mb : Nat} {oV : Nat → Value} {st : RM}
set_option maxHeartbeats 4000000 in
set_option maxRecDepth 100000 in
theorem refget1_ok (w : World) (hB : B ≤ w.heap.size) (h : RMem B mb oV st w) {i : Nat} (hi : i < st.n) (hn : st.n ≤ 64) (h0 : 0 < st.size) (h2 : st.size ≤ 65536) (g : GoodI (st.q i)) :
    Calls Try.prog 59 #[.pointer (some ⟨mb, 0, none⟩), .int .i64 i, .int .i64 1] w fun e w' => e = .returned (.tuple #[.int .i64 (st.get i 1).2.1, .int .i64 (st.get i 1).2.2.1, .bool (st.get i 1).2.2.2]) ∧ RMem B mb oV (st.get i 1).1 w' ∧ Below B w w' := by
  have e1 : st.get i 1 = ({ st with x := upd st.x i (st.S (st.slot (st.q i))) }, 0, if st.S (st.slot (st.q i)) < 2 * st.lap (st.q i) then 6 else if 2 * st.lap (st.q i) < st.S (st.slot (st.q i)) then 10 else 0, decide (st.S (st.slot (st.q i)) < 2 * st.lap (st.q i)) || decide (2 * st.lap (st.q i) < st.S (st.slot (st.q i)))) := by simp [RM.get]
  rw [e1]
  clear e1
  by_cases l1 : st.S (st.slot (st.q i)) < 2 * st.lap (st.q i)
  · have l3 : ¬ 2 * st.lap (st.q i) < st.S (st.slot (st.q i)) := by omega
    rw [if_pos l1, decide_eq_true l1, decide_eq_false l3]
    dsimp only
    obtain ⟨V, h⟩ := h
    obtain ⟨g0, g1⟩ := id g
    obtain ⟨tb, tc, hT, htc, htm⟩ := tb_of h (by omega)
    obtain ⟨⟨sb, sc, hS, hsc, hsm⟩, vb, vc, hV, hvc, hvm⟩ := sb_of h h0
    have hb0 : 0 ≤ st.q i % (st.size : Int) := Int.emod_nonneg _ (by omega)
    have hb1 : st.q i % (st.size : Int) < st.size := Int.emod_lt_of_pos _ (by omega)
    have hd0 : 0 ≤ st.q i / (st.size : Int) := Int.ediv_nonneg g0 (by omega)
    have hd1 : st.q i / (st.size : Int) ≤ st.q i := Int.ediv_le_self _ g0
    have HM := Lib.hid h
    have HT := Lib.hid hT
    have HS_ := Lib.hid hS
    have HV_ := Lib.hid hV
    have HG := Lib.hid g
    clear h hT hS hV g
    go_enter Try.func59, Try.ntmps59
    refine wp_cut fun K hK => ?_
    go_wp2
    refine hK.out _ _ ?_
    clear hK K
    refine wp_cut fun K hK => ?_
    have c3 : w.cell? ⟨mb, 3, none⟩ = some (.slice (some ⟨tb, 0, none⟩) st.n tc) := by have := bcell HM.out 3 (by omega); rw [this]; exact congrArg some HT.out
    have c5 : w.cell? ⟨tb, i * 9 + 5, none⟩ = some (.int .i64 (st.q i)) := tcell HM.out HT.out hi 5 (by omega)
    go_quiet (first | (go_at_call 45; exact quietS (refslot_ok (HM.out.drewN _) h0 h2 _ HG.out)) | (go_at_call 44; exact quietS (reflap_ok (HM.out.drewN _) h0 h2 _ HG.out)))
    refine hK.out _ _ ?_
    clear hK K c3 c5
    have HM1 := Lib.hid (HM.out.drewN nq)
    have HB1 := Lib.hid (Below.drewN (Below.refl B w) nq)
    clear HM
    generalize World.drewN _ nq = v at *
    obtain ⟨l, hl⟩ : ∃ l, l = st.q i / (st.size : Int) := ⟨_, rfl⟩
    rw [← hl] at hd0 hd1
    simp only [← hl]
    obtain ⟨k, hk⟩ : ∃ k : Nat, st.q i % (st.size : Int) = k := ⟨_, (Int.toNat_of_nonneg hb0).symm⟩
    rw [hk] at hb0 hb1
    simp only [hk]
    have hk' : k < st.size := by omega
    have HL := Lib.hid hl
    have HK := Lib.hid (show st.slot (st.q i) = k by unfold RM.slot; rw [hk]; rfl)
    clear hl hk
    refine wp_cut fun K hK => ?_
    refine wp_cut fun K2 hK2 => ?_
    go_wp2
    refine hK2.out _ _ ?_
    clear hK2 K2
    have hl2 : st.lap (st.q i) = l := HL.out.symm
    rw [HK.out]
    have c3 : v.cell? ⟨mb, 3, none⟩ = some (.slice (some ⟨tb, 0, none⟩) st.n tc) := by have := bcell HM1.out 3 (by omega); rw [this]; exact congrArg some HT.out
    have c1 : v.cell? ⟨mb, 1, none⟩ = some (.slice (some ⟨sb, 0, none⟩) st.size sc) := by have := bcell HM1.out 1 (by omega); rw [this]; exact congrArg some HS_.out
    have c2 : v.cell? ⟨mb, 2, none⟩ = some (.slice (some ⟨vb, 0, none⟩) st.size vc) := by have := bcell HM1.out 2 (by omega); rw [this]; exact congrArg some HV_.out
    have s0 : v.cell? ⟨sb, k, none⟩ = some (.int .i64 (st.S k)) := HM1.out.cell (r := .S) (e := 2) (sz := 1) (n := st.size) (cap := sc) (f := fun j => .int .i64 (st.S j)) (by simp only [memOf, HS_.out]) (by omega)
    have v0 : v.cell? ⟨vb, k, none⟩ = some (.int .i64 (st.V k)) := HM1.out.cell (r := .V) (e := 2) (sz := 1) (n := st.size) (cap := vc) (f := fun j => .int .i64 (st.V j)) (by simp only [memOf, HV_.out]) (by omega)
    have c6 : v.cell? ⟨tb, i * 9 + 6, none⟩ = some (.int .i64 (st.x i)) := tcell HM1.out HT.out hi 6 (by omega)
    have z6 := tfrozen HM1.out HT.out (i * 9 + 6)
    go_wp2_with fail
    refine wp_region_last (S := fun w' => w'.cell? ⟨mb, 3, none⟩ = some (.slice (some ⟨tb, 0, none⟩) st.n tc) ∧ w'.cell? ⟨mb, 1, none⟩ = some (.slice (some ⟨sb, 0, none⟩) st.size sc) ∧ w'.cell? ⟨sb, k, none⟩ = some (.int .i64 (st.S k)) ∧ True ∧ True) 14 (by kernel_rfl) (by kernel_rfl) (by kernel_rfl) ?_
    simp only [idle, List.modify_toArray, List.modify_succ_cons, List.modify_zero_cons, List.size_toArray, List.length_cons, List.length_nil, Nat.reduceAdd]
    have HS : v.drew.cell? ⟨mb, 3, none⟩ = some (.slice (some ⟨tb, 0, none⟩) st.n tc) ∧ v.drew.cell? ⟨mb, 1, none⟩ = some (.slice (some ⟨sb, 0, none⟩) st.size sc) ∧ v.drew.cell? ⟨sb, k, none⟩ = some (.int .i64 (st.S k)) ∧ True ∧ True := ⟨c3, c1, s0, trivial, trivial⟩
    refine wpAnyH_read (i := 0) (some 34) rfl rfl (by kernel_rfl) (by kernel_rfl) (by kernel_rfl) (fun _ _ _ h => h) rfl HS ?_
    apply Exists.intro
    refine ⟨fun wq hw => ?_, ?_⟩
    · obtain ⟨hw1, hw2, hw3, hw4, hw5⟩ := hw
      go_simp
      rfl
    simp only [Act.put, List.setIfInBounds_toArray, List.set_cons_zero, List.set_cons_succ]
    refine wpAnyH_read (i := 1) (some 35) rfl rfl (by kernel_rfl) (by kernel_rfl) (by kernel_rfl) (fun _ _ _ h => h) rfl HS ?_
    apply Exists.intro
    refine ⟨fun wq hw => ?_, ?_⟩
    · obtain ⟨hw1, hw2, hw3, hw4, hw5⟩ := hw
      go_simp
      rfl
    simp only [Act.put, List.setIfInBounds_toArray, List.set_cons_zero, List.set_cons_succ]
    refine wpAnyH_read (i := 2) (some 36) rfl rfl (by kernel_rfl) (by kernel_rfl) (by kernel_rfl) (fun _ _ _ h => h) rfl HS ?_
    apply Exists.intro
    refine ⟨fun wq hw => ?_, ?_⟩
    · obtain ⟨hw1, hw2, hw3, hw4, hw5⟩ := hw
      go_simp
      rfl
    simp only [Act.put, List.setIfInBounds_toArray, List.set_cons_zero, List.set_cons_succ]
    refine wpAnyH_read (i := 3) (some 37) rfl rfl (by kernel_rfl) (by kernel_rfl) (by kernel_rfl) (fun _ _ _ h => h) rfl HS ?_
    apply Exists.intro
    refine ⟨fun wq hw => ?_, ?_⟩
    · obtain ⟨hw1, hw2, hw3, hw4, hw5⟩ := hw
      go_simp
      rfl
    simp only [Act.put, List.setIfInBounds_toArray, List.set_cons_zero, List.set_cons_succ]
    refine wpAnyH_read (i := 4) (some 38) rfl rfl (by kernel_rfl) (by kernel_rfl) (by kernel_rfl) (fun _ _ _ h => h) rfl HS ?_
    apply Exists.intro
    refine ⟨fun wq hw => ?_, ?_⟩
    · obtain ⟨hw1, hw2, hw3, hw4, hw5⟩ := hw
      go_simp
      rfl
    simp only [Act.put, List.setIfInBounds_toArray, List.set_cons_zero, List.set_cons_succ]
    refine wpAnyH_read (i := 5) (some 39) rfl rfl (by kernel_rfl) (by kernel_rfl) (by kernel_rfl) (fun _ _ _ h => h) rfl HS ?_
    apply Exists.intro
    refine ⟨fun wq hw => ?_, ?_⟩
    · obtain ⟨hw1, hw2, hw3, hw4, hw5⟩ := hw
      go_simp
      rfl
    simp only [Act.put, List.setIfInBounds_toArray, List.set_cons_zero, List.set_cons_succ]
    refine wpAnyH_read (i := 6) (some 40) rfl rfl (by kernel_rfl) (by kernel_rfl) (by kernel_rfl) (fun _ _ _ h => h) rfl HS ?_
    apply Exists.intro
    refine ⟨fun wq hw => ?_, ?_⟩
    · obtain ⟨hw1, hw2, hw3, hw4, hw5⟩ := hw
      go_simp
      rfl
    simp only [Act.put, List.setIfInBounds_toArray, List.set_cons_zero, List.set_cons_succ]
    refine wpAnyH_read (i := 7) (some 41) rfl rfl (by kernel_rfl) (by kernel_rfl) (by kernel_rfl) (fun _ _ _ h => h) rfl HS ?_
    apply Exists.intro
    refine ⟨fun wq hw => ?_, ?_⟩
    · obtain ⟨hw1, hw2, hw3, hw4, hw5⟩ := hw
      go_simp
      rfl
    simp only [Act.put, List.setIfInBounds_toArray, List.set_cons_zero, List.set_cons_succ]
    refine wpAnyH_read (i := 8) (some 42) rfl rfl (by kernel_rfl) (by kernel_rfl) (by kernel_rfl) (fun _ _ _ h => h) rfl HS ?_
    apply Exists.intro
    refine ⟨fun wq hw => ?_, ?_⟩
    · obtain ⟨hw1, hw2, hw3, hw4, hw5⟩ := hw
      go_simp
      rfl
    simp only [Act.put, List.setIfInBounds_toArray, List.set_cons_zero, List.set_cons_succ]
    refine wpAnyH_read (i := 9) (some 43) rfl rfl (by kernel_rfl) (by kernel_rfl) (by kernel_rfl) (fun _ _ _ h => h) rfl HS ?_
    apply Exists.intro
    refine ⟨fun wq hw => ?_, ?_⟩
    · obtain ⟨hw1, hw2, hw3, hw4, hw5⟩ := hw
      go_simp
      rfl
    simp only [Act.put, List.setIfInBounds_toArray, List.set_cons_zero, List.set_cons_succ]
    refine wpAnyH_read (i := 10) (some 44) rfl rfl (by kernel_rfl) (by kernel_rfl) (by kernel_rfl) (fun _ _ _ h => h) rfl HS ?_
    apply Exists.intro
    refine ⟨fun wq hw => ?_, ?_⟩
    · obtain ⟨hw1, hw2, hw3, hw4, hw5⟩ := hw
      go_simp
      rfl
    simp only [Act.put, List.setIfInBounds_toArray, List.set_cons_zero, List.set_cons_succ]
    refine wpAnyH_read (i := 11) (some 45) rfl rfl (by kernel_rfl) (by kernel_rfl) (by kernel_rfl) (fun _ _ _ h => h) rfl HS ?_
    apply Exists.intro
    refine ⟨fun wq hw => ?_, ?_⟩
    · obtain ⟨hw1, hw2, hw3, hw4, hw5⟩ := hw
      go_simp
      rfl
    simp only [Act.put, List.setIfInBounds_toArray, List.set_cons_zero, List.set_cons_succ]
    refine wpAnyH_read (i := 12) (some 46) rfl rfl (by kernel_rfl) (by kernel_rfl) (by kernel_rfl) (fun _ _ _ h => h) rfl HS ?_
    apply Exists.intro
    refine ⟨fun wq hw => ?_, ?_⟩
    · obtain ⟨hw1, hw2, hw3, hw4, hw5⟩ := hw
      go_simp
      rfl
    simp only [Act.put, List.setIfInBounds_toArray, List.set_cons_zero, List.set_cons_succ]
    refine wpAnyH_read (i := 13) (some 47) rfl rfl (by kernel_rfl) (by kernel_rfl) (by kernel_rfl) (fun _ _ _ h => h) rfl HS ?_
    apply Exists.intro
    refine ⟨fun wq hw => ?_, ?_⟩
    · obtain ⟨hw1, hw2, hw3, hw4, hw5⟩ := hw
      go_simp
      rfl
    simp only [Act.put, List.setIfInBounds_toArray, List.set_cons_zero, List.set_cons_succ]
    refine wpAnyH_read (i := 14) none rfl rfl (by kernel_rfl) (by kernel_rfl) (by kernel_rfl) (fun _ _ _ h => h) rfl HS ?_
    apply Exists.intro
    refine ⟨fun wq hw => ?_, ?_⟩
    · go_simp
      rfl
    simp only [Act.put]
    clear HS
    refine wpAnyH_done (by kernel_rfl) ?_ _
    simp only [Exit.then]
    refine wpOps_list (m := 14) rfl ?_
    have HM2 := Lib.hid (HM1.out.same (w' := v.drew) fun _ _ => rfl)
    have HB2 := Lib.hid (show Below B w v.drew from Below.drewN HB1.out 1)
    have c6 : v.drew.cell? ⟨tb, i * 9 + 6, none⟩ = some (.int .i64 (st.x i)) := c6
    have z6 : v.drew.frozen? ⟨tb, i * 9 + 6, none⟩ = false := z6
    clear HM1 HB1 c3 c1 c2 s0 v0
    generalize v.drew = v2 at *
    have hm3 := tsetX HM2.out HT.out hi (st.S k)
    have hb3 := HB2.out.setCell (p := ⟨tb, i * 9 + 6, none⟩) (HM2.out.lt (r := .T) rfl (by rw [HT.out]; rfl)).1 (.int .i64 (st.S k))
    have c1 : (v2.setCell ⟨tb, i * 9 + 6, none⟩ (.int .i64 (st.S k))).cell? ⟨mb, 1, none⟩ = some (.slice (some ⟨sb, 0, none⟩) st.size sc) := by have := bcell hm3 1 (by omega); rw [this]; exact congrArg some HS_.out
    have s0 : (v2.setCell ⟨tb, i * 9 + 6, none⟩ (.int .i64 (st.S k))).cell? ⟨sb, k, none⟩ = some (.int .i64 (st.S k)) := hm3.cell (r := .S) (e := 2) (sz := 1) (n := st.size) (cap := sc) (f := fun j => .int .i64 (st.S j)) (by simp only [memOf, HS_.out]) (by omega)
    have HM3 := Lib.hid (show RMem B mb oV { st with x := upd st.x i (st.S k) } _ from ⟨V, hm3⟩)
    have HB3 := Lib.hid hb3
    clear hm3 hb3 HM2 HB2
    rw [HK.out, hl2] at l1 l3
    have f1 : decide (st.S k < 2 * l) = true := by simp [l1]
    have f3 : decide (2 * l < st.S k) = false := by simp [l3]
    clear l1 l3
    generalize hs : st.S k = s at *
    have HS2 := Lib.hid hs
    clear hl2 hs
    go_wp2
    go_ret3
    exact ⟨rfl, by rw [HS2.out]; exact HM3.out, HB3.out⟩
  · by_cases l3 : 2 * st.lap (st.q i) < st.S (st.slot (st.q i))
    · rw [if_neg l1, if_pos l3, decide_eq_false l1, decide_eq_true l3]
      dsimp only
      obtain ⟨V, h⟩ := h
      obtain ⟨g0, g1⟩ := id g
      obtain ⟨tb, tc, hT, htc, htm⟩ := tb_of h (by omega)
      obtain ⟨⟨sb, sc, hS, hsc, hsm⟩, vb, vc, hV, hvc, hvm⟩ := sb_of h h0
      have hb0 : 0 ≤ st.q i % (st.size : Int) := Int.emod_nonneg _ (by omega)
      have hb1 : st.q i % (st.size : Int) < st.size := Int.emod_lt_of_pos _ (by omega)
      have hd0 : 0 ≤ st.q i / (st.size : Int) := Int.ediv_nonneg g0 (by omega)
      have hd1 : st.q i / (st.size : Int) ≤ st.q i := Int.ediv_le_self _ g0
      have HM := Lib.hid h
      have HT := Lib.hid hT
      have HS_ := Lib.hid hS
      have HV_ := Lib.hid hV
      have HG := Lib.hid g
      clear h hT hS hV g
      go_enter Try.func59, Try.ntmps59
      refine wp_cut fun K hK => ?_
      go_wp2
      refine hK.out _ _ ?_
      clear hK K
      refine wp_cut fun K hK => ?_
      have c3 : w.cell? ⟨mb, 3, none⟩ = some (.slice (some ⟨tb, 0, none⟩) st.n tc) := by have := bcell HM.out 3 (by omega); rw [this]; exact congrArg some HT.out
      have c5 : w.cell? ⟨tb, i * 9 + 5, none⟩ = some (.int .i64 (st.q i)) := tcell HM.out HT.out hi 5 (by omega)
      go_quiet (first | (go_at_call 45; exact quietS (refslot_ok (HM.out.drewN _) h0 h2 _ HG.out)) | (go_at_call 44; exact quietS (reflap_ok (HM.out.drewN _) h0 h2 _ HG.out)))
      refine hK.out _ _ ?_
      clear hK K c3 c5
      have HM1 := Lib.hid (HM.out.drewN nq)
      have HB1 := Lib.hid (Below.drewN (Below.refl B w) nq)
      clear HM
      generalize World.drewN _ nq = v at *
      obtain ⟨l, hl⟩ : ∃ l, l = st.q i / (st.size : Int) := ⟨_, rfl⟩
      rw [← hl] at hd0 hd1
      simp only [← hl]
      obtain ⟨k, hk⟩ : ∃ k : Nat, st.q i % (st.size : Int) = k := ⟨_, (Int.toNat_of_nonneg hb0).symm⟩
      rw [hk] at hb0 hb1
      simp only [hk]
      have hk' : k < st.size := by omega
      have HL := Lib.hid hl
      have HK := Lib.hid (show st.slot (st.q i) = k by unfold RM.slot; rw [hk]; rfl)
      clear hl hk
      refine wp_cut fun K hK => ?_
      refine wp_cut fun K2 hK2 => ?_
      go_wp2
      refine hK2.out _ _ ?_
      clear hK2 K2
      have hl2 : st.lap (st.q i) = l := HL.out.symm
      rw [HK.out]
      have c3 : v.cell? ⟨mb, 3, none⟩ = some (.slice (some ⟨tb, 0, none⟩) st.n tc) := by have := bcell HM1.out 3 (by omega); rw [this]; exact congrArg some HT.out
      have c1 : v.cell? ⟨mb, 1, none⟩ = some (.slice (some ⟨sb, 0, none⟩) st.size sc) := by have := bcell HM1.out 1 (by omega); rw [this]; exact congrArg some HS_.out
      have c2 : v.cell? ⟨mb, 2, none⟩ = some (.slice (some ⟨vb, 0, none⟩) st.size vc) := by have := bcell HM1.out 2 (by omega); rw [this]; exact congrArg some HV_.out
      have s0 : v.cell? ⟨sb, k, none⟩ = some (.int .i64 (st.S k)) := HM1.out.cell (r := .S) (e := 2) (sz := 1) (n := st.size) (cap := sc) (f := fun j => .int .i64 (st.S j)) (by simp only [memOf, HS_.out]) (by omega)
      have v0 : v.cell? ⟨vb, k, none⟩ = some (.int .i64 (st.V k)) := HM1.out.cell (r := .V) (e := 2) (sz := 1) (n := st.size) (cap := vc) (f := fun j => .int .i64 (st.V j)) (by simp only [memOf, HV_.out]) (by omega)
      have c6 : v.cell? ⟨tb, i * 9 + 6, none⟩ = some (.int .i64 (st.x i)) := tcell HM1.out HT.out hi 6 (by omega)
      have z6 := tfrozen HM1.out HT.out (i * 9 + 6)
      go_wp2_with fail
      refine wp_region_last (S := fun w' => w'.cell? ⟨mb, 3, none⟩ = some (.slice (some ⟨tb, 0, none⟩) st.n tc) ∧ w'.cell? ⟨mb, 1, none⟩ = some (.slice (some ⟨sb, 0, none⟩) st.size sc) ∧ w'.cell? ⟨sb, k, none⟩ = some (.int .i64 (st.S k)) ∧ True ∧ True) 14 (by kernel_rfl) (by kernel_rfl) (by kernel_rfl) ?_
      simp only [idle, List.modify_toArray, List.modify_succ_cons, List.modify_zero_cons, List.size_toArray, List.length_cons, List.length_nil, Nat.reduceAdd]
      have HS : v.drew.cell? ⟨mb, 3, none⟩ = some (.slice (some ⟨tb, 0, none⟩) st.n tc) ∧ v.drew.cell? ⟨mb, 1, none⟩ = some (.slice (some ⟨sb, 0, none⟩) st.size sc) ∧ v.drew.cell? ⟨sb, k, none⟩ = some (.int .i64 (st.S k)) ∧ True ∧ True := ⟨c3, c1, s0, trivial, trivial⟩
      refine wpAnyH_read (i := 0) (some 34) rfl rfl (by kernel_rfl) (by kernel_rfl) (by kernel_rfl) (fun _ _ _ h => h) rfl HS ?_
      apply Exists.intro
      refine ⟨fun wq hw => ?_, ?_⟩
      · obtain ⟨hw1, hw2, hw3, hw4, hw5⟩ := hw
        go_simp
        rfl
      simp only [Act.put, List.setIfInBounds_toArray, List.set_cons_zero, List.set_cons_succ]
      refine wpAnyH_read (i := 1) (some 35) rfl rfl (by kernel_rfl) (by kernel_rfl) (by kernel_rfl) (fun _ _ _ h => h) rfl HS ?_
      apply Exists.intro
      refine ⟨fun wq hw => ?_, ?_⟩
      · obtain ⟨hw1, hw2, hw3, hw4, hw5⟩ := hw
        go_simp
        rfl
      simp only [Act.put, List.setIfInBounds_toArray, List.set_cons_zero, List.set_cons_succ]
      refine wpAnyH_read (i := 2) (some 36) rfl rfl (by kernel_rfl) (by kernel_rfl) (by kernel_rfl) (fun _ _ _ h => h) rfl HS ?_
      apply Exists.intro
      refine ⟨fun wq hw => ?_, ?_⟩
      · obtain ⟨hw1, hw2, hw3, hw4, hw5⟩ := hw
        go_simp
        rfl
      simp only [Act.put, List.setIfInBounds_toArray, List.set_cons_zero, List.set_cons_succ]
      refine wpAnyH_read (i := 3) (some 37) rfl rfl (by kernel_rfl) (by kernel_rfl) (by kernel_rfl) (fun _ _ _ h => h) rfl HS ?_
      apply Exists.intro
      refine ⟨fun wq hw => ?_, ?_⟩
      · obtain ⟨hw1, hw2, hw3, hw4, hw5⟩ := hw
        go_simp
        rfl
      simp only [Act.put, List.setIfInBounds_toArray, List.set_cons_zero, List.set_cons_succ]
      refine wpAnyH_read (i := 4) (some 38) rfl rfl (by kernel_rfl) (by kernel_rfl) (by kernel_rfl) (fun _ _ _ h => h) rfl HS ?_
      apply Exists.intro
      refine ⟨fun wq hw => ?_, ?_⟩
      · obtain ⟨hw1, hw2, hw3, hw4, hw5⟩ := hw
        go_simp
        rfl
      simp only [Act.put, List.setIfInBounds_toArray, List.set_cons_zero, List.set_cons_succ]
      refine wpAnyH_read (i := 5) (some 39) rfl rfl (by kernel_rfl) (by kernel_rfl) (by kernel_rfl) (fun _ _ _ h => h) rfl HS ?_
      apply Exists.intro
      refine ⟨fun wq hw => ?_, ?_⟩
      · obtain ⟨hw1, hw2, hw3, hw4, hw5⟩ := hw
        go_simp
        rfl
      simp only [Act.put, List.setIfInBounds_toArray, List.set_cons_zero, List.set_cons_succ]
      refine wpAnyH_read (i := 6) (some 40) rfl rfl (by kernel_rfl) (by kernel_rfl) (by kernel_rfl) (fun _ _ _ h => h) rfl HS ?_
      apply Exists.intro
      refine ⟨fun wq hw => ?_, ?_⟩
      · obtain ⟨hw1, hw2, hw3, hw4, hw5⟩ := hw
        go_simp
        rfl
      simp only [Act.put, List.setIfInBounds_toArray, List.set_cons_zero, List.set_cons_succ]
      refine wpAnyH_read (i := 7) (some 41) rfl rfl (by kernel_rfl) (by kernel_rfl) (by kernel_rfl) (fun _ _ _ h => h) rfl HS ?_
      apply Exists.intro
      refine ⟨fun wq hw => ?_, ?_⟩
      · obtain ⟨hw1, hw2, hw3, hw4, hw5⟩ := hw
        go_simp
        rfl
      simp only [Act.put, List.setIfInBounds_toArray, List.set_cons_zero, List.set_cons_succ]
      refine wpAnyH_read (i := 8) (some 42) rfl rfl (by kernel_rfl) (by kernel_rfl) (by kernel_rfl) (fun _ _ _ h => h) rfl HS ?_
      apply Exists.intro
      refine ⟨fun wq hw => ?_, ?_⟩
      · obtain ⟨hw1, hw2, hw3, hw4, hw5⟩ := hw
        go_simp
        rfl
      simp only [Act.put, List.setIfInBounds_toArray, List.set_cons_zero, List.set_cons_succ]
      refine wpAnyH_read (i := 9) (some 43) rfl rfl (by kernel_rfl) (by kernel_rfl) (by kernel_rfl) (fun _ _ _ h => h) rfl HS ?_
      apply Exists.intro
      refine ⟨fun wq hw => ?_, ?_⟩
      · obtain ⟨hw1, hw2, hw3, hw4, hw5⟩ := hw
        go_simp
        rfl
      simp only [Act.put, List.setIfInBounds_toArray, List.set_cons_zero, List.set_cons_succ]
      refine wpAnyH_read (i := 10) (some 44) rfl rfl (by kernel_rfl) (by kernel_rfl) (by kernel_rfl) (fun _ _ _ h => h) rfl HS ?_
      apply Exists.intro
      refine ⟨fun wq hw => ?_, ?_⟩
      · obtain ⟨hw1, hw2, hw3, hw4, hw5⟩ := hw
        go_simp
        rfl
      simp only [Act.put, List.setIfInBounds_toArray, List.set_cons_zero, List.set_cons_succ]
      refine wpAnyH_read (i := 11) (some 45) rfl rfl (by kernel_rfl) (by kernel_rfl) (by kernel_rfl) (fun _ _ _ h => h) rfl HS ?_
      apply Exists.intro
      refine ⟨fun wq hw => ?_, ?_⟩
      · obtain ⟨hw1, hw2, hw3, hw4, hw5⟩ := hw
        go_simp
        rfl
      simp only [Act.put, List.setIfInBounds_toArray, List.set_cons_zero, List.set_cons_succ]
      refine wpAnyH_read (i := 12) (some 46) rfl rfl (by kernel_rfl) (by kernel_rfl) (by kernel_rfl) (fun _ _ _ h => h) rfl HS ?_
      apply Exists.intro
      refine ⟨fun wq hw => ?_, ?_⟩
      · obtain ⟨hw1, hw2, hw3, hw4, hw5⟩ := hw
        go_simp
        rfl
      simp only [Act.put, List.setIfInBounds_toArray, List.set_cons_zero, List.set_cons_succ]
      refine wpAnyH_read (i := 13) (some 47) rfl rfl (by kernel_rfl) (by kernel_rfl) (by kernel_rfl) (fun _ _ _ h => h) rfl HS ?_
      apply Exists.intro
      refine ⟨fun wq hw => ?_, ?_⟩
      · obtain ⟨hw1, hw2, hw3, hw4, hw5⟩ := hw
        go_simp
        rfl
      simp only [Act.put, List.setIfInBounds_toArray, List.set_cons_zero, List.set_cons_succ]
      refine wpAnyH_read (i := 14) none rfl rfl (by kernel_rfl) (by kernel_rfl) (by kernel_rfl) (fun _ _ _ h => h) rfl HS ?_
      apply Exists.intro
      refine ⟨fun wq hw => ?_, ?_⟩
      · go_simp
        rfl
      simp only [Act.put]
      clear HS
      refine wpAnyH_done (by kernel_rfl) ?_ _
      simp only [Exit.then]
      refine wpOps_list (m := 14) rfl ?_
      have HM2 := Lib.hid (HM1.out.same (w' := v.drew) fun _ _ => rfl)
      have HB2 := Lib.hid (show Below B w v.drew from Below.drewN HB1.out 1)
      have c6 : v.drew.cell? ⟨tb, i * 9 + 6, none⟩ = some (.int .i64 (st.x i)) := c6
      have z6 : v.drew.frozen? ⟨tb, i * 9 + 6, none⟩ = false := z6
      clear HM1 HB1 c3 c1 c2 s0 v0
      generalize v.drew = v2 at *
      have hm3 := tsetX HM2.out HT.out hi (st.S k)
      have hb3 := HB2.out.setCell (p := ⟨tb, i * 9 + 6, none⟩) (HM2.out.lt (r := .T) rfl (by rw [HT.out]; rfl)).1 (.int .i64 (st.S k))
      have c1 : (v2.setCell ⟨tb, i * 9 + 6, none⟩ (.int .i64 (st.S k))).cell? ⟨mb, 1, none⟩ = some (.slice (some ⟨sb, 0, none⟩) st.size sc) := by have := bcell hm3 1 (by omega); rw [this]; exact congrArg some HS_.out
      have s0 : (v2.setCell ⟨tb, i * 9 + 6, none⟩ (.int .i64 (st.S k))).cell? ⟨sb, k, none⟩ = some (.int .i64 (st.S k)) := hm3.cell (r := .S) (e := 2) (sz := 1) (n := st.size) (cap := sc) (f := fun j => .int .i64 (st.S j)) (by simp only [memOf, HS_.out]) (by omega)
      have HM3 := Lib.hid (show RMem B mb oV { st with x := upd st.x i (st.S k) } _ from ⟨V, hm3⟩)
      have HB3 := Lib.hid hb3
      clear hm3 hb3 HM2 HB2
      rw [HK.out, hl2] at l1 l3
      have f1 : decide (st.S k < 2 * l) = false := by simp [l1]
      have f3 : decide (2 * l < st.S k) = true := by simp [l3]
      clear l1 l3
      generalize hs : st.S k = s at *
      have HS2 := Lib.hid hs
      clear hl2 hs
      go_wp2
      go_ret3
      exact ⟨rfl, by rw [HS2.out]; exact HM3.out, HB3.out⟩
    · rw [if_neg l1, if_neg l3, decide_eq_false l1, decide_eq_false l3]
      dsimp only
      obtain ⟨V, h⟩ := h
      obtain ⟨g0, g1⟩ := id g
      obtain ⟨tb, tc, hT, htc, htm⟩ := tb_of h (by omega)
      obtain ⟨⟨sb, sc, hS, hsc, hsm⟩, vb, vc, hV, hvc, hvm⟩ := sb_of h h0
      have hb0 : 0 ≤ st.q i % (st.size : Int) := Int.emod_nonneg _ (by omega)
      have hb1 : st.q i % (st.size : Int) < st.size := Int.emod_lt_of_pos _ (by omega)
      have hd0 : 0 ≤ st.q i / (st.size : Int) := Int.ediv_nonneg g0 (by omega)
      have hd1 : st.q i / (st.size : Int) ≤ st.q i := Int.ediv_le_self _ g0
      have HM := Lib.hid h
      have HT := Lib.hid hT
      have HS_ := Lib.hid hS
      have HV_ := Lib.hid hV
      have HG := Lib.hid g
      clear h hT hS hV g
      go_enter Try.func59, Try.ntmps59
      refine wp_cut fun K hK => ?_
      go_wp2
      refine hK.out _ _ ?_
      clear hK K
      refine wp_cut fun K hK => ?_
      have c3 : w.cell? ⟨mb, 3, none⟩ = some (.slice (some ⟨tb, 0, none⟩) st.n tc) := by have := bcell HM.out 3 (by omega); rw [this]; exact congrArg some HT.out
      have c5 : w.cell? ⟨tb, i * 9 + 5, none⟩ = some (.int .i64 (st.q i)) := tcell HM.out HT.out hi 5 (by omega)
      go_quiet (first | (go_at_call 45; exact quietS (refslot_ok (HM.out.drewN _) h0 h2 _ HG.out)) | (go_at_call 44; exact quietS (reflap_ok (HM.out.drewN _) h0 h2 _ HG.out)))
      refine hK.out _ _ ?_
      clear hK K c3 c5
      have HM1 := Lib.hid (HM.out.drewN nq)
      have HB1 := Lib.hid (Below.drewN (Below.refl B w) nq)
      clear HM
      generalize World.drewN _ nq = v at *
      obtain ⟨l, hl⟩ : ∃ l, l = st.q i / (st.size : Int) := ⟨_, rfl⟩
      rw [← hl] at hd0 hd1
      simp only [← hl]
      obtain ⟨k, hk⟩ : ∃ k : Nat, st.q i % (st.size : Int) = k := ⟨_, (Int.toNat_of_nonneg hb0).symm⟩
      rw [hk] at hb0 hb1
      simp only [hk]
      have hk' : k < st.size := by omega
      have HL := Lib.hid hl
      have HK := Lib.hid (show st.slot (st.q i) = k by unfold RM.slot; rw [hk]; rfl)
      clear hl hk
      refine wp_cut fun K hK => ?_
      refine wp_cut fun K2 hK2 => ?_
      go_wp2
      refine hK2.out _ _ ?_
      clear hK2 K2
      have hl2 : st.lap (st.q i) = l := HL.out.symm
      rw [HK.out]
      have c3 : v.cell? ⟨mb, 3, none⟩ = some (.slice (some ⟨tb, 0, none⟩) st.n tc) := by have := bcell HM1.out 3 (by omega); rw [this]; exact congrArg some HT.out
      have c1 : v.cell? ⟨mb, 1, none⟩ = some (.slice (some ⟨sb, 0, none⟩) st.size sc) := by have := bcell HM1.out 1 (by omega); rw [this]; exact congrArg some HS_.out
      have c2 : v.cell? ⟨mb, 2, none⟩ = some (.slice (some ⟨vb, 0, none⟩) st.size vc) := by have := bcell HM1.out 2 (by omega); rw [this]; exact congrArg some HV_.out
      have s0 : v.cell? ⟨sb, k, none⟩ = some (.int .i64 (st.S k)) := HM1.out.cell (r := .S) (e := 2) (sz := 1) (n := st.size) (cap := sc) (f := fun j => .int .i64 (st.S j)) (by simp only [memOf, HS_.out]) (by omega)
      have v0 : v.cell? ⟨vb, k, none⟩ = some (.int .i64 (st.V k)) := HM1.out.cell (r := .V) (e := 2) (sz := 1) (n := st.size) (cap := vc) (f := fun j => .int .i64 (st.V j)) (by simp only [memOf, HV_.out]) (by omega)
      have c6 : v.cell? ⟨tb, i * 9 + 6, none⟩ = some (.int .i64 (st.x i)) := tcell HM1.out HT.out hi 6 (by omega)
      have z6 := tfrozen HM1.out HT.out (i * 9 + 6)
      go_wp2_with fail
      refine wp_region_last (S := fun w' => w'.cell? ⟨mb, 3, none⟩ = some (.slice (some ⟨tb, 0, none⟩) st.n tc) ∧ w'.cell? ⟨mb, 1, none⟩ = some (.slice (some ⟨sb, 0, none⟩) st.size sc) ∧ w'.cell? ⟨sb, k, none⟩ = some (.int .i64 (st.S k)) ∧ True ∧ True) 14 (by kernel_rfl) (by kernel_rfl) (by kernel_rfl) ?_
      simp only [idle, List.modify_toArray, List.modify_succ_cons, List.modify_zero_cons, List.size_toArray, List.length_cons, List.length_nil, Nat.reduceAdd]
      have HS : v.drew.cell? ⟨mb, 3, none⟩ = some (.slice (some ⟨tb, 0, none⟩) st.n tc) ∧ v.drew.cell? ⟨mb, 1, none⟩ = some (.slice (some ⟨sb, 0, none⟩) st.size sc) ∧ v.drew.cell? ⟨sb, k, none⟩ = some (.int .i64 (st.S k)) ∧ True ∧ True := ⟨c3, c1, s0, trivial, trivial⟩
      refine wpAnyH_read (i := 0) (some 34) rfl rfl (by kernel_rfl) (by kernel_rfl) (by kernel_rfl) (fun _ _ _ h => h) rfl HS ?_
      apply Exists.intro
      refine ⟨fun wq hw => ?_, ?_⟩
      · obtain ⟨hw1, hw2, hw3, hw4, hw5⟩ := hw
        go_simp
        rfl
      simp only [Act.put, List.setIfInBounds_toArray, List.set_cons_zero, List.set_cons_succ]
      refine wpAnyH_read (i := 1) (some 35) rfl rfl (by kernel_rfl) (by kernel_rfl) (by kernel_rfl) (fun _ _ _ h => h) rfl HS ?_
      apply Exists.intro
      refine ⟨fun wq hw => ?_, ?_⟩
      · obtain ⟨hw1, hw2, hw3, hw4, hw5⟩ := hw
        go_simp
        rfl
      simp only [Act.put, List.setIfInBounds_toArray, List.set_cons_zero, List.set_cons_succ]
      refine wpAnyH_read (i := 2) (some 36) rfl rfl (by kernel_rfl) (by kernel_rfl) (by kernel_rfl) (fun _ _ _ h => h) rfl HS ?_
      apply Exists.intro
      refine ⟨fun wq hw => ?_, ?_⟩
      · obtain ⟨hw1, hw2, hw3, hw4, hw5⟩ := hw
        go_simp
        rfl
      simp only [Act.put, List.setIfInBounds_toArray, List.set_cons_zero, List.set_cons_succ]
      refine wpAnyH_read (i := 3) (some 37) rfl rfl (by kernel_rfl) (by kernel_rfl) (by kernel_rfl) (fun _ _ _ h => h) rfl HS ?_
      apply Exists.intro
      refine ⟨fun wq hw => ?_, ?_⟩
      · obtain ⟨hw1, hw2, hw3, hw4, hw5⟩ := hw
        go_simp
        rfl
      simp only [Act.put, List.setIfInBounds_toArray, List.set_cons_zero, List.set_cons_succ]
      refine wpAnyH_read (i := 4) (some 38) rfl rfl (by kernel_rfl) (by kernel_rfl) (by kernel_rfl) (fun _ _ _ h => h) rfl HS ?_
      apply Exists.intro
      refine ⟨fun wq hw => ?_, ?_⟩
      · obtain ⟨hw1, hw2, hw3, hw4, hw5⟩ := hw
        go_simp
        rfl
      simp only [Act.put, List.setIfInBounds_toArray, List.set_cons_zero, List.set_cons_succ]
      refine wpAnyH_read (i := 5) (some 39) rfl rfl (by kernel_rfl) (by kernel_rfl) (by kernel_rfl) (fun _ _ _ h => h) rfl HS ?_
      apply Exists.intro
      refine ⟨fun wq hw => ?_, ?_⟩
      · obtain ⟨hw1, hw2, hw3, hw4, hw5⟩ := hw
        go_simp
        rfl
      simp only [Act.put, List.setIfInBounds_toArray, List.set_cons_zero, List.set_cons_succ]
      refine wpAnyH_read (i := 6) (some 40) rfl rfl (by kernel_rfl) (by kernel_rfl) (by kernel_rfl) (fun _ _ _ h => h) rfl HS ?_
      apply Exists.intro
      refine ⟨fun wq hw => ?_, ?_⟩
      · obtain ⟨hw1, hw2, hw3, hw4, hw5⟩ := hw
        go_simp
        rfl
      simp only [Act.put, List.setIfInBounds_toArray, List.set_cons_zero, List.set_cons_succ]
      refine wpAnyH_read (i := 7) (some 41) rfl rfl (by kernel_rfl) (by kernel_rfl) (by kernel_rfl) (fun _ _ _ h => h) rfl HS ?_
      apply Exists.intro
      refine ⟨fun wq hw => ?_, ?_⟩
      · obtain ⟨hw1, hw2, hw3, hw4, hw5⟩ := hw
        go_simp
        rfl
      simp only [Act.put, List.setIfInBounds_toArray, List.set_cons_zero, List.set_cons_succ]
      refine wpAnyH_read (i := 8) (some 42) rfl rfl (by kernel_rfl) (by kernel_rfl) (by kernel_rfl) (fun _ _ _ h => h) rfl HS ?_
      apply Exists.intro
      refine ⟨fun wq hw => ?_, ?_⟩
      · obtain ⟨hw1, hw2, hw3, hw4, hw5⟩ := hw
        go_simp
        rfl
      simp only [Act.put, List.setIfInBounds_toArray, List.set_cons_zero, List.set_cons_succ]
      refine wpAnyH_read (i := 9) (some 43) rfl rfl (by kernel_rfl) (by kernel_rfl) (by kernel_rfl) (fun _ _ _ h => h) rfl HS ?_
      apply Exists.intro
      refine ⟨fun wq hw => ?_, ?_⟩
      · obtain ⟨hw1, hw2, hw3, hw4, hw5⟩ := hw
        go_simp
        rfl
      simp only [Act.put, List.setIfInBounds_toArray, List.set_cons_zero, List.set_cons_succ]
      refine wpAnyH_read (i := 10) (some 44) rfl rfl (by kernel_rfl) (by kernel_rfl) (by kernel_rfl) (fun _ _ _ h => h) rfl HS ?_
      apply Exists.intro
      refine ⟨fun wq hw => ?_, ?_⟩
      · obtain ⟨hw1, hw2, hw3, hw4, hw5⟩ := hw
        go_simp
        rfl
      simp only [Act.put, List.setIfInBounds_toArray, List.set_cons_zero, List.set_cons_succ]
      refine wpAnyH_read (i := 11) (some 45) rfl rfl (by kernel_rfl) (by kernel_rfl) (by kernel_rfl) (fun _ _ _ h => h) rfl HS ?_
      apply Exists.intro
      refine ⟨fun wq hw => ?_, ?_⟩
      · obtain ⟨hw1, hw2, hw3, hw4, hw5⟩ := hw
        go_simp
        rfl
      simp only [Act.put, List.setIfInBounds_toArray, List.set_cons_zero, List.set_cons_succ]
      refine wpAnyH_read (i := 12) (some 46) rfl rfl (by kernel_rfl) (by kernel_rfl) (by kernel_rfl) (fun _ _ _ h => h) rfl HS ?_
      apply Exists.intro
      refine ⟨fun wq hw => ?_, ?_⟩
      · obtain ⟨hw1, hw2, hw3, hw4, hw5⟩ := hw
        go_simp
        rfl
      simp only [Act.put, List.setIfInBounds_toArray, List.set_cons_zero, List.set_cons_succ]
      refine wpAnyH_read (i := 13) (some 47) rfl rfl (by kernel_rfl) (by kernel_rfl) (by kernel_rfl) (fun _ _ _ h => h) rfl HS ?_
      apply Exists.intro
      refine ⟨fun wq hw => ?_, ?_⟩
      · obtain ⟨hw1, hw2, hw3, hw4, hw5⟩ := hw
        go_simp
        rfl
      simp only [Act.put, List.setIfInBounds_toArray, List.set_cons_zero, List.set_cons_succ]
      refine wpAnyH_read (i := 14) none rfl rfl (by kernel_rfl) (by kernel_rfl) (by kernel_rfl) (fun _ _ _ h => h) rfl HS ?_
      apply Exists.intro
      refine ⟨fun wq hw => ?_, ?_⟩
      · go_simp
        rfl
      simp only [Act.put]
      clear HS
      refine wpAnyH_done (by kernel_rfl) ?_ _
      simp only [Exit.then]
      refine wpOps_list (m := 14) rfl ?_
      have HM2 := Lib.hid (HM1.out.same (w' := v.drew) fun _ _ => rfl)
      have HB2 := Lib.hid (show Below B w v.drew from Below.drewN HB1.out 1)
      have c6 : v.drew.cell? ⟨tb, i * 9 + 6, none⟩ = some (.int .i64 (st.x i)) := c6
      have z6 : v.drew.frozen? ⟨tb, i * 9 + 6, none⟩ = false := z6
      clear HM1 HB1 c3 c1 c2 s0 v0
      generalize v.drew = v2 at *
      have hm3 := tsetX HM2.out HT.out hi (st.S k)
      have hb3 := HB2.out.setCell (p := ⟨tb, i * 9 + 6, none⟩) (HM2.out.lt (r := .T) rfl (by rw [HT.out]; rfl)).1 (.int .i64 (st.S k))
      have c1 : (v2.setCell ⟨tb, i * 9 + 6, none⟩ (.int .i64 (st.S k))).cell? ⟨mb, 1, none⟩ = some (.slice (some ⟨sb, 0, none⟩) st.size sc) := by have := bcell hm3 1 (by omega); rw [this]; exact congrArg some HS_.out
      have s0 : (v2.setCell ⟨tb, i * 9 + 6, none⟩ (.int .i64 (st.S k))).cell? ⟨sb, k, none⟩ = some (.int .i64 (st.S k)) := hm3.cell (r := .S) (e := 2) (sz := 1) (n := st.size) (cap := sc) (f := fun j => .int .i64 (st.S j)) (by simp only [memOf, HS_.out]) (by omega)
      have HM3 := Lib.hid (show RMem B mb oV { st with x := upd st.x i (st.S k) } _ from ⟨V, hm3⟩)
      have HB3 := Lib.hid hb3
      clear hm3 hb3 HM2 HB2
      rw [HK.out, hl2] at l1 l3
      have f1 : decide (st.S k < 2 * l) = false := by simp [l1]
      have f3 : decide (2 * l < st.S k) = false := by simp [l3]
      clear l1 l3
      generalize hs : st.S k = s at *
      have HS2 := Lib.hid hs
      clear hl2 hs
      go_wp2
      go_ret3
      exact ⟨rfl, by rw [HS2.out]; exact HM3.out, HB3.out⟩
set_option maxHeartbeats 4000000 in
set_option maxRecDepth 100000 in
theorem refget2_ok (w : World) (hB : B ≤ w.heap.size) (h : RMem B mb oV st w) {i : Nat} (hi : i < st.n) (hn : st.n ≤ 64) (h0 : 0 < st.size) (h2 : st.size ≤ 65536) (g : GoodI (st.q i)) :
    Calls Try.prog 59 #[.pointer (some ⟨mb, 0, none⟩), .int .i64 i, .int .i64 2] w fun e w' => e = .returned (.tuple #[.int .i64 (st.get i 2).2.1, .int .i64 (st.get i 2).2.2.1, .bool (st.get i 2).2.2.2]) ∧ RMem B mb oV (st.get i 2).1 w' ∧ Below B w w' := by
  have e1 : st.get i 2 = ({ st with v := upd st.v i (st.V (st.slot (st.q i))) }, 0, 0, false) := by simp [RM.get]
  rw [e1]
  clear e1
  dsimp only
  obtain ⟨V, h⟩ := h
  obtain ⟨g0, g1⟩ := id g
  obtain ⟨tb, tc, hT, htc, htm⟩ := tb_of h (by omega)
  obtain ⟨⟨sb, sc, hS, hsc, hsm⟩, vb, vc, hV, hvc, hvm⟩ := sb_of h h0
  have hb0 : 0 ≤ st.q i % (st.size : Int) := Int.emod_nonneg _ (by omega)
  have hb1 : st.q i % (st.size : Int) < st.size := Int.emod_lt_of_pos _ (by omega)
  have hd0 : 0 ≤ st.q i / (st.size : Int) := Int.ediv_nonneg g0 (by omega)
  have hd1 : st.q i / (st.size : Int) ≤ st.q i := Int.ediv_le_self _ g0
  have HM := Lib.hid h
  have HT := Lib.hid hT
  have HS_ := Lib.hid hS
  have HV_ := Lib.hid hV
  have HG := Lib.hid g
  clear h hT hS hV g
  go_enter Try.func59, Try.ntmps59
  refine wp_cut fun K hK => ?_
  go_wp2
  refine hK.out _ _ ?_
  clear hK K
  refine wp_cut fun K hK => ?_
  have c3 : w.cell? ⟨mb, 3, none⟩ = some (.slice (some ⟨tb, 0, none⟩) st.n tc) := by have := bcell HM.out 3 (by omega); rw [this]; exact congrArg some HT.out
  have c5 : w.cell? ⟨tb, i * 9 + 5, none⟩ = some (.int .i64 (st.q i)) := tcell HM.out HT.out hi 5 (by omega)
  go_quiet (first | (go_at_call 45; exact quietS (refslot_ok (HM.out.drewN _) h0 h2 _ HG.out)) | (go_at_call 44; exact quietS (reflap_ok (HM.out.drewN _) h0 h2 _ HG.out)))
  refine hK.out _ _ ?_
  clear hK K c3 c5
  have HM1 := Lib.hid (HM.out.drewN nq)
  have HB1 := Lib.hid (Below.drewN (Below.refl B w) nq)
  clear HM
  generalize World.drewN _ nq = v at *
  obtain ⟨l, hl⟩ : ∃ l, l = st.q i / (st.size : Int) := ⟨_, rfl⟩
  rw [← hl] at hd0 hd1
  simp only [← hl]
  obtain ⟨k, hk⟩ : ∃ k : Nat, st.q i % (st.size : Int) = k := ⟨_, (Int.toNat_of_nonneg hb0).symm⟩
  rw [hk] at hb0 hb1
  simp only [hk]
  have hk' : k < st.size := by omega
  have HL := Lib.hid hl
  have HK := Lib.hid (show st.slot (st.q i) = k by unfold RM.slot; rw [hk]; rfl)
  clear hl hk
  refine wp_cut fun K hK => ?_
  refine wp_cut fun K2 hK2 => ?_
  go_wp2
  refine hK2.out _ _ ?_
  clear hK2 K2
  have hl2 : st.lap (st.q i) = l := HL.out.symm
  rw [HK.out]
  have c3 : v.cell? ⟨mb, 3, none⟩ = some (.slice (some ⟨tb, 0, none⟩) st.n tc) := by have := bcell HM1.out 3 (by omega); rw [this]; exact congrArg some HT.out
  have c1 : v.cell? ⟨mb, 1, none⟩ = some (.slice (some ⟨sb, 0, none⟩) st.size sc) := by have := bcell HM1.out 1 (by omega); rw [this]; exact congrArg some HS_.out
  have c2 : v.cell? ⟨mb, 2, none⟩ = some (.slice (some ⟨vb, 0, none⟩) st.size vc) := by have := bcell HM1.out 2 (by omega); rw [this]; exact congrArg some HV_.out
  have s0 : v.cell? ⟨sb, k, none⟩ = some (.int .i64 (st.S k)) := HM1.out.cell (r := .S) (e := 2) (sz := 1) (n := st.size) (cap := sc) (f := fun j => .int .i64 (st.S j)) (by simp only [memOf, HS_.out]) (by omega)
  have v0 : v.cell? ⟨vb, k, none⟩ = some (.int .i64 (st.V k)) := HM1.out.cell (r := .V) (e := 2) (sz := 1) (n := st.size) (cap := vc) (f := fun j => .int .i64 (st.V j)) (by simp only [memOf, HV_.out]) (by omega)
  have c7 : v.cell? ⟨tb, i * 9 + 7, none⟩ = some (.int .i64 (st.v i)) := tcell HM1.out HT.out hi 7 (by omega)
  have z7 := tfrozen HM1.out HT.out (i * 9 + 7)
  go_wp2_with fail
  refine wp_region_last (S := fun w' => w'.cell? ⟨mb, 3, none⟩ = some (.slice (some ⟨tb, 0, none⟩) st.n tc) ∧ w'.cell? ⟨mb, 2, none⟩ = some (.slice (some ⟨vb, 0, none⟩) st.size vc) ∧ w'.cell? ⟨vb, k, none⟩ = some (.int .i64 (st.V k)) ∧ True ∧ True) 14 (by kernel_rfl) (by kernel_rfl) (by kernel_rfl) ?_
  simp only [idle, List.modify_toArray, List.modify_succ_cons, List.modify_zero_cons, List.size_toArray, List.length_cons, List.length_nil, Nat.reduceAdd]
  have HS : v.drew.cell? ⟨mb, 3, none⟩ = some (.slice (some ⟨tb, 0, none⟩) st.n tc) ∧ v.drew.cell? ⟨mb, 2, none⟩ = some (.slice (some ⟨vb, 0, none⟩) st.size vc) ∧ v.drew.cell? ⟨vb, k, none⟩ = some (.int .i64 (st.V k)) ∧ True ∧ True := ⟨c3, c2, v0, trivial, trivial⟩
  refine wpAnyH_read (i := 0) (some 70) rfl rfl (by kernel_rfl) (by kernel_rfl) (by kernel_rfl) (fun _ _ _ h => h) rfl HS ?_
  apply Exists.intro
  refine ⟨fun wq hw => ?_, ?_⟩
  · obtain ⟨hw1, hw2, hw3, hw4, hw5⟩ := hw
    go_simp
    rfl
  simp only [Act.put, List.setIfInBounds_toArray, List.set_cons_zero, List.set_cons_succ]
  refine wpAnyH_read (i := 1) (some 71) rfl rfl (by kernel_rfl) (by kernel_rfl) (by kernel_rfl) (fun _ _ _ h => h) rfl HS ?_
  apply Exists.intro
  refine ⟨fun wq hw => ?_, ?_⟩
  · obtain ⟨hw1, hw2, hw3, hw4, hw5⟩ := hw
    go_simp
    rfl
  simp only [Act.put, List.setIfInBounds_toArray, List.set_cons_zero, List.set_cons_succ]
  refine wpAnyH_read (i := 2) (some 72) rfl rfl (by kernel_rfl) (by kernel_rfl) (by kernel_rfl) (fun _ _ _ h => h) rfl HS ?_
  apply Exists.intro
  refine ⟨fun wq hw => ?_, ?_⟩
  · obtain ⟨hw1, hw2, hw3, hw4, hw5⟩ := hw
    go_simp
    rfl
  simp only [Act.put, List.setIfInBounds_toArray, List.set_cons_zero, List.set_cons_succ]
  refine wpAnyH_read (i := 3) (some 73) rfl rfl (by kernel_rfl) (by kernel_rfl) (by kernel_rfl) (fun _ _ _ h => h) rfl HS ?_
  apply Exists.intro
  refine ⟨fun wq hw => ?_, ?_⟩
  · obtain ⟨hw1, hw2, hw3, hw4, hw5⟩ := hw
    go_simp
    rfl
  simp only [Act.put, List.setIfInBounds_toArray, List.set_cons_zero, List.set_cons_succ]
  refine wpAnyH_read (i := 4) (some 74) rfl rfl (by kernel_rfl) (by kernel_rfl) (by kernel_rfl) (fun _ _ _ h => h) rfl HS ?_
  apply Exists.intro
  refine ⟨fun wq hw => ?_, ?_⟩
  · obtain ⟨hw1, hw2, hw3, hw4, hw5⟩ := hw
    go_simp
    rfl
  simp only [Act.put, List.setIfInBounds_toArray, List.set_cons_zero, List.set_cons_succ]
  refine wpAnyH_read (i := 5) (some 75) rfl rfl (by kernel_rfl) (by kernel_rfl) (by kernel_rfl) (fun _ _ _ h => h) rfl HS ?_
  apply Exists.intro
  refine ⟨fun wq hw => ?_, ?_⟩
  · obtain ⟨hw1, hw2, hw3, hw4, hw5⟩ := hw
    go_simp
    rfl
  simp only [Act.put, List.setIfInBounds_toArray, List.set_cons_zero, List.set_cons_succ]
  refine wpAnyH_read (i := 6) (some 76) rfl rfl (by kernel_rfl) (by kernel_rfl) (by kernel_rfl) (fun _ _ _ h => h) rfl HS ?_
  apply Exists.intro
  refine ⟨fun wq hw => ?_, ?_⟩
  · obtain ⟨hw1, hw2, hw3, hw4, hw5⟩ := hw
    go_simp
    rfl
  simp only [Act.put, List.setIfInBounds_toArray, List.set_cons_zero, List.set_cons_succ]
  refine wpAnyH_read (i := 7) (some 77) rfl rfl (by kernel_rfl) (by kernel_rfl) (by kernel_rfl) (fun _ _ _ h => h) rfl HS ?_
  apply Exists.intro
  refine ⟨fun wq hw => ?_, ?_⟩
  · obtain ⟨hw1, hw2, hw3, hw4, hw5⟩ := hw
    go_simp
    rfl
  simp only [Act.put, List.setIfInBounds_toArray, List.set_cons_zero, List.set_cons_succ]
  refine wpAnyH_read (i := 8) (some 78) rfl rfl (by kernel_rfl) (by kernel_rfl) (by kernel_rfl) (fun _ _ _ h => h) rfl HS ?_
  apply Exists.intro
  refine ⟨fun wq hw => ?_, ?_⟩
  · obtain ⟨hw1, hw2, hw3, hw4, hw5⟩ := hw
    go_simp
    rfl
  simp only [Act.put, List.setIfInBounds_toArray, List.set_cons_zero, List.set_cons_succ]
  refine wpAnyH_read (i := 9) (some 79) rfl rfl (by kernel_rfl) (by kernel_rfl) (by kernel_rfl) (fun _ _ _ h => h) rfl HS ?_
  apply Exists.intro
  refine ⟨fun wq hw => ?_, ?_⟩
  · obtain ⟨hw1, hw2, hw3, hw4, hw5⟩ := hw
    go_simp
    rfl
  simp only [Act.put, List.setIfInBounds_toArray, List.set_cons_zero, List.set_cons_succ]
  refine wpAnyH_read (i := 10) (some 80) rfl rfl (by kernel_rfl) (by kernel_rfl) (by kernel_rfl) (fun _ _ _ h => h) rfl HS ?_
  apply Exists.intro
  refine ⟨fun wq hw => ?_, ?_⟩
  · obtain ⟨hw1, hw2, hw3, hw4, hw5⟩ := hw
    go_simp
    rfl
  simp only [Act.put, List.setIfInBounds_toArray, List.set_cons_zero, List.set_cons_succ]
  refine wpAnyH_read (i := 11) (some 81) rfl rfl (by kernel_rfl) (by kernel_rfl) (by kernel_rfl) (fun _ _ _ h => h) rfl HS ?_
  apply Exists.intro
  refine ⟨fun wq hw => ?_, ?_⟩
  · obtain ⟨hw1, hw2, hw3, hw4, hw5⟩ := hw
    go_simp
    rfl
  simp only [Act.put, List.setIfInBounds_toArray, List.set_cons_zero, List.set_cons_succ]
  refine wpAnyH_read (i := 12) (some 82) rfl rfl (by kernel_rfl) (by kernel_rfl) (by kernel_rfl) (fun _ _ _ h => h) rfl HS ?_
  apply Exists.intro
  refine ⟨fun wq hw => ?_, ?_⟩
  · obtain ⟨hw1, hw2, hw3, hw4, hw5⟩ := hw
    go_simp
    rfl
  simp only [Act.put, List.setIfInBounds_toArray, List.set_cons_zero, List.set_cons_succ]
  refine wpAnyH_read (i := 13) (some 83) rfl rfl (by kernel_rfl) (by kernel_rfl) (by kernel_rfl) (fun _ _ _ h => h) rfl HS ?_
  apply Exists.intro
  refine ⟨fun wq hw => ?_, ?_⟩
  · obtain ⟨hw1, hw2, hw3, hw4, hw5⟩ := hw
    go_simp
    rfl
  simp only [Act.put, List.setIfInBounds_toArray, List.set_cons_zero, List.set_cons_succ]
  refine wpAnyH_read (i := 14) none rfl rfl (by kernel_rfl) (by kernel_rfl) (by kernel_rfl) (fun _ _ _ h => h) rfl HS ?_
  apply Exists.intro
  refine ⟨fun wq hw => ?_, ?_⟩
  · go_simp
    rfl
  simp only [Act.put]
  clear HS
  refine wpAnyH_done (by kernel_rfl) ?_ _
  simp only [Exit.then]
  refine wpOps_list (m := 14) rfl ?_
  have HM2 := Lib.hid (HM1.out.same (w' := v.drew) fun _ _ => rfl)
  have HB2 := Lib.hid (show Below B w v.drew from Below.drewN HB1.out 1)
  have c7 : v.drew.cell? ⟨tb, i * 9 + 7, none⟩ = some (.int .i64 (st.v i)) := c7
  have z7 : v.drew.frozen? ⟨tb, i * 9 + 7, none⟩ = false := z7
  clear HM1 HB1 c3 c1 c2 s0 v0
  generalize v.drew = v2 at *
  have hm3 := tsetV HM2.out HT.out hi (st.V k)
  have hb3 := HB2.out.setCell (p := ⟨tb, i * 9 + 7, none⟩) (HM2.out.lt (r := .T) rfl (by rw [HT.out]; rfl)).1 (.int .i64 (st.V k))
  have HM3 := Lib.hid (show RMem B mb oV { st with v := upd st.v i (st.V k) } _ from ⟨V, hm3⟩)
  have HB3 := Lib.hid hb3
  clear hm3 hb3 HM2 HB2
  go_wp2
  go_ret3
  exact ⟨rfl, HM3.out, HB3.out⟩
set_option maxHeartbeats 4000000 in
set_option maxRecDepth 100000 in
theorem refget3_ok (w : World) (hB : B ≤ w.heap.size) (h : RMem B mb oV st w) {i : Nat} (hi : i < st.n) (hn : st.n ≤ 64) (h0 : 0 < st.size) (h2 : st.size ≤ 65536) (g : GoodI (st.q i)) :
    Calls Try.prog 59 #[.pointer (some ⟨mb, 0, none⟩), .int .i64 i, .int .i64 3] w fun e w' => e = .returned (.tuple #[.int .i64 (st.get i 3).2.1, .int .i64 (st.get i 3).2.2.1, .bool (st.get i 3).2.2.2]) ∧ RMem B mb oV (st.get i 3).1 w' ∧ Below B w w' := by
  have e1 : st.get i 3 = if st.S (st.slot (st.q i)) = st.x i then (st, st.v i, 0, true) else (st, 0, 10, true) := by simp [RM.get]
  rw [e1]
  clear e1
  by_cases l1 : st.S (st.slot (st.q i)) = st.x i
  · rw [if_pos l1]
    dsimp only
    obtain ⟨V, h⟩ := h
    obtain ⟨g0, g1⟩ := id g
    obtain ⟨tb, tc, hT, htc, htm⟩ := tb_of h (by omega)
    obtain ⟨⟨sb, sc, hS, hsc, hsm⟩, vb, vc, hV, hvc, hvm⟩ := sb_of h h0
    have hb0 : 0 ≤ st.q i % (st.size : Int) := Int.emod_nonneg _ (by omega)
    have hb1 : st.q i % (st.size : Int) < st.size := Int.emod_lt_of_pos _ (by omega)
    have hd0 : 0 ≤ st.q i / (st.size : Int) := Int.ediv_nonneg g0 (by omega)
    have hd1 : st.q i / (st.size : Int) ≤ st.q i := Int.ediv_le_self _ g0
    have HM := Lib.hid h
    have HT := Lib.hid hT
    have HS_ := Lib.hid hS
    have HV_ := Lib.hid hV
    have HG := Lib.hid g
    clear h hT hS hV g
    go_enter Try.func59, Try.ntmps59
    refine wp_cut fun K hK => ?_
    go_wp2
    refine hK.out _ _ ?_
    clear hK K
    refine wp_cut fun K hK => ?_
    have c3 : w.cell? ⟨mb, 3, none⟩ = some (.slice (some ⟨tb, 0, none⟩) st.n tc) := by have := bcell HM.out 3 (by omega); rw [this]; exact congrArg some HT.out
    have c5 : w.cell? ⟨tb, i * 9 + 5, none⟩ = some (.int .i64 (st.q i)) := tcell HM.out HT.out hi 5 (by omega)
    go_quiet (first | (go_at_call 45; exact quietS (refslot_ok (HM.out.drewN _) h0 h2 _ HG.out)) | (go_at_call 44; exact quietS (reflap_ok (HM.out.drewN _) h0 h2 _ HG.out)))
    refine hK.out _ _ ?_
    clear hK K c3 c5
    have HM1 := Lib.hid (HM.out.drewN nq)
    have HB1 := Lib.hid (Below.drewN (Below.refl B w) nq)
    clear HM
    generalize World.drewN _ nq = v at *
    obtain ⟨l, hl⟩ : ∃ l, l = st.q i / (st.size : Int) := ⟨_, rfl⟩
    rw [← hl] at hd0 hd1
    simp only [← hl]
    obtain ⟨k, hk⟩ : ∃ k : Nat, st.q i % (st.size : Int) = k := ⟨_, (Int.toNat_of_nonneg hb0).symm⟩
    rw [hk] at hb0 hb1
    simp only [hk]
    have hk' : k < st.size := by omega
    have HL := Lib.hid hl
    have HK := Lib.hid (show st.slot (st.q i) = k by unfold RM.slot; rw [hk]; rfl)
    clear hl hk
    refine wp_cut fun K hK => ?_
    refine wp_cut fun K2 hK2 => ?_
    go_wp2
    refine hK2.out _ _ ?_
    clear hK2 K2
    have hl2 : st.lap (st.q i) = l := HL.out.symm
    rw [HK.out] at l1
    have c3 : v.cell? ⟨mb, 3, none⟩ = some (.slice (some ⟨tb, 0, none⟩) st.n tc) := by have := bcell HM1.out 3 (by omega); rw [this]; exact congrArg some HT.out
    have c1 : v.cell? ⟨mb, 1, none⟩ = some (.slice (some ⟨sb, 0, none⟩) st.size sc) := by have := bcell HM1.out 1 (by omega); rw [this]; exact congrArg some HS_.out
    have c2 : v.cell? ⟨mb, 2, none⟩ = some (.slice (some ⟨vb, 0, none⟩) st.size vc) := by have := bcell HM1.out 2 (by omega); rw [this]; exact congrArg some HV_.out
    have s0 : v.cell? ⟨sb, k, none⟩ = some (.int .i64 (st.S k)) := HM1.out.cell (r := .S) (e := 2) (sz := 1) (n := st.size) (cap := sc) (f := fun j => .int .i64 (st.S j)) (by simp only [memOf, HS_.out]) (by omega)
    have v0 : v.cell? ⟨vb, k, none⟩ = some (.int .i64 (st.V k)) := HM1.out.cell (r := .V) (e := 2) (sz := 1) (n := st.size) (cap := vc) (f := fun j => .int .i64 (st.V j)) (by simp only [memOf, HV_.out]) (by omega)
    have c6 : v.cell? ⟨tb, i * 9 + 6, none⟩ = some (.int .i64 (st.x i)) := tcell HM1.out HT.out hi 6 (by omega)
    have c7 : v.cell? ⟨tb, i * 9 + 7, none⟩ = some (.int .i64 (st.v i)) := tcell HM1.out HT.out hi 7 (by omega)
    have f1 : (st.S k == st.x i) = true := by simp [l1]
    clear l1
    go_wp2_with fail
    refine hK.out _ _ ?_
    clear hK K
    refine wp_cut fun K hK => ?_
    refine wp_cut fun K2 hK2 => ?_
    go_quiet (fail)
    refine hK2.out _ _ ?_
    clear hK2 K2
    have c3 : (v.drewN nq).cell? ⟨mb, 3, none⟩ = some (.slice (some ⟨tb, 0, none⟩) st.n tc) := c3
    have c7 : (v.drewN nq).cell? ⟨tb, i * 9 + 7, none⟩ = some (.int .i64 (st.v i)) := c7
    have HM2 := Lib.hid (show RMem B mb oV st (v.drewN nq) from ⟨V, HM1.out.drewN nq⟩)
    have HB2 := Lib.hid (Below.drewN HB1.out nq)
    clear HM1 HB1 c1 c2 s0 v0 c6 hl2
    generalize v.drewN nq = v2 at *
    go_wp2
    skip
    go_ret3
    exact ⟨rfl, HM2.out, HB2.out⟩
  · rw [if_neg l1]
    dsimp only
    obtain ⟨V, h⟩ := h
    obtain ⟨g0, g1⟩ := id g
    obtain ⟨tb, tc, hT, htc, htm⟩ := tb_of h (by omega)
    obtain ⟨⟨sb, sc, hS, hsc, hsm⟩, vb, vc, hV, hvc, hvm⟩ := sb_of h h0
    have hb0 : 0 ≤ st.q i % (st.size : Int) := Int.emod_nonneg _ (by omega)
    have hb1 : st.q i % (st.size : Int) < st.size := Int.emod_lt_of_pos _ (by omega)
    have hd0 : 0 ≤ st.q i / (st.size : Int) := Int.ediv_nonneg g0 (by omega)
    have hd1 : st.q i / (st.size : Int) ≤ st.q i := Int.ediv_le_self _ g0
    have HM := Lib.hid h
    have HT := Lib.hid hT
    have HS_ := Lib.hid hS
    have HV_ := Lib.hid hV
    have HG := Lib.hid g
    clear h hT hS hV g
    go_enter Try.func59, Try.ntmps59
    refine wp_cut fun K hK => ?_
    go_wp2
    refine hK.out _ _ ?_
    clear hK K
    refine wp_cut fun K hK => ?_
    have c3 : w.cell? ⟨mb, 3, none⟩ = some (.slice (some ⟨tb, 0, none⟩) st.n tc) := by have := bcell HM.out 3 (by omega); rw [this]; exact congrArg some HT.out
    have c5 : w.cell? ⟨tb, i * 9 + 5, none⟩ = some (.int .i64 (st.q i)) := tcell HM.out HT.out hi 5 (by omega)
    go_quiet (first | (go_at_call 45; exact quietS (refslot_ok (HM.out.drewN _) h0 h2 _ HG.out)) | (go_at_call 44; exact quietS (reflap_ok (HM.out.drewN _) h0 h2 _ HG.out)))
    refine hK.out _ _ ?_
    clear hK K c3 c5
    have HM1 := Lib.hid (HM.out.drewN nq)
    have HB1 := Lib.hid (Below.drewN (Below.refl B w) nq)
    clear HM
    generalize World.drewN _ nq = v at *
    obtain ⟨l, hl⟩ : ∃ l, l = st.q i / (st.size : Int) := ⟨_, rfl⟩
    rw [← hl] at hd0 hd1
    simp only [← hl]
    obtain ⟨k, hk⟩ : ∃ k : Nat, st.q i % (st.size : Int) = k := ⟨_, (Int.toNat_of_nonneg hb0).symm⟩
    rw [hk] at hb0 hb1
    simp only [hk]
    have hk' : k < st.size := by omega
    have HL := Lib.hid hl
    have HK := Lib.hid (show st.slot (st.q i) = k by unfold RM.slot; rw [hk]; rfl)
    clear hl hk
    refine wp_cut fun K hK => ?_
    refine wp_cut fun K2 hK2 => ?_
    go_wp2
    refine hK2.out _ _ ?_
    clear hK2 K2
    have hl2 : st.lap (st.q i) = l := HL.out.symm
    rw [HK.out] at l1
    have c3 : v.cell? ⟨mb, 3, none⟩ = some (.slice (some ⟨tb, 0, none⟩) st.n tc) := by have := bcell HM1.out 3 (by omega); rw [this]; exact congrArg some HT.out
    have c1 : v.cell? ⟨mb, 1, none⟩ = some (.slice (some ⟨sb, 0, none⟩) st.size sc) := by have := bcell HM1.out 1 (by omega); rw [this]; exact congrArg some HS_.out
    have c2 : v.cell? ⟨mb, 2, none⟩ = some (.slice (some ⟨vb, 0, none⟩) st.size vc) := by have := bcell HM1.out 2 (by omega); rw [this]; exact congrArg some HV_.out
    have s0 : v.cell? ⟨sb, k, none⟩ = some (.int .i64 (st.S k)) := HM1.out.cell (r := .S) (e := 2) (sz := 1) (n := st.size) (cap := sc) (f := fun j => .int .i64 (st.S j)) (by simp only [memOf, HS_.out]) (by omega)
    have v0 : v.cell? ⟨vb, k, none⟩ = some (.int .i64 (st.V k)) := HM1.out.cell (r := .V) (e := 2) (sz := 1) (n := st.size) (cap := vc) (f := fun j => .int .i64 (st.V j)) (by simp only [memOf, HV_.out]) (by omega)
    have c6 : v.cell? ⟨tb, i * 9 + 6, none⟩ = some (.int .i64 (st.x i)) := tcell HM1.out HT.out hi 6 (by omega)
    have c7 : v.cell? ⟨tb, i * 9 + 7, none⟩ = some (.int .i64 (st.v i)) := tcell HM1.out HT.out hi 7 (by omega)
    have f1 : (st.S k == st.x i) = false := by simp [l1]
    clear l1
    go_wp2_with fail
    refine hK.out _ _ ?_
    clear hK K
    refine wp_cut fun K hK => ?_
    refine wp_cut fun K2 hK2 => ?_
    go_quiet (fail)
    refine hK2.out _ _ ?_
    clear hK2 K2
    have c3 : (v.drewN nq).cell? ⟨mb, 3, none⟩ = some (.slice (some ⟨tb, 0, none⟩) st.n tc) := c3
    have c7 : (v.drewN nq).cell? ⟨tb, i * 9 + 7, none⟩ = some (.int .i64 (st.v i)) := c7
    have HM2 := Lib.hid (show RMem B mb oV st (v.drewN nq) from ⟨V, HM1.out.drewN nq⟩)
    have HB2 := Lib.hid (Below.drewN HB1.out nq)
    clear HM1 HB1 c1 c2 s0 v0 c6 hl2
    generalize v.drewN nq = v2 at *
    go_wp2
    (refine hK.out _ _ ?_; clear hK K; go_wp2)
    go_ret3
    exact ⟨rfl, HM2.out, HB2.out⟩
end
end Go.Proofs.Yteainbnoemkfcaa
namespace Go.Proofs.Yteainbnoemkfcaa
open Go.RowKit Go.Turn
open Go.ConcN (upd upd_ne upd_same)
theorem Try.infoR64 : (Try.prog.info? 2).map (fun i => (i.zero, i.size, i.bytes)) = some (some (.int .i64 0), 1, 8) := by kernel_rfl
section
variable {B mb : Nat} {oV : Nat → Value} {st : RM} {V : Rl → Value}
theorem seen_row {i : Nat} (hi : i < st.n) (hpc : st.pc i ≠ 0) : memOf mb st V oV (.seen i) = some ⟨2, 1, V (.seen i), (st.seen i).length, fun j => .int .i64 ((st.seen i).getD j 0)⟩ := by simp [memOf, lsRow, hi, hpc]
theorem see_app {w w1 : World} {tb tc i : Nat} {x : Int} {v' : Value} (h : Mems B (memOf mb st V oV) w) (hT : V .T = .slice (some ⟨tb, 0, none⟩) st.n tc) (hi : i < st.n) (hpc : st.pc i ≠ 0)
    (hown : w1.ownsRow B 2 1 v' ((st.seen i).length + 1) (cellsN ((st.seen i).length * 1) (fun j => .int .i64 ((st.seen i).getD j 0)) ++ [.int .i64 x])) (hg : w.grownBy w1 (V (.seen i)).ownBlock) (hv : v'.ownBlock = (V (.seen i)).ownBlock ∨ v'.ownBlock = some w.heap.size) :
    (∃ u, w1.cell? ⟨tb, i * 9 + 8, none⟩ = some u) ∧ w1.frozen? ⟨tb, i * 9 + 8, none⟩ = false ∧ Mems B (memOf mb (st.see i x) (fun r => if r = .seen i then v' else V r) oV) (w1.setCell ⟨tb, i * 9 + 8, none⟩ v') := by
  have h1 : Mems B (fun r => if r = .seen i then some ⟨2, 1, v', (st.seen i).length + 1, fun j => .int .i64 ((st.seen i ++ [x]).getD j 0)⟩ else memOf mb st V oV r) w1 := by
    refine h.app (d' := ⟨2, 1, v', (st.seen i).length + 1, fun j => .int .i64 ((st.seen i ++ [x]).getD j 0)⟩) (seen_row hi hpc) (by simp) (fun r hr => by simp [hr]) hg ?_ hv
    unfold Row.At
    simp only
    have e : cellsN (((st.seen i).length + 1) * 1) (fun j => .int .i64 ((st.seen i ++ [x]).getD j 0)) = cellsN ((st.seen i).length * 1) (fun j => .int .i64 ((st.seen i).getD j 0)) ++ [.int .i64 x] := by
      rw [show ([.int .i64 x] : List Value) = cellsN 1 (fun j => .int .i64 x) from rfl, cellsN_app, show (st.seen i).length * 1 + 1 = ((st.seen i).length + 1) * 1 from by omega]
      refine cellsN_congr fun j hj => ?_
      by_cases hlt : j < (st.seen i).length * 1
      · have : j < (st.seen i).length := by omega
        simp only [hlt, if_true, List.getD_eq_getElem?_getD, List.getElem?_append_left this]
      · have : j = (st.seen i).length := by omega
        subst this
        simp
    rw [e]
    exact hown
  have eT : (fun r => if r = Rl.seen i then some (⟨2, 1, v', (st.seen i).length + 1, fun j => .int .i64 ((st.seen i ++ [x]).getD j 0)⟩ : Row) else memOf mb st V oV r) .T = some ⟨104, 9, .slice (some ⟨tb, 0, none⟩) st.n tc, st.n, recF 9 (thF st V oV)⟩ := by simp [memOf, hT]
  refine ⟨⟨_, h1.cell eT (recF_lt hi (by omega))⟩, h1.frozen eT _, ?_⟩
  refine h1.set (f' := recF 9 (thF (st.see i x) (fun r => if r = .seen i then v' else V r) oV)) eT _ v' ?_ (fun j hj => ?_) (fun r hr => ?_)
  · simp [memOf, hT, RM.see]
  · rw [← recF_upd (by omega) _ j]
    unfold recF upd2
    have hk : j % 9 < 9 := Nat.mod_lt _ (by omega)
    generalize j % 9 = k' at hk
    generalize j / 9 = i'
    by_cases e : i' = i
    · subst e; rcases k' with _ | _ | _ | _ | _ | _ | _ | _ | k' <;> simp [thF, RM.see]
      intro hh; omega
    · rcases k' with _ | _ | _ | _ | _ | _ | _ | _ | k' <;> simp [thF, e, RM.see]
  · cases r with
    | T => exact absurd rfl hr
    | seen l =>
      by_cases e : l = i
      · subst e; simp [memOf, RM.see, hi, hpc, lsRow, upd_same]
      · simp [memOf, e, upd_ne _ _ e, RM.see]
    | box => simp only [memOf]; congr 2
    | _ => rfl
set_option maxHeartbeats 4000000 in
set_option maxRecDepth 100000 in
theorem refgath_no (w : World) (hB : B ≤ w.heap.size) (h : Mems B (memOf mb st V oV) w) {i : Nat} (hi : i < st.n) (hn : st.n ≤ 64) (hat : st.at_ i < 65536) (hans : (st.ans i).length < 65536) (hpc : st.pc i ≠ 0) (hs : st.size ≤ 65536) (o : OpI) (x e : Int) (he : e ≠ 0) (hsl : (st.seen i).length < 65536) :
    Calls Try.prog 60 #[.pointer (some ⟨mb, 0, none⟩), .int .i64 i, o.val, .int .i64 x, .int .i64 e] w fun r w' => r = .returned (.tuple #[]) ∧ RMem B mb oV (st.gathered i o x e) w' ∧ Below B w w' := by
  have f0 : (e != 0) = true := by simpa using he
  have f1 : (e == 0) = false := by simpa using he
  obtain ⟨kd, oa, ob, oc⟩ := o
  unfold OpI.val
  dsimp only
  obtain ⟨tb, tc, hT, htc, _⟩ := tb_of h (by omega)
  have HM := Lib.hid h
  have HT := Lib.hid hT
  clear h hT
  obtain ⟨rA, rc, hrw⟩ : ∃ A c, V (.seen i) = .slice A (st.seen i).length c := own_slice (HM.out.at_ (seen_row hi hpc))
  have HRW := Lib.hid hrw
  clear hrw
  go_enter Try.func60, Try.ntmps60
  refine wp_cut fun K hK => ?_
  go_wp2
  refine hK.out _ _ ?_
  clear hK K
  have HM1 := Lib.hid (HM.out.alloc (.cells #[.int .i64 kd, .int .i64 oa, .int .i64 ob, .int .i64 oc] 49))
  have hb5 := Blk.new w 49 #[.int .i64 kd, .int .i64 oa, .int .i64 ob, .int .i64 oc]
  have bw : Below B w (w.alloc (.cells #[.int .i64 kd, .int .i64 oa, .int .i64 ob, .int .i64 oc] 49)) := (Below.refl _ _).alloc hB _
  have n5 : ∀ r d, memOf mb st V oV r = some d → d.v.ownBlock ≠ some w.heap.size := fun r d hr hz => by have := (HM.out.lt hr hz).2; omega
  have HBV := Lib.hid bw
  have N5 := Lib.hid n5
  clear bw n5 HM
  generalize w.alloc (.cells #[.int .i64 kd, .int .i64 oa, .int .i64 ob, .int .i64 oc] 49) = v at *
  obtain ⟨b5, hb⟩ : ∃ b5, b5 = w.heap.size := ⟨_, rfl⟩
  rw [← hb] at hb5 N5 ⊢
  have HBB := Lib.hid hb
  clear hb
  have HB5 := Lib.hid hb5
  have hBv : B ≤ v.heap.size := by have := HBV.out.size; omega
  clear hb5
  have c3 : v.cell? ⟨mb, 3, none⟩ = some (.slice (some ⟨tb, 0, none⟩) st.n tc) := by have := bcell HM1.out 3 (by omega); rw [this]; exact congrArg some HT.out
  have c8 : v.cell? ⟨tb, i * 9 + 8, none⟩ = some (.slice rA (st.seen i).length rc) := by have := tcell HM1.out HT.out hi 8 (by omega); rw [this]; exact congrArg some HRW.out
  have c0 : v.cell? ⟨mb, 0, none⟩ = some (.int .i64 st.size) := bcell HM1.out 0 (by omega)
  have o2 := HB5.out.cell 2
  simp at o2
  have HE := Lib.hid he
  by_cases hl : st.seen i = []
  · have el : (st.seen i).length = 0 := by simp [hl]
    have f2 : (((st.seen i).length : Int) == 0) = true := by simp [el]
    rw [show st.gathered i ⟨kd, oa, ob, oc⟩ x e = st.end_ i ⟨false, e, []⟩ by simp [RM.gathered, he, hl]]
    clear he hl el
    go_wp2_with (go_at_call 58; refine (refend_ok v hBv HM1.out hi hn hat hans ⟨false, e, []⟩ (.slice none 0 0) ⟨none, 0, rfl⟩ (.inl ⟨rfl, rfl⟩)).mono ?_; rintro e w' ⟨rfl, hm3, hb3⟩)
    refine bodyPost_ret (results_none rfl _ _ _) rfl ?_
    exact ⟨rfl, hm3, HBV.out.trans hb3⟩
  · have el : (st.seen i).length ≠ 0 := by simpa using hl
    have f2 : (((st.seen i).length : Int) == 0) = false := by simpa using hl
    rw [show st.gathered i ⟨kd, oa, ob, oc⟩ x e = st.end_ i ⟨true, 0, st.seen i⟩ by simp [RM.gathered, he, hl]]
    clear he hl el
    go_wp2_with (go_at_call 58; refine (refend_ok v hBv HM1.out hi hn hat hans ⟨true, 0, st.seen i⟩ (.slice rA (st.seen i).length rc) ⟨rA, rc, rfl⟩ (.inr ⟨hpc, rfl, HRW.out.symm⟩)).mono ?_; rintro e w' ⟨rfl, hm3, hb3⟩)
    refine bodyPost_ret (results_none rfl _ _ _) rfl ?_
    exact ⟨rfl, hm3, HBV.out.trans hb3⟩
set_option maxHeartbeats 4000000 in
set_option maxRecDepth 100000 in
theorem refgath_yes (w : World) (hB : B ≤ w.heap.size) (h : Mems B (memOf mb st V oV) w) {i : Nat} (hi : i < st.n) (hn : st.n ≤ 64) (hat : st.at_ i < 65536) (hans : (st.ans i).length < 65536) (hpc : st.pc i ≠ 0) (h0 : 0 < st.size) (hs : st.size ≤ 65536) (g : GoodI (st.q i)) (o : OpI) (x : Int) (hsl : (st.seen i).length < 65536) :
    Calls Try.prog 60 #[.pointer (some ⟨mb, 0, none⟩), .int .i64 i, o.val, .int .i64 x, .int .i64 0] w fun r w' => r = .returned (.tuple #[]) ∧ RMem B mb oV (st.gathered i o x 0) w' ∧ Below B w w' := by
  obtain ⟨kd, oa, ob, oc⟩ := o
  unfold OpI.val
  dsimp only
  obtain ⟨tb, tc, hT, htc, _⟩ := tb_of h (by omega)
  have HM := Lib.hid h
  have HT := Lib.hid hT
  clear h hT
  obtain ⟨rA, rc, hrw⟩ : ∃ A c, V (.seen i) = .slice A (st.seen i).length c := own_slice (HM.out.at_ (seen_row hi hpc))
  have HRW := Lib.hid hrw
  clear hrw
  go_enter Try.func60, Try.ntmps60
  refine wp_cut fun K hK => ?_
  go_wp2
  refine hK.out _ _ ?_
  clear hK K
  have HM1 := Lib.hid (HM.out.alloc (.cells #[.int .i64 kd, .int .i64 oa, .int .i64 ob, .int .i64 oc] 49))
  have hb5 := Blk.new w 49 #[.int .i64 kd, .int .i64 oa, .int .i64 ob, .int .i64 oc]
  have bw : Below B w (w.alloc (.cells #[.int .i64 kd, .int .i64 oa, .int .i64 ob, .int .i64 oc] 49)) := (Below.refl _ _).alloc hB _
  have n5 : ∀ r d, memOf mb st V oV r = some d → d.v.ownBlock ≠ some w.heap.size := fun r d hr hz => by have := (HM.out.lt hr hz).2; omega
  have HBV := Lib.hid bw
  have N5 := Lib.hid n5
  clear bw n5 HM
  generalize w.alloc (.cells #[.int .i64 kd, .int .i64 oa, .int .i64 ob, .int .i64 oc] 49) = v at *
  obtain ⟨b5, hb⟩ : ∃ b5, b5 = w.heap.size := ⟨_, rfl⟩
  rw [← hb] at hb5 N5 ⊢
  have HBB := Lib.hid hb
  clear hb
  have HB5 := Lib.hid hb5
  have hBv : B ≤ v.heap.size := by have := HBV.out.size; omega
  clear hb5
  have c3 : v.cell? ⟨mb, 3, none⟩ = some (.slice (some ⟨tb, 0, none⟩) st.n tc) := by have := bcell HM1.out 3 (by omega); rw [this]; exact congrArg some HT.out
  have c8 : v.cell? ⟨tb, i * 9 + 8, none⟩ = some (.slice rA (st.seen i).length rc) := by have := tcell HM1.out HT.out hi 8 (by omega); rw [this]; exact congrArg some HRW.out
  have c0 : v.cell? ⟨mb, 0, none⟩ = some (.int .i64 st.size) := bcell HM1.out 0 (by omega)
  have o2 := HB5.out.cell 2
  simp at o2
  have z8 := tfrozen HM1.out HT.out (i * 9 + 8)
  obtain ⟨i0, hi0, hz0, hz1, hz2⟩ := info_parts Try.infoR64
  have HQ1 := Lib.hid (show v.ownsRow B 2 1 (.slice rA (st.seen i).length rc) (st.seen i).length (cellsN ((st.seen i).length * 1) (fun j => .int .i64 ((st.seen i).getD j 0))) from by rw [← HRW.out]; exact HM1.out.at_ (seen_row hi hpc))
  have lmb := lt_of_cell c3
  have ltb := lt_of_cell c8
  have l5 := HB5.out.lt
  have own_ne : ∀ b r d, memOf mb st V oV r = some d → d.v.ownBlock = some b → r ≠ .seen i → (Value.slice rA (st.seen i).length rc).ownBlock ≠ some b := fun b r d hr hb hne hz => by
    obtain ⟨lab, k⟩ := HM1.out.ex
    have l1 := (k r d hr).2 b hb
    have l2 := (k (.seen i) _ (seen_row hi hpc)).2 b (by rw [HRW.out]; exact hz)
    rw [l1] at l2
    cases l2
    exact hne rfl
  have nmb := own_ne mb .box _ rfl rfl (by simp)
  have ntb := own_ne tb .T _ rfl (by rw [HT.out]; rfl) (by simp)
  have nb5 : (Value.slice rA (st.seen i).length rc).ownBlock ≠ some b5 := fun hz => N5.out (.seen i) _ (seen_row hi hpc) (by rw [HRW.out]; exact hz)
  have nt5 : tb ≠ b5 := fun hz => N5.out .T _ rfl (by rw [HT.out, hz]; rfl)
  clear own_ne
  go_wp2_with fail
  refine wp_region_last (S := fun w' => w'.cell? ⟨mb, 3, none⟩ = some (.slice (some ⟨tb, 0, none⟩) st.n tc) ∧ w'.cell? ⟨tb, i * 9 + 8, none⟩ = some (.slice rA (st.seen i).length rc) ∧ True ∧ True ∧ True) 18 (by kernel_rfl) (by kernel_rfl) (by kernel_rfl) ?_
  simp only [idle, List.modify_toArray, List.modify_succ_cons, List.modify_zero_cons, List.size_toArray, List.length_cons, List.length_nil, Nat.reduceAdd]
  have HS : v.drew.cell? ⟨mb, 3, none⟩ = some (.slice (some ⟨tb, 0, none⟩) st.n tc) ∧ v.drew.cell? ⟨tb, i * 9 + 8, none⟩ = some (.slice rA (st.seen i).length rc) ∧ True ∧ True ∧ True := ⟨c3, c8, trivial, trivial, trivial⟩
  refine wpAnyH_read (i := 0) (some 32) rfl rfl (by kernel_rfl) (by kernel_rfl) (by kernel_rfl) (fun _ _ _ h => h) rfl HS ?_
  apply Exists.intro
  refine ⟨fun wq hw => ?_, ?_⟩
  · obtain ⟨hw1, hw2, hw3, hw4, hw5⟩ := hw
    go_simp
    rfl
  simp only [Act.put, List.setIfInBounds_toArray, List.set_cons_zero, List.set_cons_succ]
  refine wpAnyH_read (i := 1) (some 33) rfl rfl (by kernel_rfl) (by kernel_rfl) (by kernel_rfl) (fun _ _ _ h => h) rfl HS ?_
  apply Exists.intro
  refine ⟨fun wq hw => ?_, ?_⟩
  · obtain ⟨hw1, hw2, hw3, hw4, hw5⟩ := hw
    go_simp
    rfl
  simp only [Act.put, List.setIfInBounds_toArray, List.set_cons_zero, List.set_cons_succ]
  refine wpAnyH_read (i := 2) (some 34) rfl rfl (by kernel_rfl) (by kernel_rfl) (by kernel_rfl) (fun _ _ _ h => h) rfl HS ?_
  apply Exists.intro
  refine ⟨fun wq hw => ?_, ?_⟩
  · obtain ⟨hw1, hw2, hw3, hw4, hw5⟩ := hw
    go_simp
    rfl
  simp only [Act.put, List.setIfInBounds_toArray, List.set_cons_zero, List.set_cons_succ]
  refine wpAnyH_read (i := 3) (some 35) rfl rfl (by kernel_rfl) (by kernel_rfl) (by kernel_rfl) (fun _ _ _ h => h) rfl HS ?_
  apply Exists.intro
  refine ⟨fun wq hw => ?_, ?_⟩
  · obtain ⟨hw1, hw2, hw3, hw4, hw5⟩ := hw
    go_simp
    rfl
  simp only [Act.put, List.setIfInBounds_toArray, List.set_cons_zero, List.set_cons_succ]
  refine wpAnyH_read (i := 4) (some 36) rfl rfl (by kernel_rfl) (by kernel_rfl) (by kernel_rfl) (fun _ _ _ h => h) rfl HS ?_
  apply Exists.intro
  refine ⟨fun wq hw => ?_, ?_⟩
  · obtain ⟨hw1, hw2, hw3, hw4, hw5⟩ := hw
    go_simp
    rfl
  simp only [Act.put, List.setIfInBounds_toArray, List.set_cons_zero, List.set_cons_succ]
  refine wpAnyH_read (i := 5) (some 37) rfl rfl (by kernel_rfl) (by kernel_rfl) (by kernel_rfl) (fun _ _ _ h => h) rfl HS ?_
  apply Exists.intro
  refine ⟨fun wq hw => ?_, ?_⟩
  · obtain ⟨hw1, hw2, hw3, hw4, hw5⟩ := hw
    go_simp
    rfl
  simp only [Act.put, List.setIfInBounds_toArray, List.set_cons_zero, List.set_cons_succ]
  refine wpAnyH_read (i := 6) (some 38) rfl rfl (by kernel_rfl) (by kernel_rfl) (by kernel_rfl) (fun _ _ _ h => h) rfl HS ?_
  apply Exists.intro
  refine ⟨fun wq hw => ?_, ?_⟩
  · obtain ⟨hw1, hw2, hw3, hw4, hw5⟩ := hw
    go_simp
    rfl
  simp only [Act.put, List.setIfInBounds_toArray, List.set_cons_zero, List.set_cons_succ]
  refine wpAnyH_read (i := 7) (some 39) rfl rfl (by kernel_rfl) (by kernel_rfl) (by kernel_rfl) (fun _ _ _ h => h) rfl HS ?_
  apply Exists.intro
  refine ⟨fun wq hw => ?_, ?_⟩
  · obtain ⟨hw1, hw2, hw3, hw4, hw5⟩ := hw
    go_simp
    rfl
  simp only [Act.put, List.setIfInBounds_toArray, List.set_cons_zero, List.set_cons_succ]
  refine wpAnyH_read (i := 8) (some 40) rfl rfl (by kernel_rfl) (by kernel_rfl) (by kernel_rfl) (fun _ _ _ h => h) rfl HS ?_
  apply Exists.intro
  refine ⟨fun wq hw => ?_, ?_⟩
  · obtain ⟨hw1, hw2, hw3, hw4, hw5⟩ := hw
    go_simp
    rfl
  simp only [Act.put, List.setIfInBounds_toArray, List.set_cons_zero, List.set_cons_succ]
  refine wpAnyH_read (i := 9) (some 41) rfl rfl (by kernel_rfl) (by kernel_rfl) (by kernel_rfl) (fun _ _ _ h => h) rfl HS ?_
  apply Exists.intro
  refine ⟨fun wq hw => ?_, ?_⟩
  · obtain ⟨hw1, hw2, hw3, hw4, hw5⟩ := hw
    go_simp
    rfl
  simp only [Act.put, List.setIfInBounds_toArray, List.set_cons_zero, List.set_cons_succ]
  refine wpAnyH_read (i := 10) (some 42) rfl rfl (by kernel_rfl) (by kernel_rfl) (by kernel_rfl) (fun _ _ _ h => h) rfl HS ?_
  apply Exists.intro
  refine ⟨fun wq hw => ?_, ?_⟩
  · obtain ⟨hw1, hw2, hw3, hw4, hw5⟩ := hw
    go_simp
    rfl
  simp only [Act.put, List.setIfInBounds_toArray, List.set_cons_zero, List.set_cons_succ]
  refine wpAnyH_read (i := 11) (some 43) rfl rfl (by kernel_rfl) (by kernel_rfl) (by kernel_rfl) (fun _ _ _ h => h) rfl HS ?_
  apply Exists.intro
  refine ⟨fun wq hw => ?_, ?_⟩
  · obtain ⟨hw1, hw2, hw3, hw4, hw5⟩ := hw
    go_simp
    rfl
  simp only [Act.put, List.setIfInBounds_toArray, List.set_cons_zero, List.set_cons_succ]
  refine wpAnyH_read (i := 12) (some 44) rfl rfl (by kernel_rfl) (by kernel_rfl) (by kernel_rfl) (fun _ _ _ h => h) rfl HS ?_
  apply Exists.intro
  refine ⟨fun wq hw => ?_, ?_⟩
  · obtain ⟨hw1, hw2, hw3, hw4, hw5⟩ := hw
    go_simp
    rfl
  simp only [Act.put, List.setIfInBounds_toArray, List.set_cons_zero, List.set_cons_succ]
  refine wpAnyH_read (i := 13) (some 45) rfl rfl (by kernel_rfl) (by kernel_rfl) (by kernel_rfl) (fun _ _ _ h => h) rfl HS ?_
  apply Exists.intro
  refine ⟨fun wq hw => ?_, ?_⟩
  · obtain ⟨hw1, hw2, hw3, hw4, hw5⟩ := hw
    go_simp
    rfl
  simp only [Act.put, List.setIfInBounds_toArray, List.set_cons_zero, List.set_cons_succ]
  clear HS
  refine wpAnyH_one (i := 14) (by kernel_rfl) rfl rfl fun K' hK' => ?_
  go_simp
  refine hK' _ _ ⟨(one_cell' v _ _ 3 lmb).trans c3, (one_cell' v _ _ _ ltb).trans c8, trivial, trivial, trivial⟩ ?_
  clear hK' K'
  refine wpAnyH_one (i := 15) (by kernel_rfl) rfl rfl fun K' hK' => ?_
  refine wp_append_lies _ _ _ _ rfl B 2 i0 (.int .i64 0) 1 8 Try.underlying22 hi0 hz0 hz1 hz2 rfl (by omega) (.slice rA (st.seen i).length rc) (st.seen i).length _ rfl (HQ1.out.alloc _).drew ⟨v.heap.size, 0, none⟩ 1 1 [.int .i64 x] rfl rfl (World.news_of_block (cs := #[.int .i64 x]) (t := 2) (fr := (0, 0)) (news_one v _ _)) (by simp [Value.oneCell']) (by omega) (by unfold maxLen; omega) (by omega) (by simp; omega) (v.heap.size + 1) (one_len _ _) fun gg cap' w1 hown1 hgrow hgat hgl => ?_
  have ln1 := one_len v (Obj.cells #[.int .i64 x] 2)
  have key : ∀ b, b < v.heap.size → (Value.slice rA (st.seen i).length rc).ownBlock ≠ some b → w1.heap[b]? = v.heap[b]? := fun b hb hne => (hgrow.block b (by rw [ln1]; omega) (fun z => hne z.symm)).trans (Below.heap_alloc _ _ _ hb)
  have k1 := (World.cell?_of_block (w := v) (w' := w1) (a := ⟨mb, 3, none⟩) (key _ lmb nmb)).trans c3
  have k2 := (World.cell?_of_block (w := v) (w' := w1) (a := ⟨tb, i * 9 + 8, none⟩) (key _ ltb ntb)).trans c8
  refine hK' _ _ ⟨k1, k2, trivial, trivial, trivial⟩ ?_
  clear hK' K'
  have HS : w1.cell? ⟨mb, 3, none⟩ = some (.slice (some ⟨tb, 0, none⟩) st.n tc) ∧ w1.cell? ⟨tb, i * 9 + 8, none⟩ = some (.slice rA (st.seen i).length rc) ∧ True ∧ True ∧ True := ⟨k1, k2, trivial, trivial, trivial⟩
  simp only [Act.put, List.setIfInBounds_toArray, List.set_cons_zero, List.set_cons_succ, List.getElem_toArray, List.getElem_cons_zero, List.getElem_cons_succ]
  refine wpAnyH_read (i := 16) (some 48) rfl rfl (by kernel_rfl) (by kernel_rfl) (by kernel_rfl) (fun _ _ _ h => h) rfl HS ?_
  apply Exists.intro
  refine ⟨fun wq hw => ?_, ?_⟩
  · obtain ⟨hw1, hw2, hw3, hw4, hw5⟩ := hw
    go_simp
    rfl
  simp only [Act.put, List.setIfInBounds_toArray, List.set_cons_zero, List.set_cons_succ]
  refine wpAnyH_read (i := 17) (some 49) rfl rfl (by kernel_rfl) (by kernel_rfl) (by kernel_rfl) (fun _ _ _ h => h) rfl HS ?_
  apply Exists.intro
  refine ⟨fun wq hw => ?_, ?_⟩
  · obtain ⟨hw1, hw2, hw3, hw4, hw5⟩ := hw
    go_simp
    rfl
  simp only [Act.put, List.setIfInBounds_toArray, List.set_cons_zero, List.set_cons_succ]
  refine wpAnyH_read (i := 18) none rfl rfl (by kernel_rfl) (by kernel_rfl) (by kernel_rfl) (fun _ _ _ h => h) rfl HS ?_
  apply Exists.intro
  refine ⟨fun wq hw => ?_, ?_⟩
  · go_simp
    rfl
  simp only [Act.put]
  clear HS
  refine wpAnyH_done (by kernel_rfl) ?_ _
  simp only [Exit.then]
  refine wpOps_list (m := 18) rfl ?_
  obtain ⟨-, z8, hm2⟩ := see_app (w := (v.alloc (Obj.cells #[.int .i64 x] 2)).drew) (w1 := w1) (v' := .slice (some ⟨gg, 0, none⟩) ((st.seen i).length + 1) cap') ((HM1.out.alloc _).same fun _ _ => rfl) HT.out hi hpc hown1 (by rw [HRW.out]; exact hgrow) (by
    rw [HRW.out]
    rcases hgat with z | z
    · exact .inl z.symm
    · right; rw [ln1]; simp [Value.ownBlock, z])
  have hb5 : Blk w1 b5 _ _ := (key _ l5 nb5).trans HB5.out
  have hb5 := hb5.far (p := ⟨tb, i * 9 + 8, none⟩) (Ne.symm nt5) (.slice (some ⟨gg, 0, none⟩) ((st.seen i).length + 1) cap')
  have bw1 : Below B w w1 := (Below.drewN (HBV.out.alloc hBv _) 1).grown hgrow (by show B ≤ (v.alloc (Obj.cells #[.int .i64 x] 2)).heap.size; simp; omega) (fun k hk => (HQ1.out.lt k hk).1)
  have bw2 := bw1.setCell (p := ⟨tb, i * 9 + 8, none⟩) (HM1.out.lt (r := .T) (b := tb) rfl (by rw [HT.out]; rfl)).1 (.slice (some ⟨gg, 0, none⟩) ((st.seen i).length + 1) cap')
  have HM2 := Lib.hid hm2
  have HBW := Lib.hid bw2
  have HB6 := Lib.hid hb5
  clear hgrow hown1 hgat key k1 c3 c8 c0 o2 hm2 bw1 bw2 hb5 HQ1 HB5
  have hT1 : (fun r => if r = Rl.seen i then Value.slice (some ⟨gg, 0, none⟩) ((st.seen i).length + 1) cap' else V r) .T = .slice (some ⟨tb, 0, none⟩) (st.see i x).n tc := by
    show (if Rl.T = Rl.seen i then _ else V .T) = _
    rw [if_neg (by simp)]
    exact HT.out
  have c3 : (w1.setCell ⟨tb, i * 9 + 8, none⟩ (.slice (some ⟨gg, 0, none⟩) ((st.seen i).length + 1) cap')).cell? ⟨mb, 3, none⟩ = some (.slice (some ⟨tb, 0, none⟩) st.n tc) := by have := bcell HM2.out 3 (by omega); rw [this]; simp [boxF, HT.out]
  have c8 : (w1.setCell ⟨tb, i * 9 + 8, none⟩ (.slice (some ⟨gg, 0, none⟩) ((st.seen i).length + 1) cap')).cell? ⟨tb, i * 9 + 8, none⟩ = some (.slice (some ⟨gg, 0, none⟩) ((st.seen i).length + 1) cap') := by have := tcell HM2.out hT1 hi 8 (by omega); rw [this]; simp [thF]
  have c5 : (w1.setCell ⟨tb, i * 9 + 8, none⟩ (.slice (some ⟨gg, 0, none⟩) ((st.seen i).length + 1) cap')).cell? ⟨tb, i * 9 + 5, none⟩ = some (.int .i64 (st.q i)) := by have := tcell HM2.out hT1 hi 5 (by omega); rw [this]; simp [thF, RM.see]
  have c0 : (w1.setCell ⟨tb, i * 9 + 8, none⟩ (.slice (some ⟨gg, 0, none⟩) ((st.seen i).length + 1) cap')).cell? ⟨mb, 0, none⟩ = some (.int .i64 st.size) := bcell HM2.out 0 (by omega)
  have o2 := HB6.out.cell 2
  simp at o2
  have HT1 := Lib.hid hT1
  have HBS := Lib.hid (show B ≤ (w1.setCell ⟨tb, i * 9 + 8, none⟩ (.slice (some ⟨gg, 0, none⟩) ((st.seen i).length + 1) cap')).heap.size by have := HBW.out.size; omega)
  clear hT1
  by_cases e1 : (((st.seen i).length + 1 : Nat) : Int) = ob
  · have f1 : ((((st.seen i).length : Int) + 1) == ob) = true := by simpa using e1
    have EG := Lib.hid (show st.gathered i ⟨kd, oa, ob, oc⟩ x 0 = (st.see i x).end_ i ⟨true, 0, st.seen i ++ [x]⟩ by simp [RM.gathered, RM.see, upd_same, e1])
    clear e1
    have HMS := HM2
    go_wp2_with (first
      | (go_at_call 17; refine (refgood_ok _ _).mono ?_; rintro e w' ⟨rfl, rfl⟩; rw [HG.out])
      | (go_at_call 58; refine (refend_ok _ HBS.out HMS.out hi hn hat hans ⟨true, 0, st.seen i ++ [x]⟩ (.slice (some ⟨gg, 0, none⟩) ((st.seen i).length + 1) cap') ⟨some ⟨gg, 0, none⟩, cap', by simp⟩ (.inr ⟨by simp [RM.see, upd_same, hpc], by simp [RM.see, upd_same], by simp⟩)).mono ?_; rintro e w' ⟨rfl, hm3, hb3⟩))
    (refine bodyPost_ret (results_none rfl _ _ _) rfl ?_)
    exact ⟨rfl, by rw [EG.out]; exact hm3, HBW.out.trans hb3⟩
  have f1 : ((((st.seen i).length : Int) + 1) == ob) = false := by simpa using e1
  by_cases e2 : (st.seen i).length + 1 = st.size
  · have f2 : ((((st.seen i).length : Int) + 1) == (st.size : Int)) = true := by simpa using (by omega)
    have EG := Lib.hid (show st.gathered i ⟨kd, oa, ob, oc⟩ x 0 = (st.see i x).end_ i ⟨true, 0, st.seen i ++ [x]⟩ by simp [RM.gathered, RM.see, upd_same, e2])
    clear e1 e2
    have HMS := HM2
    go_wp2_with (first
      | (go_at_call 17; refine (refgood_ok _ _).mono ?_; rintro e w' ⟨rfl, rfl⟩; rw [HG.out])
      | (go_at_call 58; refine (refend_ok _ HBS.out HMS.out hi hn hat hans ⟨true, 0, st.seen i ++ [x]⟩ (.slice (some ⟨gg, 0, none⟩) ((st.seen i).length + 1) cap') ⟨some ⟨gg, 0, none⟩, cap', by simp⟩ (.inr ⟨by simp [RM.see, upd_same, hpc], by simp [RM.see, upd_same], by simp⟩)).mono ?_; rintro e w' ⟨rfl, hm3, hb3⟩))
    (refine bodyPost_ret (results_none rfl _ _ _) rfl ?_)
    exact ⟨rfl, by rw [EG.out]; exact hm3, HBW.out.trans hb3⟩
  have f2 : ((((st.seen i).length : Int) + 1) == (st.size : Int)) = false := by simp; omega
  obtain ⟨g0, g1⟩ := g
  have eg : st.gathered i ⟨kd, oa, ob, oc⟩ x 0 = if GoodI (st.q i + 1) then ({ st.see i x with q := upd st.q i (st.q i + 1), pc := upd st.pc i 1 } : RM) else ({ st.see i x with q := upd st.q i (st.q i + 1), pc := upd st.pc i 1 } : RM).end_ i ⟨true, 0, st.seen i ++ [x]⟩ := by
    have : ¬ (((st.seen i).length : Int) + 1 = ob) := by simpa using e1
    simp [RM.gathered, RM.see, upd_same, this, e2]
  have EG := Lib.hid eg
  clear eg e1 e2
  go_wp2_with fail
  clear z8 k2 c8 c0 o2 f1 f2
  have hm3 := HM2.out
  have hbw := HBW.out
  clear HM2 HBW HBS HB6
  generalize World.setCell _ _ _ = w2 at *
  have HM2 := Lib.hid hm3
  have HBW := Lib.hid hbw
  clear hm3 hbw
  refine wp_region_last (S := fun w' => w'.cell? ⟨mb, 3, none⟩ = some (.slice (some ⟨tb, 0, none⟩) st.n tc) ∧ w'.cell? ⟨tb, i * 9 + 5, none⟩ = some (.int .i64 (st.q i)) ∧ True ∧ True ∧ True) 16 (by kernel_rfl) (by kernel_rfl) (by kernel_rfl) ?_
  simp only [idle, List.modify_toArray, List.modify_succ_cons, List.modify_zero_cons, List.size_toArray, List.length_cons, List.length_nil, Nat.reduceAdd]
  have HS : w2.drew.cell? ⟨mb, 3, none⟩ = some (.slice (some ⟨tb, 0, none⟩) st.n tc) ∧ w2.drew.cell? ⟨tb, i * 9 + 5, none⟩ = some (.int .i64 (st.q i)) ∧ True ∧ True ∧ True := ⟨c3, c5, trivial, trivial, trivial⟩
  refine wpAnyH_read (i := 0) (some 87) rfl rfl (by kernel_rfl) (by kernel_rfl) (by kernel_rfl) (fun _ _ _ h => h) rfl HS ?_
  apply Exists.intro
  refine ⟨fun wq hw => ?_, ?_⟩
  · obtain ⟨hw1, hw2, hw3, hw4, hw5⟩ := hw
    go_simp
    rfl
  simp only [Act.put, List.setIfInBounds_toArray, List.set_cons_zero, List.set_cons_succ]
  refine wpAnyH_read (i := 1) (some 88) rfl rfl (by kernel_rfl) (by kernel_rfl) (by kernel_rfl) (fun _ _ _ h => h) rfl HS ?_
  apply Exists.intro
  refine ⟨fun wq hw => ?_, ?_⟩
  · obtain ⟨hw1, hw2, hw3, hw4, hw5⟩ := hw
    go_simp
    rfl
  simp only [Act.put, List.setIfInBounds_toArray, List.set_cons_zero, List.set_cons_succ]
  refine wpAnyH_read (i := 2) (some 89) rfl rfl (by kernel_rfl) (by kernel_rfl) (by kernel_rfl) (fun _ _ _ h => h) rfl HS ?_
  apply Exists.intro
  refine ⟨fun wq hw => ?_, ?_⟩
  · obtain ⟨hw1, hw2, hw3, hw4, hw5⟩ := hw
    go_simp
    rfl
  simp only [Act.put, List.setIfInBounds_toArray, List.set_cons_zero, List.set_cons_succ]
  refine wpAnyH_read (i := 3) (some 90) rfl rfl (by kernel_rfl) (by kernel_rfl) (by kernel_rfl) (fun _ _ _ h => h) rfl HS ?_
  apply Exists.intro
  refine ⟨fun wq hw => ?_, ?_⟩
  · obtain ⟨hw1, hw2, hw3, hw4, hw5⟩ := hw
    go_simp
    rfl
  simp only [Act.put, List.setIfInBounds_toArray, List.set_cons_zero, List.set_cons_succ]
  refine wpAnyH_read (i := 4) (some 91) rfl rfl (by kernel_rfl) (by kernel_rfl) (by kernel_rfl) (fun _ _ _ h => h) rfl HS ?_
  apply Exists.intro
  refine ⟨fun wq hw => ?_, ?_⟩
  · obtain ⟨hw1, hw2, hw3, hw4, hw5⟩ := hw
    go_simp
    rfl
  simp only [Act.put, List.setIfInBounds_toArray, List.set_cons_zero, List.set_cons_succ]
  refine wpAnyH_read (i := 5) (some 92) rfl rfl (by kernel_rfl) (by kernel_rfl) (by kernel_rfl) (fun _ _ _ h => h) rfl HS ?_
  apply Exists.intro
  refine ⟨fun wq hw => ?_, ?_⟩
  · obtain ⟨hw1, hw2, hw3, hw4, hw5⟩ := hw
    go_simp
    rfl
  simp only [Act.put, List.setIfInBounds_toArray, List.set_cons_zero, List.set_cons_succ]
  refine wpAnyH_read (i := 6) (some 93) rfl rfl (by kernel_rfl) (by kernel_rfl) (by kernel_rfl) (fun _ _ _ h => h) rfl HS ?_
  apply Exists.intro
  refine ⟨fun wq hw => ?_, ?_⟩
  · obtain ⟨hw1, hw2, hw3, hw4, hw5⟩ := hw
    go_simp
    rfl
  simp only [Act.put, List.setIfInBounds_toArray, List.set_cons_zero, List.set_cons_succ]
  refine wpAnyH_read (i := 7) (some 94) rfl rfl (by kernel_rfl) (by kernel_rfl) (by kernel_rfl) (fun _ _ _ h => h) rfl HS ?_
  apply Exists.intro
  refine ⟨fun wq hw => ?_, ?_⟩
  · obtain ⟨hw1, hw2, hw3, hw4, hw5⟩ := hw
    go_simp
    rfl
  simp only [Act.put, List.setIfInBounds_toArray, List.set_cons_zero, List.set_cons_succ]
  refine wpAnyH_read (i := 8) (some 95) rfl rfl (by kernel_rfl) (by kernel_rfl) (by kernel_rfl) (fun _ _ _ h => h) rfl HS ?_
  apply Exists.intro
  refine ⟨fun wq hw => ?_, ?_⟩
  · obtain ⟨hw1, hw2, hw3, hw4, hw5⟩ := hw
    go_simp
    rfl
  simp only [Act.put, List.setIfInBounds_toArray, List.set_cons_zero, List.set_cons_succ]
  refine wpAnyH_read (i := 9) (some 96) rfl rfl (by kernel_rfl) (by kernel_rfl) (by kernel_rfl) (fun _ _ _ h => h) rfl HS ?_
  apply Exists.intro
  refine ⟨fun wq hw => ?_, ?_⟩
  · obtain ⟨hw1, hw2, hw3, hw4, hw5⟩ := hw
    go_simp
    rfl
  simp only [Act.put, List.setIfInBounds_toArray, List.set_cons_zero, List.set_cons_succ]
  refine wpAnyH_read (i := 10) (some 97) rfl rfl (by kernel_rfl) (by kernel_rfl) (by kernel_rfl) (fun _ _ _ h => h) rfl HS ?_
  apply Exists.intro
  refine ⟨fun wq hw => ?_, ?_⟩
  · obtain ⟨hw1, hw2, hw3, hw4, hw5⟩ := hw
    go_simp
    rfl
  simp only [Act.put, List.setIfInBounds_toArray, List.set_cons_zero, List.set_cons_succ]
  refine wpAnyH_read (i := 11) (some 98) rfl rfl (by kernel_rfl) (by kernel_rfl) (by kernel_rfl) (fun _ _ _ h => h) rfl HS ?_
  apply Exists.intro
  refine ⟨fun wq hw => ?_, ?_⟩
  · obtain ⟨hw1, hw2, hw3, hw4, hw5⟩ := hw
    go_simp
    rfl
  simp only [Act.put, List.setIfInBounds_toArray, List.set_cons_zero, List.set_cons_succ]
  refine wpAnyH_read (i := 12) (some 99) rfl rfl (by kernel_rfl) (by kernel_rfl) (by kernel_rfl) (fun _ _ _ h => h) rfl HS ?_
  apply Exists.intro
  refine ⟨fun wq hw => ?_, ?_⟩
  · obtain ⟨hw1, hw2, hw3, hw4, hw5⟩ := hw
    go_simp
    rfl
  simp only [Act.put, List.setIfInBounds_toArray, List.set_cons_zero, List.set_cons_succ]
  refine wpAnyH_read (i := 13) (some 100) rfl rfl (by kernel_rfl) (by kernel_rfl) (by kernel_rfl) (fun _ _ _ h => h) rfl HS ?_
  apply Exists.intro
  refine ⟨fun wq hw => ?_, ?_⟩
  · obtain ⟨hw1, hw2, hw3, hw4, hw5⟩ := hw
    go_simp
    rfl
  simp only [Act.put, List.setIfInBounds_toArray, List.set_cons_zero, List.set_cons_succ]
  refine wpAnyH_read (i := 14) (some 101) rfl rfl (by kernel_rfl) (by kernel_rfl) (by kernel_rfl) (fun _ _ _ h => h) rfl HS ?_
  apply Exists.intro
  refine ⟨fun wq hw => ?_, ?_⟩
  · obtain ⟨hw1, hw2, hw3, hw4, hw5⟩ := hw
    go_simp
    rfl
  simp only [Act.put, List.setIfInBounds_toArray, List.set_cons_zero, List.set_cons_succ]
  refine wpAnyH_read (i := 15) (some 102) rfl rfl (by kernel_rfl) (by kernel_rfl) (by kernel_rfl) (fun _ _ _ h => h) rfl HS ?_
  apply Exists.intro
  refine ⟨fun wq hw => ?_, ?_⟩
  · obtain ⟨hw1, hw2, hw3, hw4, hw5⟩ := hw
    go_simp
    rfl
  simp only [Act.put, List.setIfInBounds_toArray, List.set_cons_zero, List.set_cons_succ]
  refine wpAnyH_read (i := 16) none rfl rfl (by kernel_rfl) (by kernel_rfl) (by kernel_rfl) (fun _ _ _ h => h) rfl HS ?_
  apply Exists.intro
  refine ⟨fun wq hw => ?_, ?_⟩
  · go_simp
    rfl
  simp only [Act.put]
  clear HS
  refine wpAnyH_done (by kernel_rfl) ?_ _
  simp only [Exit.then]
  refine wpOps_list (m := 16) rfl ?_
  have hm3 := HM2.out.same (w' := w2.drew) fun _ _ => rfl
  have hb3 := Below.drewN HBW.out 1
  have hb3 : Below B w w2.drew := hb3
  have c5 : w2.drew.cell? ⟨tb, i * 9 + 5, none⟩ = some (.int .i64 (st.q i)) := c5
  clear HM2 HBW c3
  generalize w2.drew = w3 at *
  have z5 := tfrozen hm3 HT1.out (i * 9 + 5)
  have hlt := (hm3.lt (r := .T) (b := tb) rfl ((congrArg Value.ownBlock HT1.out).trans rfl)).1
  have hm4 := tsetQ hm3 HT1.out hi (st.q i + 1)
  have hb4 : Below B w (w3.setCell ⟨tb, i * 9 + 5, none⟩ (.int .i64 (st.q i + 1))) := hb3.setCell hlt _
  have HM4 := Lib.hid hm4
  have HB4 := Lib.hid hb4
  clear hm3 hb3 hm4 hb4
  have c3 : (w3.setCell ⟨tb, i * 9 + 5, none⟩ (.int .i64 (st.q i + 1))).cell? ⟨mb, 3, none⟩ = some (.slice (some ⟨tb, 0, none⟩) st.n tc) := by have := bcell HM4.out 3 (by omega); rw [this]; exact congrArg some HT1.out
  have c4 : (w3.setCell ⟨tb, i * 9 + 5, none⟩ (.int .i64 (st.q i + 1))).cell? ⟨tb, i * 9 + 4, none⟩ = some (.int .i64 (st.pc i)) := tcell HM4.out HT1.out hi 4 (by omega)
  have z4 := tfrozen HM4.out HT1.out (i * 9 + 4)
  have hm5 := tsetPc HM4.out HT1.out hi 1 (.inl hpc)
  have hb5 : Below B w ((w3.setCell ⟨tb, i * 9 + 5, none⟩ (.int .i64 (st.q i + 1))).setCell ⟨tb, i * 9 + 4, none⟩ (.int .i64 ((1 : Nat) : Int))) := HB4.out.setCell hlt _
  have d3 : ((w3.setCell ⟨tb, i * 9 + 5, none⟩ (.int .i64 (st.q i + 1))).setCell ⟨tb, i * 9 + 4, none⟩ (.int .i64 1)).cell? ⟨mb, 3, none⟩ = some (.slice (some ⟨tb, 0, none⟩) st.n tc) := by have := bcell hm5 3 (by omega); rw [show ((1 : Nat) : Int) = 1 from rfl] at this; rw [this]; exact congrArg some HT1.out
  have d5 : ((w3.setCell ⟨tb, i * 9 + 5, none⟩ (.int .i64 (st.q i + 1))).setCell ⟨tb, i * 9 + 4, none⟩ (.int .i64 1)).cell? ⟨tb, i * 9 + 5, none⟩ = some (.int .i64 (st.q i + 1)) := by have := tcell hm5 HT1.out hi 5 (by omega); rw [show ((1 : Nat) : Int) = 1 from rfl] at this; rw [this]; simp [thF, upd_same]
  have d8 : ((w3.setCell ⟨tb, i * 9 + 5, none⟩ (.int .i64 (st.q i + 1))).setCell ⟨tb, i * 9 + 4, none⟩ (.int .i64 1)).cell? ⟨tb, i * 9 + 8, none⟩ = some (.slice (some ⟨gg, 0, none⟩) ((st.seen i).length + 1) cap') := by have := tcell hm5 HT1.out hi 8 (by omega); rw [show ((1 : Nat) : Int) = 1 from rfl] at this; rw [this]; simp [thF]
  have HM5 := Lib.hid hm5
  have HB5 := Lib.hid hb5
  have HBS5 := Lib.hid (Nat.le_trans hB hb5.size)
  clear hm5 hb5 HM4 HB4
  rw [show ((1 : Nat) : Int) = 1 from rfl] at HM5 HB5 HBS5
  by_cases gg1 : GoodI (st.q i + 1)
  · have HG := Lib.hid (show decide (GoodI (st.q i + 1)) = true from decide_eq_true gg1)
    have EG2 := Lib.hid (EG.out.trans (if_pos gg1))
    clear gg1
    go_wp2_with (go_at_call 17; refine (refgood_ok _ _).mono ?_; rintro e w' ⟨rfl, rfl⟩; rw [HG.out])
    go_end0
    exact ⟨rfl, by rw [EG2.out]; exact ⟨_, HM5.out⟩, HB5.out⟩
  · have HG := Lib.hid (show decide (GoodI (st.q i + 1)) = false from decide_eq_false gg1)
    have EG2 := Lib.hid (EG.out.trans (if_neg gg1))
    clear gg1
    go_wp2_with (first
      | (go_at_call 17; refine (refgood_ok _ _).mono ?_; rintro e w' ⟨rfl, rfl⟩; rw [HG.out])
      | (go_at_call 58; refine (refend_ok _ HBS5.out HM5.out hi hn hat hans ⟨true, 0, st.seen i ++ [x]⟩ (.slice (some ⟨gg, 0, none⟩) ((st.seen i).length + 1) cap') ⟨some ⟨gg, 0, none⟩, cap', by simp⟩ (.inr ⟨by simp [upd_same], by simp [RM.see, upd_same], by simp⟩)).mono ?_; rintro e w' ⟨rfl, hm6, hb6⟩))
    go_end0
    exact ⟨rfl, by rw [EG2.out]; exact hm6, HB5.out.trans hb6⟩
end
end Go.Proofs.Yteainbnoemkfcaa
namespace Go.Proofs.Yteainbnoemkfcaa
open Go.RowKit Go.Turn
open Go.ConcN (upd upd_ne upd_same)
structure OpsL (B : Nat) (oV : Nat → Value) (ops : Nat → List OpI) (n : Nat) (w : World) : Prop where
  row : ∀ i, i < n → ∃ A c, oV i = .slice A (ops i).length c
  cells : ∀ i, i < n → ∀ (j : Nat) (o : OpI), (ops i)[j]? = some o → ∃ b f c, oV i = .slice (some ⟨b, f, none⟩) (ops i).length c ∧ b < B ∧ w.cell? ⟨b, f + j * 4, none⟩ = some (.int .i64 o.kind) ∧ w.cell? ⟨b, f + j * 4 + 1, none⟩ = some (.int .i64 o.a) ∧ w.cell? ⟨b, f + j * 4 + 2, none⟩ = some (.int .i64 o.b) ∧ w.cell? ⟨b, f + j * 4 + 3, none⟩ = some (.int .i64 o.c)
theorem OpsL.below {B n : Nat} {oV : Nat → Value} {ops : Nat → List OpI} {w w' : World} (h : OpsL B oV ops n w) (k : Below B w w') : OpsL B oV ops n w' :=
  ⟨h.row, fun i hi j o ho => by
    obtain ⟨b, f, c, h1, h2, h3, h4, h5, h6⟩ := h.cells i hi j o ho
    exact ⟨b, f, c, h1, h2, (World.cell?_of_block (a := ⟨b, f + j * 4, none⟩) (k.block b h2)).trans h3, (World.cell?_of_block (a := ⟨b, f + j * 4 + 1, none⟩) (k.block b h2)).trans h4, (World.cell?_of_block (a := ⟨b, f + j * 4 + 2, none⟩) (k.block b h2)).trans h5, (World.cell?_of_block (a := ⟨b, f + j * 4 + 3, none⟩) (k.block b h2)).trans h6⟩⟩
def OpI.Ok (o : OpI) : Prop := -9223372036854775808 ≤ o.a ∧ o.a < 9223372036854775808
structure RM.Ok (m : RM) : Prop where
  n : m.n ≤ 64
  size : m.size ≤ 65536
  len : ∀ i, i < m.n → (m.ops i).length ≤ 65536
  at_ : ∀ i, i < m.n → m.at_ i ≤ (m.ops i).length
  ans : ∀ i, i < m.n → (m.ans i).length = m.at_ i
  op : ∀ i, i < m.n → ∀ o ∈ m.ops i, o.Ok
  live : ∀ i, i < m.n → m.pc i ≠ 0 → ∃ o, (m.ops i)[m.at_ i]? = some o ∧ GoodI o.a ∧ 1 ≤ o.kind ∧ o.kind ≤ 5 ∧ 0 < m.size ∧ GoodI (m.q i) ∧ m.pc i ≤ 3 ∧ (m.seen i).length < m.size
section
variable {B mb : Nat} {oV : Nat → Value} {st : RM} {V : Rl → Value} {w : World}
theorem sset (h : Mems B (memOf mb st V oV) w) {sb sc : Nat} (hS : V .S = .slice (some ⟨sb, 0, none⟩) st.size sc) {k : Nat} (hk : k < st.size) (u : Int) : Mems B (memOf mb { st with S := upd st.S k u } V oV) (w.setCell ⟨sb, k, none⟩ (.int .i64 u)) :=
  h.set (r := .S) (e := 2) (sz := 1) (n := st.size) (cap := sc) (f := fun j => .int .i64 (st.S j)) (f' := fun j => .int .i64 (upd st.S k u j)) (by simp only [memOf, hS]) k _ (by simp only [memOf, hS]) (fun j hj => by unfold upd; split <;> rfl) fun r hr => by cases r <;> first | rfl | exact absurd rfl hr
theorem vset (h : Mems B (memOf mb st V oV) w) {vb vc : Nat} (hV : V .V = .slice (some ⟨vb, 0, none⟩) st.size vc) {k : Nat} (hk : k < st.size) (u : Int) : Mems B (memOf mb { st with V := upd st.V k u } V oV) (w.setCell ⟨vb, k, none⟩ (.int .i64 u)) :=
  h.set (r := .V) (e := 2) (sz := 1) (n := st.size) (cap := vc) (f := fun j => .int .i64 (st.V j)) (f' := fun j => .int .i64 (upd st.V k u j)) (by simp only [memOf, hV]) k _ (by simp only [memOf, hV]) (fun j hj => by unfold upd; split <;> rfl) fun r hr => by cases r <;> first | rfl | exact absurd rfl hr
end
section
variable {B mb : Nat} {oV : Nat → Value} {st : RM}
theorem get_same (m : RM) (i p : Nat) : (m.get i p).1.n = m.n ∧ (m.get i p).1.at_ = m.at_ ∧ (m.get i p).1.ans = m.ans ∧ (m.get i p).1.pc = m.pc ∧ (m.get i p).1.size = m.size ∧ (m.get i p).1.seen = m.seen ∧ (m.get i p).1.q = m.q ∧ (m.get i p).1.S = m.S ∧ (m.get i p).1.V = m.V ∧ (m.get i p).1.ops = m.ops := by
  unfold RM.get
  dsimp only
  split
  · simp
  · split
    · simp
    · split <;> simp
theorem refget_ok (w : World) (hB : B ≤ w.heap.size) (h : RMem B mb oV st w) {i : Nat} (hi : i < st.n) (hn : st.n ≤ 64) (h0 : 0 < st.size) (h2 : st.size ≤ 65536) (g : GoodI (st.q i)) (p : Nat) (hp : 1 ≤ p) (hp3 : p ≤ 3) :
    Calls Try.prog 59 #[.pointer (some ⟨mb, 0, none⟩), .int .i64 i, .int .i64 p] w fun e w' => e = .returned (.tuple #[.int .i64 (st.get i p).2.1, .int .i64 (st.get i p).2.2.1, .bool (st.get i p).2.2.2]) ∧ RMem B mb oV (st.get i p).1 w' ∧ Below B w w' := by
  rcases p with _ | _ | _ | _ | p
  · omega
  · exact refget1_ok w hB h hi hn h0 h2 g
  · exact refget2_ok w hB h hi hn h0 h2 g
  · exact refget3_ok w hB h hi hn h0 h2 g
  · omega
end
end Go.Proofs.Yteainbnoemkfcaa
namespace Go.Proofs.Yteainbnoemkfcaa
open Go.RowKit Go.Turn
open Go.ConcN (upd upd_ne upd_same)
namespace RM
structure Same (i : Nat) (m m' : RM) : Prop where
  n : m'.n = m.n
  size : m'.size = m.size
  ops : m'.ops = m.ops
  X : m'.X = m.X
  o : ∀ j, j ≠ i → m'.at_ j = m.at_ j ∧ m'.ans j = m.ans j ∧ m'.pc j = m.pc j ∧ m'.q j = m.q j ∧ m'.seen j = m.seen j
theorem Same.refl (i : Nat) (m : RM) : Same i m m := ⟨rfl, rfl, rfl, rfl, fun _ _ => ⟨rfl, rfl, rfl, rfl, rfl⟩⟩
theorem Same.trans {i : Nat} {a b c : RM} (h : Same i a b) (k : Same i b c) : Same i a c :=
  ⟨k.n.trans h.n, k.size.trans h.size, k.ops.trans h.ops, k.X.trans h.X, fun j hj => by
    obtain ⟨h1, h2, h3, h4, h5⟩ := h.o j hj
    obtain ⟨k1, k2, k3, k4, k5⟩ := k.o j hj
    exact ⟨k1.trans h1, k2.trans h2, k3.trans h3, k4.trans h4, k5.trans h5⟩⟩
theorem same_end (m : RM) (i : Nat) (a : Ans) : Same i m (m.end_ i a) := ⟨rfl, rfl, rfl, rfl, fun j hj => by simp [RM.end_, upd_ne _ _ hj]⟩
theorem same_stand (m : RM) (i p : Nat) : Same i m (m.stand i p) := ⟨rfl, rfl, rfl, rfl, fun j hj => by simp [RM.stand, upd_ne _ _ hj]⟩
theorem same_enter (m : RM) (i : Nat) (q : Int) : Same i m (m.enter i q) := ⟨rfl, rfl, rfl, rfl, fun j hj => by simp [RM.enter, upd_ne _ _ hj]⟩
theorem same_see (m : RM) (i : Nat) (x : Int) : Same i m (m.see i x) := ⟨rfl, rfl, rfl, rfl, fun j hj => by simp [RM.see, upd_ne _ _ hj]⟩
theorem same_get (m : RM) (i p : Nat) : Same i m (m.get i p).1 := by
  obtain ⟨h1, h2, h3, h4, h5, h6, h7, h8, h9, h10⟩ := get_same m i p
  refine ⟨h1, h5, h10, ?_, fun j hj => by simp [h2, h3, h4, h6, h7]⟩
  unfold RM.get
  dsimp only
  split
  · rfl
  · split
    · rfl
    · split <;> rfl
theorem Ok.turn {m m' : RM} {i : Nat} (h : m.Ok) (hi : i < m.n) (hs : Same i m m') (ha : m'.at_ i ≤ (m.ops i).length) (hb : (m'.ans i).length = m'.at_ i)
    (hl : m'.pc i ≠ 0 → ∃ o, (m.ops i)[m'.at_ i]? = some o ∧ GoodI o.a ∧ 1 ≤ o.kind ∧ o.kind ≤ 5 ∧ 0 < m.size ∧ GoodI (m'.q i) ∧ m'.pc i ≤ 3 ∧ (m'.seen i).length < m.size) : m'.Ok where
  n := by rw [hs.n]; exact h.n
  size := by rw [hs.size]; exact h.size
  len j hj := by rw [hs.ops]; exact h.len j (hs.n ▸ hj)
  at_ j hj := by
    rw [hs.ops]
    by_cases e : j = i
    · subst e; exact ha
    · rw [(hs.o j e).1]; exact h.at_ j (hs.n ▸ hj)
  ans j hj := by
    by_cases e : j = i
    · subst e; exact hb
    · rw [(hs.o j e).1, (hs.o j e).2.1]; exact h.ans j (hs.n ▸ hj)
  op j hj := by rw [hs.ops]; exact h.op j (hs.n ▸ hj)
  live j hj hp := by
    rw [hs.ops, hs.size]
    by_cases e : j = i
    · subst e; exact hl hp
    · obtain ⟨e1, e2, e3, e4, e5⟩ := hs.o j e
      rw [e1, e3, e4, e5]
      rw [e3] at hp
      exact h.live j (hs.n ▸ hj) hp
theorem Ok.ended {m m' : RM} {i : Nat} (h : m.Ok) (hi : i < m.n) (hs : Same i m m') (h1 : m'.at_ i = m.at_ i) (h2 : m'.ans i = m.ans i) (hat : m.at_ i < (m.ops i).length) (a : Ans) : (m'.end_ i a).Ok := by
  refine h.turn hi (hs.trans (same_end _ _ _)) ?_ ?_ fun hp => ?_
  · show upd m'.at_ i (m'.at_ i + 1) i ≤ _
    rw [upd_same, h1]; omega
  · show (upd m'.ans i (m'.ans i ++ [a]) i).length = upd m'.at_ i (m'.at_ i + 1) i
    rw [upd_same, upd_same, h1, h2, List.length_append, h.ans i hi]; rfl
  · exact absurd (show upd m'.pc i 0 i = 0 from upd_same ..) hp
theorem begin_is (m : RM) (i : Nat) (o : OpI) : (∃ a, m.begin_ i o = (m.enter i o.a).end_ i a) ∨ (m.begin_ i o = (m.enter i o.a).stand i 1 ∧ GoodI o.a ∧ 1 ≤ o.kind ∧ o.kind ≤ 5 ∧ 0 < m.size) := by
  unfold RM.begin_
  by_cases c1 : m.size = 0 ∨ o.kind < 1 ∨ 5 < o.kind
  · rw [if_pos c1]; exact .inl ⟨_, rfl⟩
  rw [if_neg c1]
  by_cases c2 : o.kind = 4 ∧ (¬ GoodI o.a ∨ o.b < o.a)
  · rw [if_pos c2]; exact .inl ⟨_, rfl⟩
  rw [if_neg c2]
  by_cases c3 : o.kind = 4
  · rw [if_pos c3]
    have hg : GoodI o.a := Classical.byContradiction fun hg => c2 ⟨c3, .inl hg⟩
    exact .inr ⟨rfl, hg, by omega, by omega, by omega⟩
  rw [if_neg c3]
  by_cases c4 : ¬ GoodI o.a ∧ o.kind = 3
  · rw [if_pos c4]; exact .inl ⟨_, rfl⟩
  rw [if_neg c4]
  by_cases c5 : ¬ GoodI o.a
  · rw [if_pos c5]; exact .inl ⟨_, rfl⟩
  rw [if_neg c5]
  by_cases c6 : o.kind = 5 ∧ o.b < 1
  · rw [if_pos c6]; exact .inl ⟨_, rfl⟩
  rw [if_neg c6]
  exact .inr ⟨rfl, Classical.not_not.1 c5, by omega, by omega, by omega⟩
theorem same_begin (m : RM) (i : Nat) (o : OpI) : Same i m (m.begin_ i o) := by
  rcases begin_is m i o with ⟨a, e⟩ | ⟨e, _⟩
  · rw [e]; exact (same_enter _ _ _).trans (same_end _ _ _)
  · rw [e]; exact (same_enter _ _ _).trans (same_stand _ _ _)
theorem Ok.begin {m : RM} {i : Nat} {o : OpI} (h : m.Ok) (hi : i < m.n) (ho : (m.ops i)[m.at_ i]? = some o) : (m.begin_ i o).Ok := by
  have hat := (List.getElem?_eq_some_iff.1 ho).1
  rcases begin_is m i o with ⟨a, e⟩ | ⟨e, hg, k1, k5, h0⟩
  · rw [e]; exact h.ended hi (same_enter _ _ _) rfl rfl hat a
  · rw [e]
    refine h.turn hi ((same_enter _ _ _).trans (same_stand _ _ _)) ?_ ?_ fun hp => ⟨o, ho, hg, k1, k5, h0, ?_, ?_, ?_⟩
    · exact h.at_ i hi
    · exact h.ans i hi
    · show GoodI (upd m.q i o.a i)
      rw [upd_same]; exact hg
    · show upd m.pc i 1 i ≤ 3
      rw [upd_same]; omega
    · show (upd m.seen i [] i).length < _
      rw [upd_same]; exact h0
theorem settle_pc {m : RM} {i : Nat} (h : m.pc i ≠ 0) : ∀ f, m.settle i f = m
  | 0 => rfl
  | f + 1 => by simp [RM.settle, h]
theorem settled_pc {m : RM} {i : Nat} (h : m.pc i ≠ 0) : m.settled i = m := settle_pc h _
theorem settled_end {m : RM} {i : Nat} (h : (m.ops i)[m.at_ i]? = none) : m.settled i = m := by
  unfold RM.settled
  cases (m.ops i).length + 1 - m.at_ i with
  | zero => rfl
  | succ f => simp [RM.settle, h]
theorem settled_begin {m : RM} {i : Nat} {o : OpI} (h : m.pc i = 0) (ho : (m.ops i)[m.at_ i]? = some o) : m.settled i = (m.begin_ i o).settled i := by
  have hlt := (List.getElem?_eq_some_iff.1 ho).1
  unfold RM.settled
  obtain ⟨f, hf⟩ : ∃ f, (m.ops i).length + 1 - m.at_ i = f + 1 := ⟨(m.ops i).length - m.at_ i, by omega⟩
  rw [hf]
  simp only [RM.settle, h, if_true, ho]
  rcases begin_is m i o with ⟨a, e⟩ | ⟨e, _⟩
  · rw [e]
    have e1 : ((m.enter i o.a).end_ i a).at_ i = m.at_ i + 1 := upd_same ..
    rw [show (((m.enter i o.a).end_ i a).ops i).length + 1 - ((m.enter i o.a).end_ i a).at_ i = f from by rw [e1]; show (m.ops i).length + 1 - (m.at_ i + 1) = f; omega]
  · rw [e]
    have hp : ((m.enter i o.a).stand i 1).pc i ≠ 0 := by show upd _ i 1 i ≠ 0; rw [upd_same]; omega
    rw [settle_pc hp, settle_pc hp]
theorem same_settle (i : Nat) : ∀ (f : Nat) (m : RM), Same i m (m.settle i f)
  | 0, m => Same.refl i m
  | f + 1, m => by
    unfold RM.settle
    split
    · split
      · exact (same_begin m i _).trans (same_settle i f _)
      · exact Same.refl i m
    · exact Same.refl i m
theorem Ok.settle {i : Nat} : ∀ (f : Nat) {m : RM}, m.Ok → i < m.n → (m.settle i f).Ok
  | 0, m, h, _ => h
  | f + 1, m, h, hi => by
    unfold RM.settle
    split
    · split
      · rename_i o ho
        exact Ok.settle f (h.begin hi ho) (by rw [(same_begin m i o).n]; exact hi)
      · exact h
    · exact h
theorem same_gathered (m : RM) (i : Nat) (o : OpI) (v e : Int) : Same i m (m.gathered i o v e) := by
  unfold RM.gathered
  split
  · exact same_end _ _ _
  · have hs : Same i m (if e = 0 then m.see i v else m) := by split; exact same_see _ _ _; exact Same.refl _ _
    generalize (if e = 0 then m.see i v else m) = m1 at hs ⊢
    dsimp only
    split
    · exact hs.trans (same_end _ _ _)
    · have h2 : Same i m1 { m1 with q := upd m1.q i (m1.q i + 1), pc := upd m1.pc i 1 } := ⟨rfl, rfl, rfl, rfl, fun j hj => by simp [upd_ne _ _ hj]⟩
      split
      · exact hs.trans h2
      · exact (hs.trans h2).trans (same_end _ _ _)
theorem Ok.gathered {m m' : RM} {i : Nat} {o : OpI} (h : m.Ok) (hi : i < m.n) (hs : Same i m m') (h1 : m'.at_ i = m.at_ i) (h2 : m'.ans i = m.ans i) (h3 : m'.seen i = m.seen i) (hpc : m.pc i ≠ 0) (v e : Int) : (m'.gathered i o v e).Ok := by
  obtain ⟨o', ho', ga, k1, k5, h0, gq, hp3, hsl⟩ := h.live i hi hpc
  have hat := (List.getElem?_eq_some_iff.1 ho').1
  unfold RM.gathered
  split
  · exact h.ended hi hs h1 h2 hat _
  · rename_i c0
    have hs1 : Same i m (if e = 0 then m'.see i v else m') := by split; exact hs.trans (same_see _ _ _); exact hs
    have g1 : (if e = 0 then m'.see i v else m').at_ i = m.at_ i := by split <;> exact h1
    have g2 : (if e = 0 then m'.see i v else m').ans i = m.ans i := by split <;> exact h2
    have g3 : ((if e = 0 then m'.see i v else m').seen i).length ≤ (m.seen i).length + 1 := by
      split
      · show (upd m'.seen i (m'.seen i ++ [v]) i).length ≤ _
        rw [upd_same, List.length_append, h3]; simp
      · rw [h3]; omega
    generalize (if e = 0 then m'.see i v else m') = m1 at hs1 g1 g2 g3 ⊢
    dsimp only
    split
    · exact h.ended hi hs1 g1 g2 hat _
    · rename_i c1
      have h2' : Same i m1 { m1 with q := upd m1.q i (m1.q i + 1), pc := upd m1.pc i 1 } := ⟨rfl, rfl, rfl, rfl, fun j hj => by simp [upd_ne _ _ hj]⟩
      split
      · rename_i cg
        refine h.turn hi (hs1.trans h2') ?_ ?_ fun _ => ⟨o', ?_, ga, k1, k5, h0, cg, ?_, ?_⟩
        · rw [show _ = m.at_ i from g1]; exact h.at_ i hi
        · rw [show _ = m.ans i from g2, show _ = m.at_ i from g1]; exact h.ans i hi
        · rw [show _ = m.at_ i from g1]; exact ho'
        · show upd m1.pc i 1 i ≤ 3
          rw [upd_same]; omega
        · show (m1.seen i).length < m.size
          have : (m1.seen i).length ≠ m1.size := fun z => c1 (.inr (.inr z))
          rw [hs1.size] at this
          omega
      · exact h.ended hi (hs1.trans h2') g1 g2 hat _
theorem same_step (m : RM) (i : Nat) (o : OpI) : Same i m (m.step i o) := by
  have hs := same_stand m i (m.pc i + 1)
  have tS : ∀ (m' : RM) (S : Nat → Int), Same i m m' → Same i m { m' with S := S } := fun m' S h => ⟨h.n, h.size, h.ops, h.X, h.o⟩
  have tV : ∀ (m' : RM) (S : Nat → Int), Same i m m' → Same i m { m' with V := S } := fun m' S h => ⟨h.n, h.size, h.ops, h.X, h.o⟩
  unfold RM.step
  dsimp only
  split
  · split
    · exact tS _ _ hs
    · split
      · exact tV _ _ hs
      · split
        · exact (tS _ _ hs).trans (same_end _ _ _)
        · exact hs
  · split
    · split
      · split
        · exact (hs.trans (same_get _ _ _)).trans (same_end _ _ _)
        · exact (hs.trans (same_get _ _ _)).trans (same_end _ _ _)
      · exact hs.trans (same_get _ _ _)
    · split
      · split
        · exact (hs.trans (same_get _ _ _)).trans (same_gathered _ _ _ _ _)
        · exact hs.trans (same_get _ _ _)
      · split
        · exact hs.trans (same_end _ _ _)
        · split
          · have hs1 := hs.trans (same_stand (m.stand i (m.pc i + 1)) i 1)
            split
            · exact hs1.trans (same_end _ _ _)
            · have h2 : Same i ((m.stand i (m.pc i + 1)).stand i 1) { (m.stand i (m.pc i + 1)).stand i 1 with q := upd ((m.stand i (m.pc i + 1)).stand i 1).q i (m.q i + 1) } := ⟨rfl, rfl, rfl, rfl, fun j hj => by simp [upd_ne _ _ hj]⟩
              split
              · exact (hs1.trans h2).trans (same_end _ _ _)
              · exact hs1.trans h2
          · exact hs
theorem get_over3 (m : RM) (i : Nat) : (m.get i 3).2.2.2 = true := by
  unfold RM.get
  simp
  split <;> rfl
theorem Ok.step {m : RM} {i : Nat} {o : OpI} (h : m.Ok) (hi : i < m.n) (hpc : m.pc i ≠ 0) (ho : (m.ops i)[m.at_ i]? = some o) : (m.step i o).Ok := by
  obtain ⟨o', ho', ga, k1, k5, h0, gq, hp3, hsl⟩ := h.live i hi hpc
  obtain rfl : o' = o := by rw [ho] at ho'; cases ho'; rfl
  have hat := (List.getElem?_eq_some_iff.1 ho).1
  have hs := same_stand m i (m.pc i + 1)
  have tS : ∀ (m' : RM) (S : Nat → Int), Same i m m' → Same i m { m' with S := S } := fun m' S h => ⟨h.n, h.size, h.ops, h.X, h.o⟩
  have tV : ∀ (m' : RM) (S : Nat → Int), Same i m m' → Same i m { m' with V := S } := fun m' S h => ⟨h.n, h.size, h.ops, h.X, h.o⟩
  have hgo : ∀ m' : RM, Same i m m' → m'.at_ i = m.at_ i → m'.ans i = m.ans i → m'.pc i ≤ 3 → m'.seen i = m.seen i → GoodI (m'.q i) → m'.Ok := fun m' hs e1 e2 e3 e4 e5 => by
    refine h.turn hi hs ?_ ?_ fun _ => ⟨o', ?_, ga, k1, k5, h0, e5, e3, ?_⟩
    · rw [e1]; exact h.at_ i hi
    · rw [e1, e2]; exact h.ans i hi
    · rw [e1]; exact ho
    · rw [e4]; exact hsl
  unfold RM.step
  dsimp only
  split
  · split
    · exact hgo _ (tS _ _ hs) rfl rfl (by show upd m.pc i (m.pc i + 1) i ≤ 3; rw [upd_same]; omega) rfl gq
    · split
      · exact hgo _ (tV _ _ hs) rfl rfl (by show upd m.pc i (m.pc i + 1) i ≤ 3; rw [upd_same]; omega) rfl gq
      · split
        · exact h.ended hi (tS _ _ hs) rfl rfl hat _
        · omega
  · have hg := get_same (m.stand i (m.pc i + 1)) i (m.pc i)
    obtain ⟨e1, e2, e3, e4, e5, e6, e7, -, -, -⟩ := hg
    have hsg := hs.trans (same_get (m.stand i (m.pc i + 1)) i (m.pc i))
    have hno : (((m.stand i (m.pc i + 1)).get i (m.pc i)).2.2.2 = false) → ((m.stand i (m.pc i + 1)).get i (m.pc i)).1.Ok := fun hz => by
      have hne : m.pc i ≠ 3 := fun e => by rw [e, get_over3] at hz; cases hz
      refine hgo _ hsg (by rw [e2]; rfl) (by rw [e3]; rfl) ?_ (by rw [e6]; rfl) (by rw [e7]; exact gq)
      rw [e4]
      show upd m.pc i (m.pc i + 1) i ≤ 3
      rw [upd_same]; omega
    split
    · split
      · split
        · exact h.ended hi hsg (by rw [e2]; rfl) (by rw [e3]; rfl) hat _
        · exact h.ended hi hsg (by rw [e2]; rfl) (by rw [e3]; rfl) hat _
      · rename_i hz
        exact hno (by simpa using hz)
    · split
      · split
        · exact h.gathered hi hsg (by rw [e2]; rfl) (by rw [e3]; rfl) (by rw [e6]; rfl) hpc _ _
        · rename_i hz
          exact hno (by simpa using hz)
      · split
        · exact h.ended hi hs rfl rfl hat _
        · split
          · have hs1 := hs.trans (same_stand (m.stand i (m.pc i + 1)) i 1)
            split
            · exact h.ended hi hs1 rfl rfl hat _
            · rename_i hz
              have h2 : Same i ((m.stand i (m.pc i + 1)).stand i 1) { (m.stand i (m.pc i + 1)).stand i 1 with q := upd ((m.stand i (m.pc i + 1)).stand i 1).q i (m.q i + 1) } := ⟨rfl, rfl, rfl, rfl, fun j hj => by simp [upd_ne _ _ hj]⟩
              split
              · exact h.ended hi (hs1.trans h2) rfl rfl hat _
              · rename_i hc
                refine hgo _ (hs1.trans h2) rfl rfl ?_ rfl ?_
                · show upd (upd m.pc i (m.pc i + 1)) i 1 i ≤ 3
                  rw [upd_same]; omega
                · show GoodI (upd m.q i (m.q i + 1) i)
                  rw [upd_same]
                  exact Classical.byContradiction fun hg => hc (.inr (.inl hg))
          · omega
def withX (m : RM) (Y : Nat → Option Row) : RM := { m with X := Y }
theorem get_X (m : RM) (Y : Nat → Option Row) (i p : Nat) : (m.withX Y).get i p = ((m.get i p).1.withX Y, (m.get i p).2) := by
  unfold RM.get RM.withX
  dsimp only [RM.slot, RM.lap]
  split
  · rfl
  · split
    · rfl
    · split <;> rfl
theorem gathered_X (m : RM) (Y : Nat → Option Row) (i : Nat) (o : OpI) (v e : Int) : (m.withX Y).gathered i o v e = (m.gathered i o v e).withX Y := by
  unfold RM.gathered
  by_cases c0 : e ≠ 0 ∧ m.seen i = []
  · rw [if_pos c0, if_pos (show e ≠ 0 ∧ (m.withX Y).seen i = [] from c0)]; rfl
  · rw [if_neg c0, if_neg (show ¬ (e ≠ 0 ∧ (m.withX Y).seen i = []) from c0)]
    have e1 : (if e = 0 then (m.withX Y).see i v else m.withX Y) = (if e = 0 then m.see i v else m).withX Y := by split <;> rfl
    dsimp only
    rw [e1]
    generalize (if e = 0 then m.see i v else m) = m1
    by_cases c1 : e ≠ 0 ∨ ((m1.seen i).length : Int) = o.b ∨ (m1.seen i).length = m1.size
    · rw [if_pos c1, if_pos (show e ≠ 0 ∨ (((m1.withX Y).seen i).length : Int) = o.b ∨ ((m1.withX Y).seen i).length = (m1.withX Y).size from c1)]; rfl
    · rw [if_neg c1, if_neg (show ¬ (e ≠ 0 ∨ (((m1.withX Y).seen i).length : Int) = o.b ∨ ((m1.withX Y).seen i).length = (m1.withX Y).size) from c1)]
      by_cases cg : GoodI (upd m1.q i (m1.q i + 1) i)
      · rw [if_pos cg, if_pos (show GoodI (upd (m1.withX Y).q i ((m1.withX Y).q i + 1) i) from cg)]; rfl
      · rw [if_neg cg, if_neg (show ¬ GoodI (upd (m1.withX Y).q i ((m1.withX Y).q i + 1) i) from cg)]; rfl
end RM
section
variable {B mb : Nat} {oV : Nat → Value} {w : World}
theorem RMem.drop {m : RM} {k : Nat} {d : Row} (h : RMem B mb oV (m.withX (upd m.X k (some d))) w) (hk : m.X k = none) : RMem B mb oV m w := by
  obtain ⟨V, h⟩ := h
  refine ⟨V, h.mono fun r d' hr => ?_⟩
  cases r with
  | ext l =>
    by_cases e : l = k
    · subst e; simp [memOf, hk] at hr
    · show upd m.X k (some d) l = some d'
      rw [upd_ne _ _ e]; exact hr
  | _ => exact hr
theorem mems_new {m : RM} {V : Rl → Value} (h : Mems B (memOf mb m V oV) w) {w' : World} (k : Nat) {d : Row} (hs : ∀ b, b < w.heap.size → w'.heap[b]? = w.heap[b]?) (hn : d.At B w') (hv : ∀ b, d.v.ownBlock = some b → w.heap.size ≤ b) : Mems B (memOf mb (m.withX (upd m.X k (some d))) V oV) w' := by
  refine h.new (r := .ext k) (d' := d) (by show upd m.X k (some d) k = some d; exact upd_same ..) (fun r hr => ?_) hs hn hv
  cases r with
  | ext l =>
    show upd m.X k (some d) l = m.X l
    exact upd_ne _ _ (fun e => hr (by rw [e]))
  | _ => rfl
end
theorem row_blk {B : Nat} {w : World} {b : Nat} {t : TypeId} {cs : Array Value} (h : Blk w b t cs) (hB : B ≤ b) (f : Nat → Value) (hf : ∀ j, j < cs.size → cs[j]? = some (f j)) : (⟨t, cs.size, .slice (some ⟨b, 0, none⟩) 1 1, 1, f⟩ : Row).At B w := by
  refine ⟨by simp [cellsN_len], .inr ⟨b, 1, cs, rfl, hB, h, Nat.le_refl _, by unfold maxLen; omega, by simp, ?_⟩⟩
  apply List.ext_getElem?
  intro j
  by_cases hj : j < cs.size
  · simp only
    rw [cellsN_get (by omega), List.getElem?_take_of_lt (by omega), Array.getElem?_toList, hf j hj]
  · rw [List.getElem?_eq_none (by simp; omega), List.getElem?_eq_none (by rw [cellsN_len]; simp; omega)]
end Go.Proofs.Yteainbnoemkfcaa
namespace Go.Proofs.Yteainbnoemkfcaa
open Go.RowKit Go.Turn
open Go.ConcN (upd upd_ne upd_same)
section
variable {B mb : Nat} {oV : Nat → Value} {st : RM}
def opF (kd oa ob oc : Int) : Nat → Value
  | 0 => .int .i64 kd
  | 1 => .int .i64 oa
  | 2 => .int .i64 ob
  | _ => .int .i64 oc
def opRow (b : Nat) (kd oa ob oc : Int) : Row := ⟨49, 4, .slice (some ⟨b, 0, none⟩) 1 1, 1, opF kd oa ob oc⟩
set_option maxHeartbeats 4000000 in
set_option maxRecDepth 100000 in
theorem refstep_ok (w : World) (hB : B ≤ w.heap.size) (h : RMem B mb oV st w) (hO : OpsL B oV st.ops st.n w) (hok : st.Ok) (hX : st.X 7 = none) {i : Nat} (hi : i < st.n) (hpc : st.pc i ≠ 0) (o : OpI) (ho : (st.ops i)[st.at_ i]? = some o) :
    Calls Try.prog 47 #[.pointer (some ⟨mb, 0, none⟩), .int .i64 i] w fun e w' => e = .returned (.tuple #[]) ∧ RMem B mb oV (st.step i o) w' ∧ Below B w w' := by
  obtain ⟨V, h⟩ := h
  obtain ⟨o', ho', ga, hk1, hk5, h0, g, hp3, hsl⟩ := hok.live i hi hpc
  obtain rfl : o' = o := by rw [ho] at ho'; cases ho'; rfl
  clear ho'
  have hn := hok.n
  have h2 := hok.size
  have hat : st.at_ i < 65536 := by
    have := hok.len i hi
    have := (List.getElem?_eq_some_iff.1 ho).1
    omega
  have hans : (st.ans i).length < 65536 := by rw [hok.ans i hi]; exact hat
  obtain ⟨ob, oo, oc, hoV, hob, q0, q1, q2, q3⟩ := hO.cells i hi _ _ ho
  have hol := (List.getElem?_eq_some_iff.1 ho).1
  obtain ⟨kd, oa, ob_, oc_⟩ := o'
  simp only at ga hk1 hk5 q0 q1 q2 q3
  obtain ⟨g0, g1⟩ := id g
  obtain ⟨tb, tc, hT, htc, htm⟩ := tb_of h (by omega)
  obtain ⟨⟨sb, sc, hS, hsc, hsm⟩, vb, vc, hV, hvc, hvm⟩ := sb_of h h0
  have hb0 : 0 ≤ st.q i % (st.size : Int) := Int.emod_nonneg _ (by omega)
  have hb1 : st.q i % (st.size : Int) < st.size := Int.emod_lt_of_pos _ (by omega)
  have hd0 : 0 ≤ st.q i / (st.size : Int) := Int.ediv_nonneg g0 (by omega)
  have hd1 : st.q i / (st.size : Int) ≤ st.q i := Int.ediv_le_self _ g0
  have HM := Lib.hid h
  have HT := Lib.hid hT
  have HS_ := Lib.hid hS
  have HV_ := Lib.hid hV
  have HG := Lib.hid g
  have HGA := Lib.hid ga
  have HOK := Lib.hid hok
  have HOV := Lib.hid hoV
  have HO := Lib.hid hO
  have HOO := Lib.hid ho
  clear h hT hS hV g ga hok hoV hO ho
  go_enter Try.func47, Try.ntmps47
  have c3 : w.cell? ⟨mb, 3, none⟩ = some (.slice (some ⟨tb, 0, none⟩) st.n tc) := by have := bcell HM.out 3 (by omega); rw [this]; exact congrArg some HT.out
  have t0 : w.cell? ⟨tb, i * 9, none⟩ = some (.slice (some ⟨ob, oo, none⟩) (st.ops i).length oc) := by have := tcell HM.out HT.out hi 0 (by omega); rw [Nat.add_zero] at this; rw [this]; exact congrArg some HOV.out
  have t3 : w.cell? ⟨tb, i * 9 + 3, none⟩ = some (.int .i64 (st.at_ i)) := tcell HM.out HT.out hi 3 (by omega)
  refine wp_cut fun K hK => ?_
  refine wp_region_last (S := fun w' => w'.cell? ⟨mb, 3, none⟩ = some (.slice (some ⟨tb, 0, none⟩) st.n tc) ∧ w'.cell? ⟨tb, i * 9, none⟩ = some (.slice (some ⟨ob, oo, none⟩) (st.ops i).length oc) ∧ w'.cell? ⟨tb, i * 9 + 3, none⟩ = some (.int .i64 (st.at_ i)) ∧ w'.cell? ⟨ob, oo + st.at_ i * 4, none⟩ = some (.int .i64 kd) ∧ w'.cell? ⟨ob, oo + st.at_ i * 4 + 1, none⟩ = some (.int .i64 oa) ∧ w'.cell? ⟨ob, oo + st.at_ i * 4 + 2, none⟩ = some (.int .i64 ob_) ∧ w'.cell? ⟨ob, oo + st.at_ i * 4 + 3, none⟩ = some (.int .i64 oc_)) 19 (by kernel_rfl) (by kernel_rfl) (by kernel_rfl) ?_
  simp only [idle, List.modify_toArray, List.modify_succ_cons, List.modify_zero_cons, List.size_toArray, List.length_cons, List.length_nil, Nat.reduceAdd]
  have HS : w.drew.cell? ⟨mb, 3, none⟩ = some (.slice (some ⟨tb, 0, none⟩) st.n tc) ∧ w.drew.cell? ⟨tb, i * 9, none⟩ = some (.slice (some ⟨ob, oo, none⟩) (st.ops i).length oc) ∧ w.drew.cell? ⟨tb, i * 9 + 3, none⟩ = some (.int .i64 (st.at_ i)) ∧ w.drew.cell? ⟨ob, oo + st.at_ i * 4, none⟩ = some (.int .i64 kd) ∧ w.drew.cell? ⟨ob, oo + st.at_ i * 4 + 1, none⟩ = some (.int .i64 oa) ∧ w.drew.cell? ⟨ob, oo + st.at_ i * 4 + 2, none⟩ = some (.int .i64 ob_) ∧ w.drew.cell? ⟨ob, oo + st.at_ i * 4 + 3, none⟩ = some (.int .i64 oc_) := ⟨c3, t0, t3, q0, q1, q2, q3⟩
  refine wpAnyH_read (i := 0) (some 12) rfl rfl (by kernel_rfl) (by kernel_rfl) (by kernel_rfl) (fun _ _ _ h => h) rfl HS ?_
  apply Exists.intro
  refine ⟨fun wq hw => ?_, ?_⟩
  · obtain ⟨hw1, hw2, hw3, hw4, hw5, hw6, hw7⟩ := hw
    go_simp
    rfl
  simp only [Act.put, List.setIfInBounds_toArray, List.set_cons_zero, List.set_cons_succ]
  refine wpAnyH_read (i := 1) (some 13) rfl rfl (by kernel_rfl) (by kernel_rfl) (by kernel_rfl) (fun _ _ _ h => h) rfl HS ?_
  apply Exists.intro
  refine ⟨fun wq hw => ?_, ?_⟩
  · obtain ⟨hw1, hw2, hw3, hw4, hw5, hw6, hw7⟩ := hw
    go_simp
    rfl
  simp only [Act.put, List.setIfInBounds_toArray, List.set_cons_zero, List.set_cons_succ]
  refine wpAnyH_read (i := 2) (some 14) rfl rfl (by kernel_rfl) (by kernel_rfl) (by kernel_rfl) (fun _ _ _ h => h) rfl HS ?_
  apply Exists.intro
  refine ⟨fun wq hw => ?_, ?_⟩
  · obtain ⟨hw1, hw2, hw3, hw4, hw5, hw6, hw7⟩ := hw
    go_simp
    rfl
  simp only [Act.put, List.setIfInBounds_toArray, List.set_cons_zero, List.set_cons_succ]
  refine wpAnyH_read (i := 3) (some 15) rfl rfl (by kernel_rfl) (by kernel_rfl) (by kernel_rfl) (fun _ _ _ h => h) rfl HS ?_
  apply Exists.intro
  refine ⟨fun wq hw => ?_, ?_⟩
  · obtain ⟨hw1, hw2, hw3, hw4, hw5, hw6, hw7⟩ := hw
    go_simp
    rfl
  simp only [Act.put, List.setIfInBounds_toArray, List.set_cons_zero, List.set_cons_succ]
  refine wpAnyH_read (i := 4) (some 16) rfl rfl (by kernel_rfl) (by kernel_rfl) (by kernel_rfl) (fun _ _ _ h => h) rfl HS ?_
  apply Exists.intro
  refine ⟨fun wq hw => ?_, ?_⟩
  · obtain ⟨hw1, hw2, hw3, hw4, hw5, hw6, hw7⟩ := hw
    go_simp
    rfl
  simp only [Act.put, List.setIfInBounds_toArray, List.set_cons_zero, List.set_cons_succ]
  refine wpAnyH_read (i := 5) (some 17) rfl rfl (by kernel_rfl) (by kernel_rfl) (by kernel_rfl) (fun _ _ _ h => h) rfl HS ?_
  apply Exists.intro
  refine ⟨fun wq hw => ?_, ?_⟩
  · obtain ⟨hw1, hw2, hw3, hw4, hw5, hw6, hw7⟩ := hw
    go_simp
    rfl
  simp only [Act.put, List.setIfInBounds_toArray, List.set_cons_zero, List.set_cons_succ]
  refine wpAnyH_read (i := 6) (some 18) rfl rfl (by kernel_rfl) (by kernel_rfl) (by kernel_rfl) (fun _ _ _ h => h) rfl HS ?_
  apply Exists.intro
  refine ⟨fun wq hw => ?_, ?_⟩
  · obtain ⟨hw1, hw2, hw3, hw4, hw5, hw6, hw7⟩ := hw
    go_simp
    rfl
  simp only [Act.put, List.setIfInBounds_toArray, List.set_cons_zero, List.set_cons_succ]
  refine wpAnyH_read (i := 7) (some 19) rfl rfl (by kernel_rfl) (by kernel_rfl) (by kernel_rfl) (fun _ _ _ h => h) rfl HS ?_
  apply Exists.intro
  refine ⟨fun wq hw => ?_, ?_⟩
  · obtain ⟨hw1, hw2, hw3, hw4, hw5, hw6, hw7⟩ := hw
    go_simp
    rfl
  simp only [Act.put, List.setIfInBounds_toArray, List.set_cons_zero, List.set_cons_succ]
  refine wpAnyH_read (i := 8) (some 20) rfl rfl (by kernel_rfl) (by kernel_rfl) (by kernel_rfl) (fun _ _ _ h => h) rfl HS ?_
  apply Exists.intro
  refine ⟨fun wq hw => ?_, ?_⟩
  · obtain ⟨hw1, hw2, hw3, hw4, hw5, hw6, hw7⟩ := hw
    go_simp
    rfl
  simp only [Act.put, List.setIfInBounds_toArray, List.set_cons_zero, List.set_cons_succ]
  refine wpAnyH_read (i := 9) (some 21) rfl rfl (by kernel_rfl) (by kernel_rfl) (by kernel_rfl) (fun _ _ _ h => h) rfl HS ?_
  apply Exists.intro
  refine ⟨fun wq hw => ?_, ?_⟩
  · obtain ⟨hw1, hw2, hw3, hw4, hw5, hw6, hw7⟩ := hw
    go_simp
    rfl
  simp only [Act.put, List.setIfInBounds_toArray, List.set_cons_zero, List.set_cons_succ]
  refine wpAnyH_read (i := 10) (some 22) rfl rfl (by kernel_rfl) (by kernel_rfl) (by kernel_rfl) (fun _ _ _ h => h) rfl HS ?_
  apply Exists.intro
  refine ⟨fun wq hw => ?_, ?_⟩
  · obtain ⟨hw1, hw2, hw3, hw4, hw5, hw6, hw7⟩ := hw
    go_simp
    rfl
  simp only [Act.put, List.setIfInBounds_toArray, List.set_cons_zero, List.set_cons_succ]
  refine wpAnyH_read (i := 11) (some 23) rfl rfl (by kernel_rfl) (by kernel_rfl) (by kernel_rfl) (fun _ _ _ h => h) rfl HS ?_
  apply Exists.intro
  refine ⟨fun wq hw => ?_, ?_⟩
  · obtain ⟨hw1, hw2, hw3, hw4, hw5, hw6, hw7⟩ := hw
    go_simp
    rfl
  simp only [Act.put, List.setIfInBounds_toArray, List.set_cons_zero, List.set_cons_succ]
  refine wpAnyH_read (i := 12) (some 24) rfl rfl (by kernel_rfl) (by kernel_rfl) (by kernel_rfl) (fun _ _ _ h => h) rfl HS ?_
  apply Exists.intro
  refine ⟨fun wq hw => ?_, ?_⟩
  · obtain ⟨hw1, hw2, hw3, hw4, hw5, hw6, hw7⟩ := hw
    go_simp
    rfl
  simp only [Act.put, List.setIfInBounds_toArray, List.set_cons_zero, List.set_cons_succ]
  refine wpAnyH_read (i := 13) (some 25) rfl rfl (by kernel_rfl) (by kernel_rfl) (by kernel_rfl) (fun _ _ _ h => h) rfl HS ?_
  apply Exists.intro
  refine ⟨fun wq hw => ?_, ?_⟩
  · obtain ⟨hw1, hw2, hw3, hw4, hw5, hw6, hw7⟩ := hw
    go_simp
    rfl
  simp only [Act.put, List.setIfInBounds_toArray, List.set_cons_zero, List.set_cons_succ]
  refine wpAnyH_read (i := 14) (some 26) rfl rfl (by kernel_rfl) (by kernel_rfl) (by kernel_rfl) (fun _ _ _ h => h) rfl HS ?_
  apply Exists.intro
  refine ⟨fun wq hw => ?_, ?_⟩
  · obtain ⟨hw1, hw2, hw3, hw4, hw5, hw6, hw7⟩ := hw
    go_simp
    rfl
  simp only [Act.put, List.setIfInBounds_toArray, List.set_cons_zero, List.set_cons_succ]
  refine wpAnyH_read (i := 15) (some 27) rfl rfl (by kernel_rfl) (by kernel_rfl) (by kernel_rfl) (fun _ _ _ h => h) rfl HS ?_
  apply Exists.intro
  refine ⟨fun wq hw => ?_, ?_⟩
  · obtain ⟨hw1, hw2, hw3, hw4, hw5, hw6, hw7⟩ := hw
    go_simp
    rfl
  simp only [Act.put, List.setIfInBounds_toArray, List.set_cons_zero, List.set_cons_succ]
  refine wpAnyH_read (i := 16) (some 28) rfl rfl (by kernel_rfl) (by kernel_rfl) (by kernel_rfl) (fun _ _ _ h => h) rfl HS ?_
  apply Exists.intro
  refine ⟨fun wq hw => ?_, ?_⟩
  · obtain ⟨hw1, hw2, hw3, hw4, hw5, hw6, hw7⟩ := hw
    go_simp
    rfl
  simp only [Act.put, List.setIfInBounds_toArray, List.set_cons_zero, List.set_cons_succ]
  refine wpAnyH_read (i := 17) (some 29) rfl rfl (by kernel_rfl) (by kernel_rfl) (by kernel_rfl) (fun _ _ _ h => h) rfl HS ?_
  apply Exists.intro
  refine ⟨fun wq hw => ?_, ?_⟩
  · obtain ⟨hw1, hw2, hw3, hw4, hw5, hw6, hw7⟩ := hw
    go_simp
    rfl
  simp only [Act.put, List.setIfInBounds_toArray, List.set_cons_zero, List.set_cons_succ]
  clear HS
  have ltb := lt_of_cell t3
  have lmb := lt_of_cell c3
  refine wpAnyH_one (i := 18) (by kernel_rfl) rfl rfl fun K' hK' => ?_
  go_simp
  refine hK' _ _ ⟨(one_cell' w _ _ 3 lmb).trans c3, (one_cell' w _ _ _ ltb).trans t0, (one_cell' w _ _ _ ltb).trans t3, (one_cell' w _ _ _ (by omega)).trans q0, (one_cell' w _ _ _ (by omega)).trans q1, (one_cell' w _ _ _ (by omega)).trans q2, (one_cell' w _ _ _ (by omega)).trans q3⟩ ?_
  clear hK' K'
  have HS : (w.drew.alloc (.cells #[.int .i64 0, .int .i64 0, .int .i64 0, .int .i64 0] 49)).cell? ⟨mb, 3, none⟩ = some (.slice (some ⟨tb, 0, none⟩) st.n tc) ∧ (w.drew.alloc (.cells #[.int .i64 0, .int .i64 0, .int .i64 0, .int .i64 0] 49)).cell? ⟨tb, i * 9, none⟩ = some (.slice (some ⟨ob, oo, none⟩) (st.ops i).length oc) ∧ (w.drew.alloc (.cells #[.int .i64 0, .int .i64 0, .int .i64 0, .int .i64 0] 49)).cell? ⟨tb, i * 9 + 3, none⟩ = some (.int .i64 (st.at_ i)) ∧ (w.drew.alloc (.cells #[.int .i64 0, .int .i64 0, .int .i64 0, .int .i64 0] 49)).cell? ⟨ob, oo + st.at_ i * 4, none⟩ = some (.int .i64 kd) ∧ (w.drew.alloc (.cells #[.int .i64 0, .int .i64 0, .int .i64 0, .int .i64 0] 49)).cell? ⟨ob, oo + st.at_ i * 4 + 1, none⟩ = some (.int .i64 oa) ∧ (w.drew.alloc (.cells #[.int .i64 0, .int .i64 0, .int .i64 0, .int .i64 0] 49)).cell? ⟨ob, oo + st.at_ i * 4 + 2, none⟩ = some (.int .i64 ob_) ∧ (w.drew.alloc (.cells #[.int .i64 0, .int .i64 0, .int .i64 0, .int .i64 0] 49)).cell? ⟨ob, oo + st.at_ i * 4 + 3, none⟩ = some (.int .i64 oc_) := ⟨(one_cell' w _ _ 3 lmb).trans c3, (one_cell' w _ _ _ ltb).trans t0, (one_cell' w _ _ _ ltb).trans t3, (one_cell' w _ _ _ (by omega)).trans q0, (one_cell' w _ _ _ (by omega)).trans q1, (one_cell' w _ _ _ (by omega)).trans q2, (one_cell' w _ _ _ (by omega)).trans q3⟩
  refine wpAnyH_read (i := 19) none rfl rfl (by kernel_rfl) (by kernel_rfl) (by kernel_rfl) (fun _ _ _ h => h) rfl HS ?_
  apply Exists.intro
  refine ⟨fun wq hw => ?_, ?_⟩
  · go_simp
    rfl
  simp only [Act.put]
  clear HS
  refine wpAnyH_done (by kernel_rfl) ?_ _
  simp only [Exit.then]
  refine wpOps_list (m := 19) rfl ?_
  obtain ⟨b5, hb⟩ : ∃ b5, b5 = w.heap.size := ⟨_, rfl⟩
  have hb5 : Blk (w.alloc (.cells #[.int .i64 0, .int .i64 0, .int .i64 0, .int .i64 0] 49)).drew b5 _ _ := hb ▸ Blk.new w 49 #[.int .i64 0, .int .i64 0, .int .i64 0, .int .i64 0]
  have bw : Below B w (w.alloc (.cells #[.int .i64 0, .int .i64 0, .int .i64 0, .int .i64 0] 49)).drew := Below.drewN ((Below.refl _ _).alloc hB _) 1
  have hsame : ∀ b, b < b5 → (w.alloc (.cells #[.int .i64 0, .int .i64 0, .int .i64 0, .int .i64 0] 49)).drew.heap[b]? = w.heap[b]? := fun b h => Below.heap_alloc _ _ _ (by omega)
  have HBV := Lib.hid bw
  have HSA := Lib.hid hsame
  clear bw hsame c3 t0 t3 q0 q1 q2 q3 lmb ltb
  rw [← hb]
  generalize World.drew _ = v at *
  have hB5 : B ≤ b5 := by omega
  have HBB := Lib.hid hb
  have HB5 := Lib.hid hb5
  have o0 := hb5.cell 0
  have o1 := hb5.cell 1
  have o2 := hb5.cell 2
  have o3 := hb5.cell 3
  have oz := hb5.frozen 0
  have oz1 := hb5.frozen 1
  have oz2 := hb5.frozen 2
  have oz3 := hb5.frozen 3
  simp at o0 o1 o2 o3
  clear hb hb5
  go_wp2
  refine hK.out _ _ ?_
  clear hK K o0 o1 o2 o3 oz oz1 oz2 oz3
  have hb6 := (((HB5.out.set_ 0 (.int .i64 kd)).set_ 1 (.int .i64 oa)).set_ 2 (.int .i64 ob_)).set_ 3 (.int .i64 oc_)
  simp only [List.setIfInBounds_toArray, List.set_cons_zero, List.set_cons_succ] at hb6
  have bw := (((HBV.out.setCell (p := ⟨b5, 0, none⟩) hB5 (.int .i64 kd)).setCell (p := ⟨b5, 1, none⟩) hB5 (.int .i64 oa)).setCell (p := ⟨b5, 2, none⟩) hB5 (.int .i64 ob_)).setCell (p := ⟨b5, 3, none⟩) hB5 (.int .i64 oc_)
  have hsame : ∀ b, b < w.heap.size → ((((v.setCell ⟨b5, 0, none⟩ (.int .i64 kd)).setCell ⟨b5, 1, none⟩ (.int .i64 oa)).setCell ⟨b5, 2, none⟩ (.int .i64 ob_)).setCell ⟨b5, 3, none⟩ (.int .i64 oc_)).heap[b]? = w.heap[b]? := fun b h => by
    have hne : b ≠ b5 := by have := HBB.out; omega
    rw [Below.heap_setCell _ _ _ _ hne, Below.heap_setCell _ _ _ _ hne, Below.heap_setCell _ _ _ _ hne, Below.heap_setCell _ _ _ _ hne]
    exact HSA.out b (by have := HBB.out; omega)
  generalize World.setCell _ _ _ = u at hb6 bw hsame ⊢
  have hm := mems_new HM.out 7 (d := opRow b5 kd oa ob_ oc_) hsame (row_blk hb6 hB5 _ fun j hj => by rcases j with _ | _ | _ | _ | j <;> simp [opF] at hj ⊢; omega) (fun b hb => by cases hb; show w.heap.size ≤ b5; have := HBB.out; omega)
  have HBU := Lib.hid bw
  clear HM HBV HSA HB5 hsame bw hb6
  have c3 : u.cell? ⟨mb, 3, none⟩ = some (.slice (some ⟨tb, 0, none⟩) st.n tc) := by have := bcell hm 3 (by omega); rw [this]; exact congrArg some HT.out
  have t5 : u.cell? ⟨tb, i * 9 + 5, none⟩ = some (.int .i64 (st.q i)) := tcell hm HT.out hi 5 (by omega)
  have t4 : u.cell? ⟨tb, i * 9 + 4, none⟩ = some (.int .i64 (st.pc i)) := tcell hm HT.out hi 4 (by omega)
  have z4 : u.frozen? ⟨tb, i * 9 + 4, none⟩ = false := tfrozen hm HT.out (i * 9 + 4)
  have HSL := Lib.hid (show Calls Try.prog 45 #[.pointer (some ⟨mb, 0, none⟩), .int .i64 (st.q i)] u fun e w' => e = .returned (.int .i64 (st.q i % (st.size : Int))) ∧ u = w' from refslot_ok hm h0 h2 _ HG.out)
  have HLA := Lib.hid (show Calls Try.prog 44 #[.pointer (some ⟨mb, 0, none⟩), .int .i64 (st.q i)] u fun e w' => e = .returned (.int .i64 (st.q i / (st.size : Int))) ∧ u = w' from reflap_ok hm h0 h2 _ HG.out)
  have HM := Lib.hid hm
  clear hm
  refine wp_cut fun K hK => ?_
  go_wp2
  refine hK.out _ _ ?_
  clear hK K
  refine wp_cut fun K hK => ?_
  go_wp2_with (first | (go_at_call 45; refine HSL.out.mono ?_; rintro e w' ⟨rfl, rfl⟩) | (go_at_call 44; refine HLA.out.mono ?_; rintro e w' ⟨rfl, rfl⟩))
  refine hK.out _ _ ?_
  clear hK K HSL HLA
  refine wp_cut fun K hK => ?_
  go_wp2
  refine hK.out _ _ ?_
  clear hK K
  refine wp_cut fun K hK => ?_
  go_wp2
  refine hK.out _ _ ?_
  clear hK K
  have hm2 := tsetPc HM.out HT.out hi (st.pc i + 1) (.inl hpc)
  have hb2 := HBU.out.setCell (p := ⟨tb, i * 9 + 4, none⟩) (HM.out.lt (r := .T) rfl (by rw [HT.out]; rfl)).1 (.int .i64 ((st.pc i + 1 : Nat) : Int))
  rw [show ((st.pc i : Int) + 1) = ((st.pc i + 1 : Nat) : Int) from by omega]
  clear HM HBU c3 t4 t5 z4
  generalize World.setCell _ _ _ = z at *
  have HM : Hid (Mems B (memOf mb ((st.stand i (st.pc i + 1)).withX (upd st.X 7 (some (opRow b5 kd oa ob_ oc_)))) V oV) z) := Lib.hid hm2
  have HBZ := Lib.hid hb2
  have hBz : B ≤ z.heap.size := Nat.le_trans hB hb2.size
  clear hm2 hb2
  obtain ⟨l, hl⟩ : ∃ l, l = st.q i / (st.size : Int) := ⟨_, rfl⟩
  rw [← hl] at hd0 hd1 ⊢
  obtain ⟨k, hk⟩ : ∃ k : Nat, st.q i % (st.size : Int) = k := ⟨_, (Int.toNat_of_nonneg hb0).symm⟩
  rw [hk] at hb0 hb1 ⊢
  have hk' : k < st.size := by omega
  have HL : Hid (st.lap (st.q i) = l) := Lib.hid hl.symm
  have HK := Lib.hid (show st.slot (st.q i) = k by unfold RM.slot; rw [hk]; rfl)
  clear hl hk
  have hm := HM.out
  have k0 := hm.cell (r := .ext 7) (e := 49) (sz := 4) (g := b5) (cap := 1) (n := 1) (f := opF kd oa ob_ oc_) (by show upd st.X 7 (some (opRow b5 kd oa ob_ oc_)) 7 = _; rw [upd_same]; rfl) (show 0 < 1 * 4 by omega)
  have k1 := hm.cell (r := .ext 7) (e := 49) (sz := 4) (g := b5) (cap := 1) (n := 1) (f := opF kd oa ob_ oc_) (by show upd st.X 7 (some (opRow b5 kd oa ob_ oc_)) 7 = _; rw [upd_same]; rfl) (show 1 < 1 * 4 by omega)
  have k2 := hm.cell (r := .ext 7) (e := 49) (sz := 4) (g := b5) (cap := 1) (n := 1) (f := opF kd oa ob_ oc_) (by show upd st.X 7 (some (opRow b5 kd oa ob_ oc_)) 7 = _; rw [upd_same]; rfl) (show 2 < 1 * 4 by omega)
  have k3 := hm.cell (r := .ext 7) (e := 49) (sz := 4) (g := b5) (cap := 1) (n := 1) (f := opF kd oa ob_ oc_) (by show upd st.X 7 (some (opRow b5 kd oa ob_ oc_)) 7 = _; rw [upd_same]; rfl) (show 3 < 1 * 4 by omega)
  simp only [opF] at k0 k1 k2 k3
  clear hm
  have hfin : ∀ (m' : RM) (w' : World), m'.X = st.X → RMem B mb oV (m'.withX (upd st.X 7 (some (opRow b5 kd oa ob_ oc_)))) w' → RMem B mb oV m' w' := fun m' w' hx h => RMem.drop (k := 7) (d := opRow b5 kd oa ob_ oc_) (by rw [hx]; exact h) (by rw [hx]; exact hX)
  have HF := Lib.hid hfin
  clear hfin
  by_cases c1 : kd = 1
  · subst c1
    obtain hp | hp | hp : st.pc i = 1 ∨ st.pc i = 2 ∨ st.pc i = 3 := by omega
    · rw [show st.step i ⟨1, oa, ob_, oc_⟩ = { st.stand i (st.pc i + 1) with S := upd st.S k (2 * l - 1) } by simp [RM.step, hp, HK.out, HL.out]; rfl]
      have hm := HM.out
      have c1 : z.cell? ⟨mb, 1, none⟩ = some (.slice (some ⟨sb, 0, none⟩) st.size sc) := by have := bcell hm 1 (by omega); rw [this]; exact congrArg some HS_.out
      have c2 : z.cell? ⟨mb, 2, none⟩ = some (.slice (some ⟨vb, 0, none⟩) st.size vc) := by have := bcell hm 2 (by omega); rw [this]; exact congrArg some HV_.out
      have s0 : z.cell? ⟨sb, k, none⟩ = some (.int .i64 (st.S k)) := hm.cell (r := .S) (e := 2) (sz := 1) (n := st.size) (cap := sc) (f := fun j => .int .i64 (st.S j)) (by simp only [memOf, RM.withX, RM.stand, HS_.out]) (by omega)
      have v0 : z.cell? ⟨vb, k, none⟩ = some (.int .i64 (st.V k)) := hm.cell (r := .V) (e := 2) (sz := 1) (n := st.size) (cap := vc) (f := fun j => .int .i64 (st.V j)) (by simp only [memOf, RM.withX, RM.stand, HV_.out]) (by omega)
      have zs := hm.frozen (r := .S) (e := 2) (sz := 1) (g := sb) (n := st.size) (cap := sc) (f := fun j => .int .i64 (st.S j)) (by simp only [memOf, RM.withX, RM.stand, HS_.out]) k
      have zv := hm.frozen (r := .V) (e := 2) (sz := 1) (g := vb) (n := st.size) (cap := vc) (f := fun j => .int .i64 (st.V j)) (by simp only [memOf, RM.withX, RM.stand, HV_.out]) k
      have f1 : ((st.pc i : Int) == 1) = true := by simp [hp]
      have hm3 := HF.out { st.stand i (st.pc i + 1) with S := upd st.S k (2 * l - 1) } _ rfl ⟨V, sset hm HS_.out hk' (2 * l - 1)⟩
      have HM3 := Lib.hid hm3
      have HB3 := Lib.hid (HBZ.out.setCell (p := ⟨sb, k, none⟩) (hm.lt (r := .S) rfl (by simp only [HS_.out]; rfl)).1 (.int .i64 (2 * l - 1)))
      clear hm hm3 hp
      go_wp2
      go_end0
      exact ⟨rfl, HM3.out, HB3.out⟩
    · rw [show st.step i ⟨1, oa, ob_, oc_⟩ = { st.stand i (st.pc i + 1) with V := upd st.V k ob_ } by simp [RM.step, hp, HK.out]; rfl]
      have hm := HM.out
      have c1 : z.cell? ⟨mb, 1, none⟩ = some (.slice (some ⟨sb, 0, none⟩) st.size sc) := by have := bcell hm 1 (by omega); rw [this]; exact congrArg some HS_.out
      have c2 : z.cell? ⟨mb, 2, none⟩ = some (.slice (some ⟨vb, 0, none⟩) st.size vc) := by have := bcell hm 2 (by omega); rw [this]; exact congrArg some HV_.out
      have s0 : z.cell? ⟨sb, k, none⟩ = some (.int .i64 (st.S k)) := hm.cell (r := .S) (e := 2) (sz := 1) (n := st.size) (cap := sc) (f := fun j => .int .i64 (st.S j)) (by simp only [memOf, RM.withX, RM.stand, HS_.out]) (by omega)
      have v0 : z.cell? ⟨vb, k, none⟩ = some (.int .i64 (st.V k)) := hm.cell (r := .V) (e := 2) (sz := 1) (n := st.size) (cap := vc) (f := fun j => .int .i64 (st.V j)) (by simp only [memOf, RM.withX, RM.stand, HV_.out]) (by omega)
      have zs := hm.frozen (r := .S) (e := 2) (sz := 1) (g := sb) (n := st.size) (cap := sc) (f := fun j => .int .i64 (st.S j)) (by simp only [memOf, RM.withX, RM.stand, HS_.out]) k
      have zv := hm.frozen (r := .V) (e := 2) (sz := 1) (g := vb) (n := st.size) (cap := vc) (f := fun j => .int .i64 (st.V j)) (by simp only [memOf, RM.withX, RM.stand, HV_.out]) k
      have f1 : ((st.pc i : Int) == 1) = false := by simp [hp]
      have f2 : ((st.pc i : Int) == 2) = true := by simp [hp]
      have hm3 := HF.out { st.stand i (st.pc i + 1) with V := upd st.V k ob_ } (z.drew.setCell ⟨vb, k, none⟩ (.int .i64 ob_)) rfl ⟨V, vset (hm.same (w' := z.drew) fun _ _ => rfl) HV_.out hk' ob_⟩
      have HM3 := Lib.hid hm3
      have HB3 := Lib.hid ((show Below B w z.drew from Below.drewN HBZ.out 1).setCell (p := ⟨vb, k, none⟩) (hm.lt (r := .V) rfl (by simp only [HV_.out]; rfl)).1 (.int .i64 ob_))
      clear hm hm3 hp
      go_wp2_with fail
      refine wp_region_last (S := fun w' => w'.cell? ⟨mb, 2, none⟩ = some (.slice (some ⟨vb, 0, none⟩) st.size vc) ∧ w'.cell? ⟨b5, 2, none⟩ = some (.int .i64 ob_) ∧ True ∧ True ∧ True ∧ True ∧ True) 8 (by kernel_rfl) (by kernel_rfl) (by kernel_rfl) ?_
      simp only [idle, List.modify_toArray, List.modify_succ_cons, List.modify_zero_cons, List.size_toArray, List.length_cons, List.length_nil, Nat.reduceAdd]
      have HS : z.drew.cell? ⟨mb, 2, none⟩ = some (.slice (some ⟨vb, 0, none⟩) st.size vc) ∧ z.drew.cell? ⟨b5, 2, none⟩ = some (.int .i64 ob_) ∧ True ∧ True ∧ True ∧ True ∧ True := ⟨c2, k2, trivial, trivial, trivial, trivial, trivial⟩
      refine wpAnyH_read (i := 0) (some 79) rfl rfl (by kernel_rfl) (by kernel_rfl) (by kernel_rfl) (fun _ _ _ h => h) rfl HS ?_
      apply Exists.intro
      refine ⟨fun wq hw => ?_, ?_⟩
      · obtain ⟨hw1, hw2, hw3, hw4, hw5, hw6, hw7⟩ := hw
        go_simp
        rfl
      simp only [Act.put, List.setIfInBounds_toArray, List.set_cons_zero, List.set_cons_succ]
      refine wpAnyH_read (i := 1) (some 80) rfl rfl (by kernel_rfl) (by kernel_rfl) (by kernel_rfl) (fun _ _ _ h => h) rfl HS ?_
      apply Exists.intro
      refine ⟨fun wq hw => ?_, ?_⟩
      · obtain ⟨hw1, hw2, hw3, hw4, hw5, hw6, hw7⟩ := hw
        go_simp
        rfl
      simp only [Act.put, List.setIfInBounds_toArray, List.set_cons_zero, List.set_cons_succ]
      refine wpAnyH_read (i := 2) (some 81) rfl rfl (by kernel_rfl) (by kernel_rfl) (by kernel_rfl) (fun _ _ _ h => h) rfl HS ?_
      apply Exists.intro
      refine ⟨fun wq hw => ?_, ?_⟩
      · obtain ⟨hw1, hw2, hw3, hw4, hw5, hw6, hw7⟩ := hw
        go_simp
        rfl
      simp only [Act.put, List.setIfInBounds_toArray, List.set_cons_zero, List.set_cons_succ]
      refine wpAnyH_read (i := 3) (some 82) rfl rfl (by kernel_rfl) (by kernel_rfl) (by kernel_rfl) (fun _ _ _ h => h) rfl HS ?_
      apply Exists.intro
      refine ⟨fun wq hw => ?_, ?_⟩
      · obtain ⟨hw1, hw2, hw3, hw4, hw5, hw6, hw7⟩ := hw
        go_simp
        rfl
      simp only [Act.put, List.setIfInBounds_toArray, List.set_cons_zero, List.set_cons_succ]
      refine wpAnyH_read (i := 4) (some 83) rfl rfl (by kernel_rfl) (by kernel_rfl) (by kernel_rfl) (fun _ _ _ h => h) rfl HS ?_
      apply Exists.intro
      refine ⟨fun wq hw => ?_, ?_⟩
      · obtain ⟨hw1, hw2, hw3, hw4, hw5, hw6, hw7⟩ := hw
        go_simp
        rfl
      simp only [Act.put, List.setIfInBounds_toArray, List.set_cons_zero, List.set_cons_succ]
      refine wpAnyH_read (i := 5) (some 84) rfl rfl (by kernel_rfl) (by kernel_rfl) (by kernel_rfl) (fun _ _ _ h => h) rfl HS ?_
      apply Exists.intro
      refine ⟨fun wq hw => ?_, ?_⟩
      · obtain ⟨hw1, hw2, hw3, hw4, hw5, hw6, hw7⟩ := hw
        go_simp
        rfl
      simp only [Act.put, List.setIfInBounds_toArray, List.set_cons_zero, List.set_cons_succ]
      refine wpAnyH_read (i := 6) (some 85) rfl rfl (by kernel_rfl) (by kernel_rfl) (by kernel_rfl) (fun _ _ _ h => h) rfl HS ?_
      apply Exists.intro
      refine ⟨fun wq hw => ?_, ?_⟩
      · obtain ⟨hw1, hw2, hw3, hw4, hw5, hw6, hw7⟩ := hw
        go_simp
        rfl
      simp only [Act.put, List.setIfInBounds_toArray, List.set_cons_zero, List.set_cons_succ]
      refine wpAnyH_read (i := 7) (some 86) rfl rfl (by kernel_rfl) (by kernel_rfl) (by kernel_rfl) (fun _ _ _ h => h) rfl HS ?_
      apply Exists.intro
      refine ⟨fun wq hw => ?_, ?_⟩
      · obtain ⟨hw1, hw2, hw3, hw4, hw5, hw6, hw7⟩ := hw
        go_simp
        rfl
      simp only [Act.put, List.setIfInBounds_toArray, List.set_cons_zero, List.set_cons_succ]
      refine wpAnyH_read (i := 8) none rfl rfl (by kernel_rfl) (by kernel_rfl) (by kernel_rfl) (fun _ _ _ h => h) rfl HS ?_
      apply Exists.intro
      refine ⟨fun wq hw => ?_, ?_⟩
      · go_simp
        rfl
      simp only [Act.put]
      clear HS
      refine wpAnyH_done (by kernel_rfl) ?_ _
      simp only [Exit.then]
      refine wpOps_list (m := 8) rfl ?_
      have v0 : z.drew.cell? ⟨vb, k, none⟩ = some (.int .i64 (st.V k)) := v0
      have zv : z.drew.frozen? ⟨vb, k, none⟩ = false := zv
      generalize z.drew = z2 at *
      go_wp2
      go_end0
      exact ⟨rfl, HM3.out, HB3.out⟩
    · rw [show st.step i ⟨1, oa, ob_, oc_⟩ = ({ st.stand i (st.pc i + 1) with S := upd st.S k (2 * l) } : RM).end_ i ⟨true, 0, []⟩ by simp [RM.step, hp, HK.out, HL.out]; rfl]
      have hm := HM.out
      have c1 : z.cell? ⟨mb, 1, none⟩ = some (.slice (some ⟨sb, 0, none⟩) st.size sc) := by have := bcell hm 1 (by omega); rw [this]; exact congrArg some HS_.out
      have c2 : z.cell? ⟨mb, 2, none⟩ = some (.slice (some ⟨vb, 0, none⟩) st.size vc) := by have := bcell hm 2 (by omega); rw [this]; exact congrArg some HV_.out
      have s0 : z.cell? ⟨sb, k, none⟩ = some (.int .i64 (st.S k)) := hm.cell (r := .S) (e := 2) (sz := 1) (n := st.size) (cap := sc) (f := fun j => .int .i64 (st.S j)) (by simp only [memOf, RM.withX, RM.stand, HS_.out]) (by omega)
      have v0 : z.cell? ⟨vb, k, none⟩ = some (.int .i64 (st.V k)) := hm.cell (r := .V) (e := 2) (sz := 1) (n := st.size) (cap := vc) (f := fun j => .int .i64 (st.V j)) (by simp only [memOf, RM.withX, RM.stand, HV_.out]) (by omega)
      have zs := hm.frozen (r := .S) (e := 2) (sz := 1) (g := sb) (n := st.size) (cap := sc) (f := fun j => .int .i64 (st.S j)) (by simp only [memOf, RM.withX, RM.stand, HS_.out]) k
      have zv := hm.frozen (r := .V) (e := 2) (sz := 1) (g := vb) (n := st.size) (cap := vc) (f := fun j => .int .i64 (st.V j)) (by simp only [memOf, RM.withX, RM.stand, HV_.out]) k
      have f1 : ((st.pc i : Int) == 1) = false := by simp [hp]
      have f2 : ((st.pc i : Int) == 2) = false := by simp [hp]
      have f3 : ((st.pc i : Int) == 3) = true := by simp [hp]
      have HM3 := Lib.hid (sset hm HS_.out hk' (2 * l))
      have HB3 := Lib.hid (HBZ.out.setCell (p := ⟨sb, k, none⟩) (hm.lt (r := .S) rfl (by simp only [HS_.out]; rfl)).1 (.int .i64 (2 * l)))
      clear hm hp
      go_wp2_with (go_at_call 58; refine (refend_ok _ (Nat.le_trans hB HB3.out.size) HM3.out hi hn hat hans ⟨true, 0, []⟩ (.slice none 0 0) ⟨none, 0, rfl⟩ (.inl ⟨rfl, rfl⟩)).mono ?_; rintro e w' ⟨rfl, hm4, hb4⟩)
      go_end0
      exact ⟨rfl, HF.out (({ st.stand i (st.pc i + 1) with S := upd st.S k (2 * l) } : RM).end_ i ⟨true, 0, []⟩) _ rfl hm4, HB3.out.trans hb4⟩
  have f1 : (kd == 1) = false := by simpa using c1
  by_cases c25 : kd = 2 ∨ kd = 5
  · obtain ⟨r, hr⟩ : ∃ r, r = (st.stand i (st.pc i + 1)).get i (st.pc i) := ⟨_, rfl⟩
    have hs2 : kd = 2 → st.step i ⟨kd, oa, ob_, oc_⟩ = if r.2.2.2 = true then (if r.2.2.1 = 0 then r.1.end_ i ⟨true, r.2.1, []⟩ else r.1.end_ i ⟨false, r.2.2.1, []⟩) else r.1 := fun e => by simp [RM.step, e, hr]
    have hs5 : kd = 5 → st.step i ⟨kd, oa, ob_, oc_⟩ = if r.2.2.2 = true then r.1.gathered i ⟨kd, oa, ob_, oc_⟩ r.2.1 r.2.2.1 else r.1 := fun e => by simp [RM.step, e, hr]
    have hg0 := refget_ok z hBz ⟨V, HM.out⟩ hi hn h0 h2 HG.out (st.pc i) (by omega) hp3
    rw [RM.get_X, ← hr] at hg0
    obtain ⟨g1_, g2_, g3_, g4_, g5_, g6_, g7_, -, -, -⟩ := get_same (st.stand i (st.pc i + 1)) i (st.pc i)
    have gX := (RM.same_get (st.stand i (st.pc i + 1)) i (st.pc i)).X
    rw [← hr] at g1_ g2_ g3_ g4_ g5_ g6_ g7_ gX
    have hgn : r.1.n = st.n := g1_
    have hga : r.1.at_ i = st.at_ i := congrFun g2_ i
    have hgs : r.1.ans i = st.ans i := congrFun g3_ i
    have hgp : r.1.pc i ≠ 0 := by rw [g4_]; show upd st.pc i (st.pc i + 1) i ≠ 0; rw [upd_same]; omega
    have hgz : r.1.size = st.size := g5_
    have hge : r.1.seen i = st.seen i := congrFun g6_ i
    have hgq : r.1.q i = st.q i := congrFun g7_ i
    have hgX : r.1.X = st.X := gX
    clear hr g1_ g2_ g3_ g4_ g5_ g6_ g7_ gX
    obtain ⟨m1, v, e, ov⟩ := r
    dsimp only at hs2 hs5 hg0 hgn hga hgs hgp hgz hge hgq hgX
    have HG0 := Lib.hid hg0
    have HS2 := Lib.hid hs2
    have HS5 := Lib.hid hs5
    have HGE := Lib.hid (And.intro hgn (And.intro hga (And.intro hgs (And.intro hgp (And.intro hgz (And.intro hge (And.intro hgq hgX)))))))
    clear hg0 hs2 hs5 hgn hga hgs hgp hgz hge hgq hgX
    by_cases c2 : kd = 2
    · subst c2
      have EG := Lib.hid (HS2.out rfl)
      clear HS2 HS5 c25
      go_wp2_with fail
      refine HG0.out.mono ?_
      rintro e_ y ⟨rfl, ⟨V3, hm⟩, hb3⟩
      have hBy := Nat.le_trans hBz hb3.size
      clear k0 k1 k2 k3
      have k0 := hm.cell (r := .ext 7) (e := 49) (sz := 4) (g := b5) (cap := 1) (n := 1) (f := opF 2 oa ob_ oc_) (by show upd st.X 7 (some (opRow b5 2 oa ob_ oc_)) 7 = _; rw [upd_same]; rfl) (show 0 < 1 * 4 by omega)
      have k1 := hm.cell (r := .ext 7) (e := 49) (sz := 4) (g := b5) (cap := 1) (n := 1) (f := opF 2 oa ob_ oc_) (by show upd st.X 7 (some (opRow b5 2 oa ob_ oc_)) 7 = _; rw [upd_same]; rfl) (show 1 < 1 * 4 by omega)
      have k2 := hm.cell (r := .ext 7) (e := 49) (sz := 4) (g := b5) (cap := 1) (n := 1) (f := opF 2 oa ob_ oc_) (by show upd st.X 7 (some (opRow b5 2 oa ob_ oc_)) 7 = _; rw [upd_same]; rfl) (show 2 < 1 * 4 by omega)
      have k3 := hm.cell (r := .ext 7) (e := 49) (sz := 4) (g := b5) (cap := 1) (n := 1) (f := opF 2 oa ob_ oc_) (by show upd st.X 7 (some (opRow b5 2 oa ob_ oc_)) 7 = _; rw [upd_same]; rfl) (show 3 < 1 * 4 by omega)
      simp only [opF] at k0 k1 k2 k3
      have HM3 := Lib.hid hm
      have HB3 := Lib.hid (HBZ.out.trans hb3)
      clear hm hb3
      obtain ⟨hgn, hga, hgs, hgp, hgz, hge, hgq, hgX⟩ := HGE.out
      cases ov with
      | false =>
        have EG2 := Lib.hid (EG.out.trans (if_neg (by simp)))
        go_wp2
        go_end0
        exact ⟨rfl, by rw [EG2.out]; exact HF.out _ _ hgX ⟨V3, HM3.out⟩, HB3.out⟩
      | true =>
        have EG2 := Lib.hid (EG.out.trans (if_pos rfl))
        by_cases ce : e = 0
        · subst ce
          have EG3 := Lib.hid (EG2.out.trans (if_pos rfl))
          go_wp2_with fail
          refine (refend_ok _ hBy HM3.out (Nat.lt_of_lt_of_eq hi hgn.symm) (Nat.le_trans (Nat.le_of_eq hgn) hn) (Nat.lt_of_le_of_lt (Nat.le_of_eq hga) hat) (by show (m1.ans i).length < 65536; rw [hgs]; exact hans) ⟨true, v, []⟩ (.slice none 0 0) ⟨none, 0, rfl⟩ (.inl ⟨rfl, rfl⟩)).mono ?_
          rintro e_ y2 ⟨rfl, ⟨V4, hm⟩, hb4⟩
          clear k0 k1 k2 k3
          have k0 := hm.cell (r := .ext 7) (e := 49) (sz := 4) (g := b5) (cap := 1) (n := 1) (f := opF 2 oa ob_ oc_) (by show upd st.X 7 (some (opRow b5 2 oa ob_ oc_)) 7 = _; rw [upd_same]; rfl) (show 0 < 1 * 4 by omega)
          have k1 := hm.cell (r := .ext 7) (e := 49) (sz := 4) (g := b5) (cap := 1) (n := 1) (f := opF 2 oa ob_ oc_) (by show upd st.X 7 (some (opRow b5 2 oa ob_ oc_)) 7 = _; rw [upd_same]; rfl) (show 1 < 1 * 4 by omega)
          have k2 := hm.cell (r := .ext 7) (e := 49) (sz := 4) (g := b5) (cap := 1) (n := 1) (f := opF 2 oa ob_ oc_) (by show upd st.X 7 (some (opRow b5 2 oa ob_ oc_)) 7 = _; rw [upd_same]; rfl) (show 2 < 1 * 4 by omega)
          have k3 := hm.cell (r := .ext 7) (e := 49) (sz := 4) (g := b5) (cap := 1) (n := 1) (f := opF 2 oa ob_ oc_) (by show upd st.X 7 (some (opRow b5 2 oa ob_ oc_)) 7 = _; rw [upd_same]; rfl) (show 3 < 1 * 4 by omega)
          simp only [opF] at k0 k1 k2 k3
          have HM4 := Lib.hid hm
          clear hm
          go_wp2
          go_end0
          exact ⟨rfl, by rw [EG3.out]; exact HF.out (m1.end_ i ⟨true, v, []⟩) _ hgX ⟨V4, HM4.out⟩, HB3.out.trans hb4⟩
        · have fe : (e == 0) = false := by simpa using ce
          have fn : (e != 0) = true := by simpa using ce
          have EG3 := Lib.hid (EG2.out.trans (if_neg ce))
          go_wp2_with fail
          refine (refend_ok _ hBy HM3.out (Nat.lt_of_lt_of_eq hi hgn.symm) (Nat.le_trans (Nat.le_of_eq hgn) hn) (Nat.lt_of_le_of_lt (Nat.le_of_eq hga) hat) (by show (m1.ans i).length < 65536; rw [hgs]; exact hans) ⟨false, e, []⟩ (.slice none 0 0) ⟨none, 0, rfl⟩ (.inl ⟨rfl, rfl⟩)).mono ?_
          rintro e_ y2 ⟨rfl, ⟨V4, hm⟩, hb4⟩
          clear k0 k1 k2 k3
          have k0 := hm.cell (r := .ext 7) (e := 49) (sz := 4) (g := b5) (cap := 1) (n := 1) (f := opF 2 oa ob_ oc_) (by show upd st.X 7 (some (opRow b5 2 oa ob_ oc_)) 7 = _; rw [upd_same]; rfl) (show 0 < 1 * 4 by omega)
          have k1 := hm.cell (r := .ext 7) (e := 49) (sz := 4) (g := b5) (cap := 1) (n := 1) (f := opF 2 oa ob_ oc_) (by show upd st.X 7 (some (opRow b5 2 oa ob_ oc_)) 7 = _; rw [upd_same]; rfl) (show 1 < 1 * 4 by omega)
          have k2 := hm.cell (r := .ext 7) (e := 49) (sz := 4) (g := b5) (cap := 1) (n := 1) (f := opF 2 oa ob_ oc_) (by show upd st.X 7 (some (opRow b5 2 oa ob_ oc_)) 7 = _; rw [upd_same]; rfl) (show 2 < 1 * 4 by omega)
          have k3 := hm.cell (r := .ext 7) (e := 49) (sz := 4) (g := b5) (cap := 1) (n := 1) (f := opF 2 oa ob_ oc_) (by show upd st.X 7 (some (opRow b5 2 oa ob_ oc_)) 7 = _; rw [upd_same]; rfl) (show 3 < 1 * 4 by omega)
          simp only [opF] at k0 k1 k2 k3
          have HM4 := Lib.hid hm
          clear hm
          go_wp2
          go_end0
          exact ⟨rfl, by rw [EG3.out]; exact HF.out (m1.end_ i ⟨false, e, []⟩) _ hgX ⟨V4, HM4.out⟩, HB3.out.trans hb4⟩
    · have c5 : kd = 5 := c25.resolve_left c2
      subst c5
      have EG := Lib.hid (HS5.out rfl)
      clear HS2 HS5 c25
      go_wp2_with fail
      refine HG0.out.mono ?_
      rintro e_ y ⟨rfl, ⟨V3, hm⟩, hb3⟩
      have hBy := Nat.le_trans hBz hb3.size
      clear k0 k1 k2 k3
      have k0 := hm.cell (r := .ext 7) (e := 49) (sz := 4) (g := b5) (cap := 1) (n := 1) (f := opF 5 oa ob_ oc_) (by show upd st.X 7 (some (opRow b5 5 oa ob_ oc_)) 7 = _; rw [upd_same]; rfl) (show 0 < 1 * 4 by omega)
      have k1 := hm.cell (r := .ext 7) (e := 49) (sz := 4) (g := b5) (cap := 1) (n := 1) (f := opF 5 oa ob_ oc_) (by show upd st.X 7 (some (opRow b5 5 oa ob_ oc_)) 7 = _; rw [upd_same]; rfl) (show 1 < 1 * 4 by omega)
      have k2 := hm.cell (r := .ext 7) (e := 49) (sz := 4) (g := b5) (cap := 1) (n := 1) (f := opF 5 oa ob_ oc_) (by show upd st.X 7 (some (opRow b5 5 oa ob_ oc_)) 7 = _; rw [upd_same]; rfl) (show 2 < 1 * 4 by omega)
      have k3 := hm.cell (r := .ext 7) (e := 49) (sz := 4) (g := b5) (cap := 1) (n := 1) (f := opF 5 oa ob_ oc_) (by show upd st.X 7 (some (opRow b5 5 oa ob_ oc_)) 7 = _; rw [upd_same]; rfl) (show 3 < 1 * 4 by omega)
      simp only [opF] at k0 k1 k2 k3
      have HM3 := Lib.hid hm
      have HB3 := Lib.hid (HBZ.out.trans hb3)
      clear hm hb3
      obtain ⟨hgn, hga, hgs, hgp, hgz, hge, hgq, hgX⟩ := HGE.out
      cases ov with
      | false =>
        have EG2 := Lib.hid (EG.out.trans (if_neg (by simp)))
        go_wp2
        go_end0
        exact ⟨rfl, by rw [EG2.out]; exact HF.out _ _ hgX ⟨V3, HM3.out⟩, HB3.out⟩
      | true =>
        have EG2 := Lib.hid (EG.out.trans (if_pos rfl))
        have q1 : i < (m1.withX (upd st.X 7 (some (opRow b5 5 oa ob_ oc_)))).n := Nat.lt_of_lt_of_eq hi hgn.symm
        have q2 : (m1.withX (upd st.X 7 (some (opRow b5 5 oa ob_ oc_)))).n ≤ 64 := Nat.le_trans (Nat.le_of_eq hgn) hn
        have q3 : (m1.withX (upd st.X 7 (some (opRow b5 5 oa ob_ oc_)))).at_ i < 65536 := Nat.lt_of_le_of_lt (Nat.le_of_eq hga) hat
        have q4 : ((m1.withX (upd st.X 7 (some (opRow b5 5 oa ob_ oc_)))).ans i).length < 65536 := by show (m1.ans i).length < 65536; rw [hgs]; exact hans
        have q5 : (m1.withX (upd st.X 7 (some (opRow b5 5 oa ob_ oc_)))).size = st.size := hgz
        have q6 : ((m1.withX (upd st.X 7 (some (opRow b5 5 oa ob_ oc_)))).seen i).length < 65536 := by show (m1.seen i).length < 65536; rw [hge]; omega
        have q7 : GoodI ((m1.withX (upd st.X 7 (some (opRow b5 5 oa ob_ oc_)))).q i) := by show GoodI (m1.q i); rw [hgq]; exact HG.out
        have HQ := Lib.hid (And.intro q1 (And.intro q2 (And.intro q3 (And.intro q4 (And.intro q5 (And.intro q6 q7))))))
        clear q1 q2 q3 q4 q5 q6 q7
        by_cases ce : e = 0
        · subst ce
          go_wp2_with (go_at_call 60; obtain ⟨q1, q2, q3, q4, q5, q6, q7⟩ := HQ.out; refine (refgath_yes _ hBy HM3.out q1 q2 q3 q4 hgp (by rw [q5]; exact h0) (by rw [q5]; exact h2) q7 ⟨5, oa, ob_, oc_⟩ v q6).mono ?_; rintro e w' ⟨rfl, hm4, hb4⟩)
          go_end0
          exact ⟨rfl, by rw [EG2.out]; rw [RM.gathered_X] at hm4; exact HF.out _ _ ((RM.same_gathered m1 i _ v 0).X.trans hgX) hm4, HB3.out.trans hb4⟩
        · go_wp2_with (go_at_call 60; obtain ⟨q1, q2, q3, q4, q5, q6, q7⟩ := HQ.out; refine (refgath_no _ hBy HM3.out q1 q2 q3 q4 hgp (by rw [q5]; exact h2) ⟨5, oa, ob_, oc_⟩ v e ce q6).mono ?_; rintro e w' ⟨rfl, hm4, hb4⟩)
          go_end0
          exact ⟨rfl, by rw [EG2.out]; rw [RM.gathered_X] at hm4; exact HF.out _ _ ((RM.same_gathered m1 i _ v e).X.trans hgX) hm4, HB3.out.trans hb4⟩
  have f2 : (kd == 2) = false := by simp; omega
  have f5 : (kd == 5) = false := by simp; omega
  by_cases c3' : kd = 3
  · subst c3'
    have hm := HM.out
    have c1 : z.cell? ⟨mb, 1, none⟩ = some (.slice (some ⟨sb, 0, none⟩) st.size sc) := by have := bcell hm 1 (by omega); rw [this]; exact congrArg some HS_.out
    have c2 : z.cell? ⟨mb, 2, none⟩ = some (.slice (some ⟨vb, 0, none⟩) st.size vc) := by have := bcell hm 2 (by omega); rw [this]; exact congrArg some HV_.out
    have s0 : z.cell? ⟨sb, k, none⟩ = some (.int .i64 (st.S k)) := hm.cell (r := .S) (e := 2) (sz := 1) (n := st.size) (cap := sc) (f := fun j => .int .i64 (st.S j)) (by simp only [memOf, RM.withX, RM.stand, HS_.out]) (by omega)
    have v0 : z.cell? ⟨vb, k, none⟩ = some (.int .i64 (st.V k)) := hm.cell (r := .V) (e := 2) (sz := 1) (n := st.size) (cap := vc) (f := fun j => .int .i64 (st.V j)) (by simp only [memOf, RM.withX, RM.stand, HV_.out]) (by omega)
    have zs := hm.frozen (r := .S) (e := 2) (sz := 1) (g := sb) (n := st.size) (cap := sc) (f := fun j => .int .i64 (st.S j)) (by simp only [memOf, RM.withX, RM.stand, HS_.out]) k
    have zv := hm.frozen (r := .V) (e := 2) (sz := 1) (g := vb) (n := st.size) (cap := vc) (f := fun j => .int .i64 (st.V j)) (by simp only [memOf, RM.withX, RM.stand, HV_.out]) k
    rw [show st.step i ⟨3, oa, ob_, oc_⟩ = (st.stand i (st.pc i + 1)).end_ i ⟨st.S k == 2 * l, 0, []⟩ by simp [RM.step, HK.out, HL.out]; rfl]
    have t3 : z.cell? ⟨mb, 3, none⟩ = some (.slice (some ⟨tb, 0, none⟩) st.n tc) := by have := bcell hm 3 (by omega); rw [this]; exact congrArg some HT.out
    clear hm
    generalize hb : (st.S k == 2 * l) = bb at *
    go_wp2_with (go_at_call 58; refine (refend_ok _ hBz HM.out hi hn hat hans ⟨bb, 0, []⟩ (.slice none 0 0) ⟨none, 0, rfl⟩ (.inl ⟨rfl, rfl⟩)).mono ?_; rintro e w' ⟨rfl, hm4, hb4⟩)
    go_end0
    exact ⟨rfl, HF.out ((st.stand i (st.pc i + 1)).end_ i ⟨bb, 0, []⟩) _ rfl hm4, HBZ.out.trans hb4⟩
  have f3 : (kd == 3) = false := by simpa using c3'
  have c4 : kd = 4 := by omega
  subst c4
  have hm := HM.out
  have t3 : z.cell? ⟨mb, 3, none⟩ = some (.slice (some ⟨tb, 0, none⟩) st.n tc) := by have := bcell hm 3 (by omega); rw [this]; exact congrArg some HT.out
  have t4 : z.cell? ⟨tb, i * 9 + 4, none⟩ = some (.int .i64 ((st.pc i + 1 : Nat) : Int)) := by have := tcell hm HT.out hi 4 (by omega); rw [this]; simp [thF, RM.withX, RM.stand, upd_same]
  have z4 := tfrozen hm HT.out (i * 9 + 4)
  have hp0 : ((st.stand i (st.pc i + 1)).withX (upd st.X 7 (some (opRow b5 4 oa ob_ oc_)))).pc i ≠ 0 := by show upd st.pc i (st.pc i + 1) i ≠ 0; rw [upd_same]; omega
  have hm2 : Mems B (memOf mb (((st.stand i (st.pc i + 1)).stand i 1).withX (upd st.X 7 (some (opRow b5 4 oa ob_ oc_)))) V oV) (z.setCell ⟨tb, i * 9 + 4, none⟩ (.int .i64 1)) := tsetPc hm HT.out hi 1 (.inl hp0)
  have hb2 := HBZ.out.setCell (p := ⟨tb, i * 9 + 4, none⟩) (hm.lt (r := .T) rfl (by rw [HT.out]; rfl)).1 (.int .i64 1)
  have HM2 := Lib.hid hm2
  have HB2 := Lib.hid hb2
  have ES : st.step i ⟨4, oa, ob_, oc_⟩ = if st.S k ≠ 2 * l then ((st.stand i (st.pc i + 1)).stand i 1).end_ i ⟨true, st.q i - 1, []⟩ else if st.q i = ob_ ∨ ¬ GoodI (st.q i + 1) ∨ oa + st.size ≤ st.q i + 1 then ({ (st.stand i (st.pc i + 1)).stand i 1 with q := upd st.q i (st.q i + 1) } : RM).end_ i ⟨true, st.q i, []⟩ else { (st.stand i (st.pc i + 1)).stand i 1 with q := upd st.q i (st.q i + 1) } := by
    simp [RM.step, HK.out, HL.out]; rfl
  have ES := Lib.hid ES
  have hBz2 := Nat.le_trans hBz (show z.heap.size ≤ (z.setCell ⟨tb, i * 9 + 4, none⟩ (.int .i64 1)).heap.size by simp [World.setCell])
  have hz : ∃ y, y = z.setCell ⟨tb, i * 9 + 4, none⟩ (.int .i64 1) := ⟨_, rfl⟩
  obtain ⟨y, hy⟩ := hz
  rw [← hy] at hm2 hb2 hBz2
  have d3 : y.cell? ⟨mb, 3, none⟩ = some (.slice (some ⟨tb, 0, none⟩) st.n tc) := by have := bcell hm2 3 (by omega); rw [this]; exact congrArg some HT.out
  have d1 : y.cell? ⟨mb, 1, none⟩ = some (.slice (some ⟨sb, 0, none⟩) st.size sc) := by have := bcell hm2 1 (by omega); rw [this]; exact congrArg some HS_.out
  have s0 : y.cell? ⟨sb, k, none⟩ = some (.int .i64 (st.S k)) := hm2.cell (r := .S) (e := 2) (sz := 1) (n := st.size) (cap := sc) (f := fun j => .int .i64 (st.S j)) (by simp only [memOf, RM.withX, RM.stand, HS_.out]) (by omega)
  have d5 : y.cell? ⟨tb, i * 9 + 5, none⟩ = some (.int .i64 (st.q i)) := tcell hm2 HT.out hi 5 (by omega)
  have z5 : y.frozen? ⟨tb, i * 9 + 5, none⟩ = false := tfrozen hm2 HT.out (i * 9 + 5)
  have hm3 : Mems B (memOf mb (({ (st.stand i (st.pc i + 1)).stand i 1 with q := upd st.q i (st.q i + 1) } : RM).withX (upd st.X 7 (some (opRow b5 4 oa ob_ oc_)))) V oV) (y.setCell ⟨tb, i * 9 + 5, none⟩ (.int .i64 (st.q i + 1))) := tsetQ hm2 HT.out hi (st.q i + 1)
  have hb3 := hb2.setCell (p := ⟨tb, i * 9 + 5, none⟩) (hm2.lt (r := .T) rfl (by rw [HT.out]; rfl)).1 (.int .i64 (st.q i + 1))
  have hBz3 := Nat.le_trans hBz2 (show y.heap.size ≤ (y.setCell ⟨tb, i * 9 + 5, none⟩ (.int .i64 (st.q i + 1))).heap.size by simp [World.setCell])
  have HM2 := Lib.hid hm2
  have HB2 := Lib.hid hb2
  have HY := Lib.hid hy
  clear hm hm2 hb2 hp0 hy
  refine wp_cut fun K hK => ?_
  go_wp2
  refine hK.out _ _ ?_
  clear hK K k0 k1 k2 k3
  have hz : ∃ y2, y2 = y.setCell ⟨tb, i * 9 + 5, none⟩ (.int .i64 (st.q i + 1)) := ⟨_, rfl⟩
  obtain ⟨y2, hy2⟩ := hz
  rw [← hy2] at hm3 hb3 hBz3
  have hm := hm3
  have k1 := hm.cell (r := .ext 7) (e := 49) (sz := 4) (g := b5) (cap := 1) (n := 1) (f := opF 4 oa ob_ oc_) (by show upd st.X 7 (some (opRow b5 4 oa ob_ oc_)) 7 = _; rw [upd_same]; rfl) (show 1 < 1 * 4 by omega)
  have k2 := hm.cell (r := .ext 7) (e := 49) (sz := 4) (g := b5) (cap := 1) (n := 1) (f := opF 4 oa ob_ oc_) (by show upd st.X 7 (some (opRow b5 4 oa ob_ oc_)) 7 = _; rw [upd_same]; rfl) (show 2 < 1 * 4 by omega)
  simp only [opF] at k1 k2
  have e0 : y2.cell? ⟨mb, 0, none⟩ = some (.int .i64 st.size) := bcell hm3 0 (by omega)
  have HM3 := Lib.hid hm3
  have HB3 := Lib.hid hb3
  have HY2 := Lib.hid hy2
  clear hm hm3 hb3 hy2
  have hga := HGA.out.2
  have hga0 := HGA.out.1
  by_cases cs : st.S k = 2 * l
  · have fs : (st.S k != 2 * l) = false := by simp [cs]
    have ES2 := Lib.hid (ES.out.trans (if_neg (by simpa using cs)))
    clear cs
    by_cases ca : st.q i = ob_
    · have fa : (st.q i == ob_) = true := by simpa using ca
      have ES3 := Lib.hid (ES2.out.trans (if_pos (.inl ca)))
      clear ca
      rw [ES3.out]
      go_wp2_with (first | rw [← HY.out] | rw [← HY2.out])
      try rw [← HY.out]
      try rw [← HY2.out]
      go_quiet (first | (go_at_call 17; exact quietS (HGD.out _)))
      go_wp2_with (go_at_call 58; refine (refend_ok (y2.drewN nq) hBz3 (HM3.out.drewN nq) hi hn hat hans ⟨true, st.q i, []⟩ (.slice none 0 0) ⟨none, 0, rfl⟩ (.inl ⟨rfl, rfl⟩)).mono ?_; rintro e w' ⟨rfl, hm4, hb4⟩)
      go_end0
      exact ⟨rfl, HF.out (({ (st.stand i (st.pc i + 1)).stand i 1 with q := upd st.q i (st.q i + 1) } : RM).end_ i ⟨true, st.q i, []⟩) _ rfl hm4, (Below.drewN HB3.out nq).trans hb4⟩
    · have fa : (st.q i == ob_) = false := by simpa using ca
      by_cases cg : GoodI (st.q i + 1)
      · have HGD := Lib.hid (show ∀ x, Calls Try.prog 17 #[.int .i64 (st.q i + 1)] x fun e w' => e = .returned (.bool true) ∧ x = w' from fun x => by have := refgood_ok (st.q i + 1) x; rw [decide_eq_true cg] at this; exact this)
        by_cases cz : oa + (st.size : Int) ≤ st.q i + 1
        · have fz : decide (oa + (st.size : Int) ≤ st.q i + 1) = true := decide_eq_true cz
          have ES3 := Lib.hid (ES2.out.trans (if_pos (.inr (.inr cz))))
          clear cz cg ca
          rw [ES3.out]
          go_wp2_with (first | rw [← HY.out] | rw [← HY2.out])
          try rw [← HY.out]
          try rw [← HY2.out]
          go_quiet (first | (go_at_call 17; exact quietS (HGD.out _)))
          go_wp2_with (go_at_call 58; refine (refend_ok (y2.drewN nq) hBz3 (HM3.out.drewN nq) hi hn hat hans ⟨true, st.q i, []⟩ (.slice none 0 0) ⟨none, 0, rfl⟩ (.inl ⟨rfl, rfl⟩)).mono ?_; rintro e w' ⟨rfl, hm4, hb4⟩)
          go_end0
          exact ⟨rfl, HF.out (({ (st.stand i (st.pc i + 1)).stand i 1 with q := upd st.q i (st.q i + 1) } : RM).end_ i ⟨true, st.q i, []⟩) _ rfl hm4, (Below.drewN HB3.out nq).trans hb4⟩
        · have fz : decide (oa + (st.size : Int) ≤ st.q i + 1) = false := decide_eq_false cz
          have ES3 := Lib.hid (ES2.out.trans (if_neg (fun h => h.elim ca fun h => h.elim (fun h => h cg) cz)))
          clear cz cg ca
          rw [ES3.out]
          go_wp2_with (first | rw [← HY.out] | rw [← HY2.out])
          try rw [← HY.out]
          try rw [← HY2.out]
          go_quiet (first | (go_at_call 17; exact quietS (HGD.out _)))
          go_wp2
          go_end0
          exact ⟨rfl, HF.out _ _ rfl ⟨V, HM3.out.drewN nq⟩, Below.drewN HB3.out nq⟩
      · have HGD := Lib.hid (show ∀ x, Calls Try.prog 17 #[.int .i64 (st.q i + 1)] x fun e w' => e = .returned (.bool false) ∧ x = w' from fun x => by have := refgood_ok (st.q i + 1) x; rw [decide_eq_false cg] at this; exact this)
        have ES3 := Lib.hid (ES2.out.trans (if_pos (.inr (.inl cg))))
        clear cg ca
        rw [ES3.out]
        go_wp2_with (first | rw [← HY.out] | rw [← HY2.out])
        try rw [← HY.out]
        try rw [← HY2.out]
        go_quiet (first | (go_at_call 17; exact quietS (HGD.out _)))
        go_wp2_with (go_at_call 58; refine (refend_ok (y2.drewN nq) hBz3 (HM3.out.drewN nq) hi hn hat hans ⟨true, st.q i, []⟩ (.slice none 0 0) ⟨none, 0, rfl⟩ (.inl ⟨rfl, rfl⟩)).mono ?_; rintro e w' ⟨rfl, hm4, hb4⟩)
        go_end0
        exact ⟨rfl, HF.out (({ (st.stand i (st.pc i + 1)).stand i 1 with q := upd st.q i (st.q i + 1) } : RM).end_ i ⟨true, st.q i, []⟩) _ rfl hm4, (Below.drewN HB3.out nq).trans hb4⟩
  · have fs : (st.S k != 2 * l) = true := by simp [cs]
    have ES2 := Lib.hid (ES.out.trans (if_pos cs))
    clear cs
    rw [ES2.out]
    go_wp2_with (first | (rw [← HY.out]) | (go_at_call 58; refine (refend_ok _ hBz2 HM2.out hi hn hat hans ⟨true, st.q i - 1, []⟩ (.slice none 0 0) ⟨none, 0, rfl⟩ (.inl ⟨rfl, rfl⟩)).mono ?_; rintro e w' ⟨rfl, hm4, hb4⟩))
    refine bodyPost_ret (results_none rfl _ _ _) rfl ?_
    exact ⟨rfl, HF.out (((st.stand i (st.pc i + 1)).stand i 1).end_ i ⟨true, st.q i - 1, []⟩) _ rfl hm4, HB2.out.trans hb4⟩
end
end Go.Proofs.Yteainbnoemkfcaa
