/- DERIVED. As many subscriptions as places: the state behind each (package carillonlaw19: BusPlaces), in plain terms. -/
import Derived.Test.YtbmjmamodnapiaaGreatDoorBpH
import Derived.Test.YtbmjmamodnapiaaGreatDoorBusS
namespace Go.Proofs.YtbmjmamodnapiaaGreatDoor
open Go.RowKit
set_option linter.unusedVariables false
theorem TopicAt.row {w w' : World} {B n : Nat} {S : TSt} {Z : Nat → Prop} (h : TopicAt w B n S) (k : Kept Z w w') (hz : ∀ x, Z x → B + 8 < x ∧ ∃ U, B + 8 < U ∧ w.cell? ⟨x, 0, none⟩ = some (.pointer (some ⟨U, 0, none⟩))) : TopicAt w' B n S := by
  have z : ∀ y, y ≤ B + 8 → ¬ Z y := fun y h1 e => by have := (hz y e).1; omega
  refine ⟨h.ring.kept k (z _ (by omega)) (z _ (by omega)), h.cw.kept k (z _ (by omega)), h.sw.kept k (z _ (by omega)), h.mul.kept k (z _ (by omega)), h.pw.kept k (z _ (by omega)), h.pl.kept k (z _ (by omega)), h.gate.kept k (z _ (by omega)), h.top.kept k (z _ (by omega)), ?_⟩
  rcases h.mem with hm | ⟨K, L, c, h1, h2, h3, h4, h5, h6, h7⟩
  · exact .inl hm
  · refine .inr ⟨K, L, c, h1, h2.kept k (fun e => ?_), h3, h4, h5, h6, fun i hi => cell_keep (h7 i hi) k (fun e => ?_)⟩
    · obtain ⟨-, U, -, hU⟩ := hz K e
      have := h2.cell 0
      rw [hU] at this
      cases this
    · obtain ⟨-, U, -, hU⟩ := hz L e
      have := h7 0 (by omega)
      rw [hU] at this
      cases this
theorem SubAt.row {w w' : World} {B u r i : Nat} {kd a b : Int} {Z : Nat → Prop} (h : SubAt w u (B + 8) r kd a b i) (k : Kept Z w w') (hz : ∀ x, Z x → B + 8 < x ∧ ∃ U, B + 8 < U ∧ w.cell? ⟨x, 0, none⟩ = some (.pointer (some ⟨U, 0, none⟩))) : SubAt w' u (B + 8) r kd a b i := Blk.kept h k fun e => by
  obtain ⟨-, U, h1, hU⟩ := hz u e
  have := Blk.cell h 0
  rw [hU] at this
  have e2 : some (Value.pointer (some ⟨U, 0, none⟩)) = some (Value.pointer (some ⟨B + 8, 0, none⟩)) := this
  injection e2 with e2; injection e2 with e2; injection e2 with e2; injection e2 with e2
  omega
theorem RdAt.row {w w' : World} {B r i : Nat} {j : Bool} {q : Int} {Z : Nat → Prop} (h : RdAt w r (B + 4) (B + 7) i j q) (k : Kept Z w w') (hz : ∀ x, Z x → B + 8 < x ∧ ∃ U, B + 8 < U ∧ w.cell? ⟨x, 0, none⟩ = some (.pointer (some ⟨U, 0, none⟩))) : RdAt w' r (B + 4) (B + 7) i j q := Blk.kept h k fun e => by
  obtain ⟨-, U, h1, hU⟩ := hz r e
  have := Blk.cell h 0
  rw [hU] at this
  have e2 : some (Value.pointer (some ⟨U, 0, none⟩)) = some (Value.pointer (some ⟨B + 4, 0, none⟩)) := this
  injection e2 with e2; injection e2 with e2; injection e2 with e2; injection e2 with e2
  omega
/-- The members: the first i places. -/
def mlI (i : Nat) : List Int := (List.range i).map fun j : Nat => (j : Int)
theorem mlI_length (i : Nat) : (mlI i).length = i := by simp [mlI]
theorem mlI_get (i j : Nat) (h : j < (mlI i).length) : (mlI i)[j] = (j : Int) := by simp [mlI]
theorem mlI_succ (i : Nat) : mlI (i + 1) = mlI i ++ [(i : Int)] := by simp [mlI, List.range_succ]
theorem mlI_not (i : Nat) : (i : Int) ∉ mlI i := by simp [mlI]; omega
/-- The topic behind i subscriptions. -/
def stI (gp : Option Addr) (i : Nat) : TSt := { TSt.new 5 with gp := gp, ml := mlI i, word := wordI i }
theorem stI_zero : TSt.new 5 = stI none 0 := rfl
def ptrs (us : Nat → Nat) (i : Nat) : List Value := (List.range i).map fun j => .pointer (some ⟨us j, 0, none⟩)
/-- Behind i subscriptions. -/
structure PlS (w0 : World) (B i : Nat) (us rs : Nat → Nat) (sv : Value) (w : World) : Prop where
  kept : Kept (fun x => x = B + 5 ∨ x = B + 7) w0 w
  top : ∃ gp, TopicAt w B 2 (stI gp i)
  row : w.ownsRow w0.heap.size 41 1 sv i (ptrs us i)
  none_ : i = 0 → sv = .slice none 0 0
  sub : ∀ j, j < i → SubAt w (us j) (B + 8) (rs j) 3 2 0 j ∧ RdAt w (rs j) (B + 4) (B + 7) j true 0 ∧ w0.heap.size ≤ us j ∧ w0.heap.size ≤ rs j
theorem PlS.start {w0 : World} {B : Nat} (h : TopicAt w0 B 2 (TSt.new 5)) (us rs : Nat → Nat) : PlS w0 B 0 us rs (.slice none 0 0) w0 :=
  ⟨Kept.refl _ _, ⟨none, h⟩, ⟨rfl, .inl ⟨rfl, rfl⟩⟩, fun _ => rfl, fun j hj => absurd hj (by omega)⟩
def put1 (f : Nat → Nat) (i x : Nat) : Nat → Nat := fun j => if j = i then x else f j
/-- One more subscribed, not yet in the row. -/
theorem PlS.more {w0 : World} {B i : Nat} {us rs : Nat → Nat} {sv : Value} {w w' : World} {u r K : Nat} (h : PlS w0 B i us rs sv w) (hB : B + 8 < w0.heap.size) (k : Kept (fun x => x = B + 5 ∨ x = B + 7) w w') (t : TopicAt w' B 2 (stI (some ⟨K, 0, none⟩) (i + 1))) (s : SubAt w' u (B + 8) r 3 2 0 i) (rd : RdAt w' r (B + 4) (B + 7) i true 0) (l1 : w.heap.size ≤ u) (l2 : w.heap.size ≤ r) :
    Kept (fun x => x = B + 5 ∨ x = B + 7) w0 w' ∧ (∃ gp, TopicAt w' B 2 (stI gp (i + 1))) ∧ w'.ownsRow w0.heap.size 41 1 sv i (ptrs us i) ∧
      ∀ j, j < i + 1 → SubAt w' (put1 us i u j) (B + 8) (put1 rs i r j) 3 2 0 j ∧ RdAt w' (put1 rs i r j) (B + 4) (B + 7) j true 0 ∧ w0.heap.size ≤ put1 us i u j ∧ w0.heap.size ≤ put1 rs i r j := by
  have hs := h.kept.size
  refine ⟨h.kept.trans k, ⟨_, t⟩, own_kept h.row k (fun b hb => by omega), fun j hj => ?_⟩
  by_cases e : j = i
  · subst e
    simp only [put1, if_true]
    exact ⟨s, rd, by omega, by omega⟩
  · obtain ⟨q1, q2, q3, q4⟩ := h.sub j (by omega)
    simp only [put1, if_neg e]
    exact ⟨Blk.kept q1 k (by omega), Blk.kept q2 k (by omega), q3, q4⟩
theorem ptrs_more (us : Nat → Nat) (i u : Nat) : ptrs us i ++ [.pointer (some ⟨u, 0, none⟩)] = ptrs (put1 us i u) (i + 1) := by
  simp only [ptrs, List.range_succ, List.map_append, List.map_cons, List.map_nil]
  congr 1
  · refine List.map_congr_left fun j hj => ?_
    have : j ≠ i := by have := List.mem_range.1 hj; omega
    simp [put1, this]
  · simp [put1]
/-- And then in the row. -/
theorem PlS.push {w0 : World} {B i : Nat} {us us' rs' : Nat → Nat} {sv sv' : Value} {w w' : World} (hB : B + 8 < w0.heap.size) (k0 : Kept (fun x => x = B + 5 ∨ x = B + 7) w0 w) (t : ∃ gp, TopicAt w B 2 (stI gp (i + 1))) (o : w.ownsRow w0.heap.size 41 1 sv i (ptrs us i)) (hn : i = 0 → sv = .slice none 0 0) (hu : ∀ j, j < i → w0.heap.size ≤ us j)
    (s : ∀ j, j < i + 1 → SubAt w (us' j) (B + 8) (rs' j) 3 2 0 j ∧ RdAt w (rs' j) (B + 4) (B + 7) j true 0 ∧ w0.heap.size ≤ us' j ∧ w0.heap.size ≤ rs' j) (k : Kept (fun b => sv.ownBlock = some b) w w') (o' : w'.ownsRow w0.heap.size 41 1 sv' (i + 1) (ptrs us' (i + 1))) : PlS w0 B (i + 1) us' rs' sv' w' := by
  have hz : ∀ x, sv.ownBlock = some x → B + 8 < x ∧ ∃ U, B + 8 < U ∧ w.cell? ⟨x, 0, none⟩ = some (.pointer (some ⟨U, 0, none⟩)) := fun x hx => by
    have hl := (o.lt x hx).1
    refine ⟨by omega, ?_⟩
    by_cases e : i = 0
    · rw [hn e] at hx; cases hx
    · obtain ⟨A, c, rfl⟩ := own_slice o
      obtain ⟨L, rfl, -, -, -, -, h6⟩ := own_pos o (by omega)
      obtain rfl : L = x := by simpa [Value.ownBlock] using hx
      exact ⟨us 0, by have := hu 0 (by omega); omega, h6 0 _ (by simp [ptrs, show 0 < i by omega])⟩
  obtain ⟨gp, t⟩ := t
  refine ⟨k0.later k (fun x hx => (o.lt x hx).1), ⟨gp, t.row k hz⟩, o', fun e => by omega, fun j hj => ?_⟩
  obtain ⟨q1, q2, q3, q4⟩ := s j hj
  exact ⟨q1.row k hz, q2.row k hz, q3, q4⟩
theorem PlS.later {w0 : World} {B i : Nat} {us rs : Nat → Nat} {sv : Value} {w w' : World} (h : PlS w0 B i us rs sv w) (k : Kept (fun _ => False) w w') : PlS w0 B i us rs sv w' := by
  obtain ⟨gp, t⟩ := h.top
  refine ⟨h.kept.trans (k.mono fun _ _ z => z.elim), ⟨gp, t.kept (Z := fun _ => False) k (fun _ z => z.elim)⟩, own_kept h.row k (fun _ _ z => z), h.none_, fun j hj => ?_⟩
  obtain ⟨q1, q2, q3, q4⟩ := h.sub j hj
  exact ⟨Blk.kept q1 k id, Blk.kept q2 k id, q3, q4⟩
/-- Two of the subscriptions, and where the row has them. -/
structure Two (w0 : World) (B L u r u' r' k k' : Nat) (w : World) : Prop where
  ck : w.cell? ⟨L, k, none⟩ = some (.pointer (some ⟨u, 0, none⟩))
  ck' : w.cell? ⟨L, k', none⟩ = some (.pointer (some ⟨u', 0, none⟩))
  s : SubAt w u (B + 8) r 3 2 0 k
  rd : RdAt w r (B + 4) (B + 7) k true 0
  s' : SubAt w u' (B + 8) r' 3 2 0 k'
  rd' : RdAt w r' (B + 4) (B + 7) k' true 0
  lo : w0.heap.size ≤ L ∧ w0.heap.size ≤ u ∧ w0.heap.size ≤ r ∧ w0.heap.size ≤ u' ∧ w0.heap.size ≤ r'
  ne : u ≠ r ∧ u ≠ u' ∧ u ≠ r' ∧ r ≠ u' ∧ r ≠ r' ∧ u' ≠ r' ∧ L ≠ u ∧ L ≠ r ∧ L ≠ u' ∧ L ≠ r'
theorem sub_ne {w : World} {u u' t t' r r' k k' : Nat} {a b c a' b' c' : Int} (h : SubAt w u t r a b c k) (h' : SubAt w u' t' r' a' b' c' k') (hk : k ≠ k') : u ≠ u' := fun e => by
  subst e
  have h1 : w.cell? ⟨u, 4, none⟩ = some (.int .i64 k) := Blk.cell h 4
  have h2 : w.cell? ⟨u, 4, none⟩ = some (.int .i64 k') := Blk.cell h' 4
  rw [h1] at h2
  injection h2 with h2; injection h2 with _ h2; omega
theorem rd_ne {w : World} {r r' M M' G G' k k' : Nat} {j j' : Bool} {q q' : Int} (h : RdAt w r M G k j q) (h' : RdAt w r' M' G' k' j' q') (hk : k ≠ k') : r ≠ r' := fun e => by
  subst e
  have h1 : w.cell? ⟨r, 2, none⟩ = some (.int .i64 k) := Blk.cell h 2
  have h2 : w.cell? ⟨r, 2, none⟩ = some (.int .i64 k') := Blk.cell h' 2
  rw [h1] at h2
  injection h2 with h2; injection h2 with _ h2; omega
theorem PlS.two {w0 : World} {B : Nat} {us rs : Nat → Nat} {sA : Option Addr} {sc : Nat} {w : World} (h : PlS w0 B 64 us rs (.slice sA 64 sc) w) (hB : B + 8 < w0.heap.size) (k k' : Nat) (hk : k < 64) (hk' : k' < 64) (hne : k ≠ k') : ∃ L, sA = some ⟨L, 0, none⟩ ∧ 64 ≤ sc ∧ Two w0 B L (us k) (rs k) (us k') (rs k') k k' w := by
  obtain ⟨L, rfl, h1, h2, h3, h4, h5⟩ := own_pos h.row (by omega)
  have hc : ∀ j, j < 64 → w.cell? ⟨L, j, none⟩ = some (.pointer (some ⟨us j, 0, none⟩)) := fun j hj => h5 j _ (by simp [ptrs, hj])
  obtain ⟨a1, a2, a3, a4⟩ := h.sub k hk
  obtain ⟨b1, b2, b3, b4⟩ := h.sub k' hk'
  have z := (h.sub 0 (by omega)).2.2.1
  have hLs : ∀ u r i, SubAt w u (B + 8) r 3 2 0 i → L ≠ u := fun u r i hs e => by
    subst e
    have e1 : w.cell? ⟨L, 0, none⟩ = some (.pointer (some ⟨B + 8, 0, none⟩)) := Blk.cell hs 0
    rw [hc 0 (by omega)] at e1
    injection e1 with e2; injection e2 with e2; injection e2 with e2; injection e2 with e2
    omega
  have hLr : ∀ r i, RdAt w r (B + 4) (B + 7) i true 0 → L ≠ r := fun r i hs e => by
    subst e
    have e1 : w.cell? ⟨L, 0, none⟩ = some (.pointer (some ⟨B + 4, 0, none⟩)) := Blk.cell hs 0
    rw [hc 0 (by omega)] at e1
    injection e1 with e2; injection e2 with e2; injection e2 with e2; injection e2 with e2
    omega
  exact ⟨L, rfl, h2, hc k hk, hc k' hk', a1, a2, b1, b2, ⟨h1, a3, a4, b3, b4⟩, blk_ne a1 a2 (by decide), sub_ne a1 b1 hne, blk_ne a1 b2 (by decide), blk_ne a2 b1 (by decide), rd_ne a2 b2 hne, blk_ne b1 b2 (by decide), hLs _ _ _ a1, hLr _ _ a2, hLs _ _ _ b1, hLr _ _ b2⟩
theorem mlI_hole (n k : Nat) : (k : Int) ∉ (mlI n).eraseIdx k := fun h => by
  obtain ⟨i, h1, h2, h3⟩ := List.mem_eraseIdx_iff_getElem.1 h
  rw [mlI_get] at h3
  omega
theorem mlI_all (k : Nat) (hk : k < 64) (j : Nat) (h : j < ((mlI 64).eraseIdx k ++ [(k : Int)]).length) : ∃ i : Nat, i < 64 ∧ ((mlI 64).eraseIdx k ++ [(k : Int)])[j] = (i : Int) ∧ upd (fun _ => (-1 : Int)) k (-1) i = -1 := by
  have hm := List.getElem_mem h
  generalize ((mlI 64).eraseIdx k ++ [(k : Int)])[j] = y at hm
  have hu : ∀ i, upd (fun _ => (-1 : Int)) k (-1) i = -1 := fun i => by simp [upd]
  rcases List.mem_append.1 hm with h1 | h1
  · have h2 := List.mem_of_mem_eraseIdx h1
    simp only [mlI, List.mem_map, List.mem_range] at h2
    obtain ⟨i, h3, rfl⟩ := h2
    exact ⟨i, h3, rfl, hu i⟩
  · rw [List.mem_singleton] at h1
    exact ⟨k, hk, h1, hu k⟩
theorem mlI_diff (n k j : Nat) (hk : k < (mlI n).length) (hj : j < k) : (mlI n)[j]'(Nat.lt_trans hj hk) ≠ (mlI n)[k] := by
  rw [mlI_get n k hk, mlI_get n j (Nat.lt_trans hj hk)]
  omega
end Go.Proofs.YtbmjmamodnapiaaGreatDoor
