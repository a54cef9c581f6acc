/- DERIVED. Rows of one's own that are written over or appended to: what stays of the others. No program of this claim is in sight. -/
import Derived.Test.YtbmjmamodnapiaaGreatDoorMem
import Derived.Laws.AppendOwn
namespace Go.Proofs.YtbmjmamodnapiaaGreatDoor
open Go.RowKit
set_option linter.unusedVariables false
/-- Every own block stays what it is: its kind and its size. -/
def Shp (w w' : World) : Prop := ∀ (b : Nat) (c : Array Value) (t : TypeId), w.heap[b]? = some (.cells c t (0, 0)) → ∃ c' : Array Value, w'.heap[b]? = some (.cells c' t (0, 0)) ∧ c'.size = c.size
/-- And but for block g's cells from m on nothing in them turns. -/
def Pre (g : Option Nat) (m : Nat) (w w' : World) : Prop := ∀ (b : Nat) (c : Array Value) (t : TypeId), w.heap[b]? = some (.cells c t (0, 0)) → ∃ c' : Array Value, w'.heap[b]? = some (.cells c' t (0, 0)) ∧ c'.size = c.size ∧ ∀ j, (some b ≠ g ∨ j < m) → c'[j]? = c[j]?
section
variable {w w' w'' : World} {g : Option Nat} {m : Nat}
theorem Shp.refl (w : World) : Shp w w := fun b c t h => ⟨c, h, rfl⟩
theorem Shp.trans (h : Shp w w') (k : Shp w' w'') : Shp w w'' := fun b c t hb => by
  obtain ⟨c1, h1, s1⟩ := h b c t hb
  obtain ⟨c2, h2, s2⟩ := k b c1 t h1
  exact ⟨c2, h2, s2.trans s1⟩
theorem Pre.shp (h : Pre g m w w') : Shp w w' := fun b c t hb => by
  obtain ⟨c', h1, h2, -⟩ := h b c t hb
  exact ⟨c', h1, h2⟩
theorem Pre.of_same (h : ∀ b, b < w.heap.size → w'.heap[b]? = w.heap[b]?) : Pre g m w w' := fun b c t hb => ⟨c, (h b (Blk.lt (t := t) (cs := c) hb)).trans hb, rfl, fun _ _ => rfl⟩
theorem Shp.kept (h : Kept (fun _ => False) w w') : Shp w w' := (Pre.of_same (g := none) (m := 0) fun b hb => h.block b hb id).shp
theorem Shp.setCell (b i : Nat) (u : Value) (w : World) : Shp w (w.setCell ⟨b, i, none⟩ u) := fun k c t hk => by
  by_cases e : k = b
  · subst e
    exact ⟨_, Blk.set_ (t := t) (cs := c) hk i u, by simp⟩
  · exact ⟨c, Blk.far (t := t) (cs := c) hk (p := ⟨b, i, none⟩) e u, rfl⟩
theorem own_shp {base : Nat} {e : TypeId} {size n : Nat} {v : Value} {xs : List Value} (h : w.ownsRow base e size v n xs) (k : Shp w w') : ∃ xs', w'.ownsRow base e size v n xs' := by
  obtain ⟨h1, h2⟩ := h
  rcases h2 with ⟨rfl, rfl⟩ | ⟨b, cap, cur, hv, hb, hh, hnc, hm, hs, ht⟩
  · exact ⟨[], by simp, .inl ⟨rfl, rfl⟩⟩
  · obtain ⟨c', k1, k2⟩ := k b cur e hh
    refine ⟨c'.toList.take (n * size), ?_, .inr ⟨b, cap, c', hv, hb, k1, hnc, hm, k2.trans hs, rfl⟩⟩
    have : n * size ≤ cap * size := Nat.mul_le_mul_right _ hnc
    simp; omega
theorem own_pre {base : Nat} {e : TypeId} {size n : Nat} {v : Value} {xs : List Value} (h : w.ownsRow base e size v n xs) (k : Pre g m w w') (hm : v.ownBlock = g → n * size ≤ m) : w'.ownsRow base e size v n xs := by
  obtain ⟨h1, h2⟩ := h
  refine ⟨h1, ?_⟩
  rcases h2 with ⟨rfl, rfl⟩ | ⟨b, cap, cur, hv, hb, hh, hnc, hmx, hs, ht⟩
  · exact .inl ⟨rfl, rfl⟩
  · obtain ⟨c', k1, k2, k3⟩ := k b cur e hh
    refine .inr ⟨b, cap, c', hv, hb, k1, hnc, hmx, k2.trans hs, ?_⟩
    rw [← ht]
    apply List.ext_getElem?
    intro j
    by_cases hj : j < n * size
    · have := k3 j (by
        by_cases e : some b = g
        · subst hv
          exact .inr (Nat.lt_of_lt_of_le hj (hm e))
        · exact .inl e)
      simp [hj, this]
    · simp [List.getElem?_take, hj]
/-- Rows of different kinds lie in different blocks. -/
theorem own_ne {b1 b2 : Nat} {e1 e2 : TypeId} {s1 s2 n1 n2 : Nat} {v1 v2 : Value} {x1 x2 : List Value} (h1 : w.ownsRow b1 e1 s1 v1 n1 x1) (h2 : w.ownsRow b2 e2 s2 v2 n2 x2) (hne : e1 ≠ e2) {b : Nat} (k1 : v1.ownBlock = some b) (k2 : v2.ownBlock = some b) : False := by
  rcases h1.2 with ⟨rfl, _⟩ | ⟨g1, c1, u1, rfl, _, p1, _⟩
  · cases k1
  rcases h2.2 with ⟨rfl, _⟩ | ⟨g2, c2, u2, rfl, _, p2, _⟩
  · cases k2
  simp only [Value.ownBlock, Option.some.injEq] at k1 k2
  subst k1 k2
  rw [p1] at p2
  simp only [Option.some.injEq, Obj.cells.injEq] at p2
  exact hne p2.2.1
theorem own_lt {b1 : Nat} {e1 : TypeId} {s1 n1 : Nat} {v1 : Value} {x1 : List Value} (h1 : w.ownsRow b1 e1 s1 v1 n1 x1) {b : Nat} (k1 : v1.ownBlock = some b) : b1 ≤ b ∧ b < w.heap.size ∧ ∃ c, Blk w b e1 c := by
  rcases h1.2 with ⟨rfl, _⟩ | ⟨g1, c1, u1, rfl, q, p1, _⟩
  · cases k1
  simp only [Value.ownBlock, Option.some.injEq] at k1
  subst k1
  exact ⟨q, Blk.lt (t := e1) (cs := u1) p1, u1, p1⟩
theorem own_eq {base : Nat} {e : TypeId} {size n : Nat} {v : Value} {xs : List Value} (h : w.ownsRow base e size v n xs) (hs : ∀ b, v.ownBlock = some b → w'.heap[b]? = w.heap[b]?) : w'.ownsRow base e size v n xs := by
  obtain ⟨h1, h2⟩ := h
  refine ⟨h1, ?_⟩
  rcases h2 with h2 | ⟨b, cap, cur, hv, hb, hh, r⟩
  · exact .inl h2
  · exact .inr ⟨b, cap, cur, hv, hb, (hs b (by rw [hv]; rfl)).trans hh, r⟩
end
section
variable {P : Program} (w : World)
/-- Appending to a row of one's own. -/
theorem run_append_pre (base : Nat) (t ty e : TypeId) (i : TypeInfo) (z : Value) (size bytes : Nat) (ht : P.underlying t = some (.slice e)) (hi : P.info? e = some i) (hz : i.zero = some z)
    (hsize : i.size = size) (hby : i.bytes = bytes) (hzs : z.cells.size = size) (hsz : 0 < size)
    (v : Value) (n : Nat) (xs : List Value) (hown : w.ownsRow base e size v n xs)
    (A : Option Addr) (m c : Nat) (hA : A = none → c = 0) (hmc : m ≤ c) (news : List Value) (hl : news.length = m * size) (hnews : ∀ a, A = some a → ∀ j u, news[j]? = some u → w.cell? (a.add j) = some u) (h1 : ∀ u ∈ news, u.oneCell' = true)
    (h63 : n + m ≤ maxLen) (hbytes : (n + m) * bytes ≤ 140737488355328) (hbase : base ≤ w.heap.size) :
    ∃ v' w', (Builtin.append_ #[t, t] ty #[v, .slice A m c]).run P w = .ok v' w' ∧ w'.ownsRow base e size v' (n + m) (xs ++ news) ∧ Kept (fun b => v.ownBlock = some b) w w' ∧ Pre v.ownBlock (n * size) w w' ∧
      (v'.ownBlock = v.ownBlock ∨ ∀ b, v'.ownBlock = some b → w.heap.size ≤ b) ∧ (0 < n + m → v' ≠ .slice none 0 0) := by
  subst hsize
  subst hby
  cases A with
  | none =>
    obtain rfl := hA rfl
    obtain rfl : m = 0 := by omega
    have hn : news = [] := List.eq_nil_of_length_eq_zero (by simpa using hl)
    subst hn
    have hr : (Builtin.append_ #[t, t] ty #[v, .slice none 0 0]).run P w = .ok v w := by
      rcases hown.2 with ⟨rfl, rfl⟩ | ⟨g, cap, cur, rfl, _, _, hnc, _⟩
      · simp [Builtin.append_, run_underlying ht, sizeOf, typeInfo, hi, Builtin.lenOf, Builtin.firstCells]
      · simp [Builtin.append_, run_underlying ht, sizeOf, typeInfo, hi, Builtin.lenOf, Builtin.firstCells, hnc, storeCells]
    refine ⟨v, w, hr, by simpa using hown, Kept.refl _ _, Pre.of_same fun _ _ => rfl, .inl rfl, fun h e => ?_⟩
    rcases hown.2 with ⟨-, h2⟩ | ⟨g, cap, cur, hv, _⟩
    · omega
    · rw [e] at hv; cases hv
  | some a =>
    have hnews := hnews a rfl
    have hsmall : n + m ≤ 9223372036854775807 := by simp only [maxLen] at h63; omega
    have hlen : (xs ++ news).length = (n + m) * i.size := by rw [List.length_append, hown.1, hl, Nat.add_mul]
    have grown : ∀ (old : Nat), old < n + m → ∀ (S : Nat → Prop) (g : Option Nat) (k : Nat),
        (w.drew.alloc (.cells (xs.toArray ++ news.toArray ++ Builtin.zeroCells z.cells (grownCap w (n + m) old e - (n + m))) e)).ownsRow base e i.size
          (.slice (some ⟨w.heap.size, 0, none⟩) (n + m) (grownCap w (n + m) old e)) (n + m) (xs ++ news) ∧
        Kept S w (w.drew.alloc (.cells (xs.toArray ++ news.toArray ++ Builtin.zeroCells z.cells (grownCap w (n + m) old e - (n + m))) e)) ∧
        Pre g k w (w.drew.alloc (.cells (xs.toArray ++ news.toArray ++ Builtin.zeroCells z.cells (grownCap w (n + m) old e - (n + m))) e)) := by
      intro old ho S g k
      have hge := grownCap_ge w (n + m) old e
      have hcm : grownCap w (n + m) old e ≤ maxLen := grownCap_le_maxLen w (n + m) old e h63
      refine ⟨⟨hlen, .inr ⟨w.heap.size, _, _, rfl, hbase, heap_alloc_new w.drew _, hge, hcm, ?_, ?_⟩⟩, (Kept.drew w).trans (Kept.alloc _ _), Pre.of_same fun b hb => heap_alloc_old w.drew _ hb⟩
      · simp only [Array.size_append, List.size_toArray, size_zeroCells, hzs, hown.1, hl, ← Nat.add_mul]
        congr 1
        omega
      · simp only [Array.toList_append, List.append_assoc]
        rw [← List.append_assoc, ← hlen]
        exact List.take_left
    rcases hown.2 with ⟨rfl, rfl⟩ | ⟨g, cap, cur, rfl, hbg, hg, hnc, hcm, hcs, htake⟩
    · have hx : xs = [] := List.eq_nil_of_length_eq_zero (by simpa using hown.1)
      subst hx
      by_cases hm : m = 0
      · subst hm
        have hn : news = [] := List.eq_nil_of_length_eq_zero (by simpa using hl)
        subst hn
        refine ⟨.slice none 0 0, w, ?_, World.ownsRow_nil w base e i.size, Kept.refl _ _, Pre.of_same fun _ _ => rfl, .inl rfl, fun h => by omega⟩
        simp [Builtin.append_, run_underlying ht, sizeOf, typeInfo, hi, Builtin.lenOf, Builtin.firstCells, loadCells, loadCellsFrom]
      · have hr := run_append_nil (P := P) w t ty e i z ht hi hz a m c news hl hnews (by omega) (by omega) (by have hb := hbytes; simp only [Nat.zero_add] at hb; omega)
        have hgr := grown 0 (by omega) (fun b => (Value.slice none 0 0).ownBlock = some b) (Value.slice none 0 0).ownBlock (0 * i.size)
        simp only [Nat.zero_add, List.nil_append, Array.empty_append] at hgr ⊢
        exact ⟨_, _, hr, hgr.1, hgr.2.1, hgr.2.2, .inr fun b hb => by cases hb; exact Nat.le_refl _, fun _ e => by cases e⟩
    · by_cases hroom : n + m ≤ cap
      · have hfit : n * i.size + news.length ≤ cur.size := by rw [hl, hcs, ← Nat.add_mul]; exact Nat.mul_le_mul_right _ hroom
        have hr := run_append_room (P := P) w t ty e i ht hi g n cap cur hg a m c news hl hnews h1 hroom hfit
        have hsz : (cur.toList.take (n * i.size) ++ news ++ cur.toList.drop (n * i.size + news.length)).toArray.size = cur.size := by
          simp only [List.size_toArray, List.length_append, List.length_take, List.length_drop, Array.length_toList]
          omega
        refine ⟨_, _, hr, ⟨hlen, .inr ⟨g, cap, _, rfl, hbg, setRow_heap w g cur _ e _ hg, hroom, hcm, ?_, ?_⟩⟩, ⟨rfl, rfl, rfl, by simp, fun k _ hk => setRow_other w g k _ (fun e => hk (by simp [Value.ownBlock, e]))⟩, fun b c t hb => ?_, .inl rfl, fun _ e => by cases e⟩
        · simp only [List.size_toArray, List.length_append, List.length_take, List.length_drop, Array.length_toList]
          omega
        · rw [htake, ← hlen]
          exact List.take_left
        · by_cases e : b = g
          · subst e
            rw [hg] at hb
            simp only [Option.some.injEq, Obj.cells.injEq] at hb
            obtain ⟨rfl, rfl, -⟩ := hb
            refine ⟨_, setRow_heap w b cur _ e _ hg, hsz, fun j hj => ?_⟩
            have hj : j < n * i.size := by
              rcases hj with h | h
              · exact absurd rfl h
              · exact h
            simp [List.getElem?_append, hj]
            omega
          · exact ⟨c, (setRow_other w g b _ e).trans hb, rfl, fun _ _ => rfl⟩
      · have holds : ∀ j u, xs[j]? = some u → w.cell? ((⟨g, 0, none⟩ : Addr).add j) = some u := hown.cells (g := g) rfl
        have hr := run_append_grow (P := P) w t ty e i z ht hi hz ⟨g, 0, none⟩ n cap xs hown.1 holds a m c news hl hnews (by omega) (by omega) (growslice_fits (by omega) hbytes)
        have hgr := grown cap (by omega) (fun b => (Value.slice (some ⟨g, 0, none⟩) n cap).ownBlock = some b) (Value.slice (some ⟨g, 0, none⟩) n cap).ownBlock (n * i.size)
        exact ⟨_, _, hr, hgr.1, hgr.2.1, hgr.2.2, .inr fun b hb => by cases hb; exact Nat.le_refl _, fun _ e => by cases e⟩
theorem wpList_app {ops : Array Oper} {rest : List Oper} {o : Oper} {a : Act} {Q : Exit → Act → World → Prop} (hgd : o.guard = none) (s x : Operand) (t : TypeId)
    (ho : o.op = .call { callee := .builtin .append, args := #[s, x], argTypes := #[t, t] })
    (base : Nat) (e : TypeId) (i : TypeInfo) (z : Value) (size bytes : Nat) (ht : P.underlying t = some (.slice e)) (hi : P.info? e = some i) (hz : i.zero = some z)
    (hsize : i.size = size) (hby : i.bytes = bytes) (hzs : z.cells.size = size) (hsz : 0 < size)
    (v : Value) (n : Nat) (xs : List Value) (hs : a.eval s = v) (hown : w.ownsRow base e size v n xs)
    (A : Option Addr) (m c : Nat) (hx : a.eval x = .slice A m c) (hA : A = none → c = 0) (hmc : m ≤ c) (news : List Value) (hl : news.length = m * size) (hnews : ∀ a, A = some a → ∀ j u, news[j]? = some u → w.cell? (a.add j) = some u) (h1 : ∀ u ∈ news, u.oneCell' = true)
    (h63 : n + m ≤ maxLen) (hbytes : (n + m) * bytes ≤ 140737488355328) (hbase : base ≤ w.heap.size)
    (h : ∀ v' w', w'.ownsRow base e size v' (n + m) (xs ++ news) → Kept (fun b => v.ownBlock = some b) w w' → Pre v.ownBlock (n * size) w w' → (v'.ownBlock = v.ownBlock ∨ ∀ b, v'.ownBlock = some b → w.heap.size ≤ b) → (0 < n + m → v' ≠ .slice none 0 0) → wpList P ops Q rest (a.put o.dst v') w') : wpList P ops Q (o :: rest) a w :=
  wpList_plain hgd fun K hK => by
    obtain ⟨v', w', hr, h2, h3, h4, h5, h6⟩ := run_append_pre (P := P) w base t o.type e i z size bytes ht hi hz hsize hby hzs hsz v n xs hown A m c hA hmc news hl hnews h1 h63 hbytes hbase
    unfold Oper.wp execOp
    simp only [ho, resolve, invoke, builtin, Sem.run_bind, Sem.run_pure, Result.andThen_ok, List.map_toArray, List.map_cons, List.map_nil, hs, hx, hr]
    exact hK _ _ (h v' w' h2 h3 h4 h5 h6)
end
end Go.Proofs.YtbmjmamodnapiaaGreatDoor
