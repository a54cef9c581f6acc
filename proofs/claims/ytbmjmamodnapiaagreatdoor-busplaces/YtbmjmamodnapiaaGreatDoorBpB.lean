/- DERIVED. One element taken out of a slice of numbers (package slices: Delete, Index), lone. -/
import Derived.Test.YtbmjmamodnapiaaGreatDoorBusH
import Derived.Lib.SlicesDelete
import Derived.Lib.SliceRun
import Derived.Lib.RowBridge
import Derived.Sort.WalkB12
import Derived.Deep.LoopGhost
import Derived.Deep.RegionLaw
import Derived.WalkKit
import Derived.Shelf.RegionOpenPlain
namespace Go.Proofs.YtbmjmamodnapiaaGreatDoor
open Go.RowKit
set_option linter.unusedVariables false
set_option maxHeartbeats 4000000 in
theorem index_at (v : Value) (l : List Int) (k : Nat) (w : World) (h : MembersAt w v l) (hk : k < l.length) (hb : ∀ j (hj : j < k), l[j] ≠ l[k]) : Calls Tryz.prog 87 #[v, .int .i64 l[k]] w fun e w' => e = .returned (.int .i64 k) ∧ w = w' := by
  obtain ⟨A, c, rfl, h2, h3, -, h5⟩ := h
  unfold maxLen at h3
  have HX := Lib.hid (And.intro h5 hb)
  clear h5 hb
  obtain ⟨x, hx⟩ : ∃ x, x = l[k] := ⟨_, rfl⟩
  rw [← hx]
  have HX2 := Lib.hid hx
  clear hx
  go_enter Tryz.func87, Tryz.ntmps87
  go_wp2
  go_loopw [8] (fun q wr => ∃ j : Nat, j ≤ k ∧ q = .int .i64 j ∧ wr = w) (fun q _ => k - (intOf q).toNat)
  case atStart => exact ⟨0, Nat.zero_le _, rfl, rfl⟩
  case round =>
    obtain ⟨j, hj, rfl, rfl⟩ := hrel
    have hjl : j < l.length := by omega
    obtain ⟨L, rfl, c1⟩ := HX.out.1 j hjl
    have b1 : (j : Int) < l.length := by omega
    by_cases hlt : j < k
    · have hb : (x == l[j]) = false := by
        have := HX.out.2 j hlt
        rw [HX2.out]
        simp only [beq_eq_false_iff_ne]
        exact fun e => this e.symm
      generalize l[j] = y at c1 hb
      go_wp2
      go_roundw
      case rel => exact ⟨j + 1, by omega, by go_num, trivial⟩
      case measure => simp [intOf]; omega
    · have ej : j = k := by omega
      subst ej
      rw [← HX2.out] at c1
      have hb : (x == x) = true := by simp
      go_wp2
      go_ret
      exact ⟨rfl, rfl⟩
open Go.Lib Go.Sort Go.Shelf
theorem zero_int (w : World) : (zeroValue 3).run Tryz.prog w = .ok (.int .i64 0) w := by
  simp [zeroValue]
  rfl
set_option maxHeartbeats 4000000 in
set_option maxRecDepth 1000000 in
theorem delete_arr_ok (blk off cap i j : Nat) (d : Array Int) (w : World) (hH : Holds (Value.int .i64) w blk off d) (hcap : d.size ≤ cap) (hm : cap ≤ 9223372036854775807) (hlt : i < j) (hj : j ≤ d.size) :
    Calls Tryz.prog 88 #[.slice (some ⟨blk, off, none⟩) d.size cap, .int .i64 i, .int .i64 j] w fun e w' => e = .returned (.slice (some ⟨blk, off, none⟩) (d.size - (j - i)) cap) ∧ ∃ q, w' = putRow (Value.int .i64) (Sort.ahead w q) blk off (d.toList.take i ++ d.toList.drop j ++ List.replicate (j - i) 0).toArray := by
  obtain ⟨i0, hi0, hz0, hz1, hz2⟩ := info_parts Tryz.infoI
  have hij : i ≤ j := by omega
  have mixed : Tryz.prog.follows .mixedOrders = true := by kernel_rfl
  obtain ⟨news, hnews⟩ : ∃ news, news = (d.toList.drop j).map (Value.int .i64) := ⟨_, rfl⟩
  have hlen : news.length = d.size - j := by rw [hnews]; simp
  have hget : ∀ t, t < d.size - j → news[t]? = some (Value.int .i64 d[j + t]!) := by
    intro t ht
    rw [hnews, List.getElem?_map, List.getElem?_drop, Array.getElem?_toList, getElem!_pos d (j + t) (by omega), Array.getElem?_eq_getElem (by omega)]
    rfl
  obtain ⟨A, hA, hsrc⟩ : ∃ A : Addr, (if cap = j then some (⟨blk, off, none⟩ : Addr) else some ⟨blk, off + j, none⟩) = some A ∧ Hid (∀ t u, news[t]? = some u → w.drew.cell? (A.add t) = some u) := by
    by_cases h : cap = j
    · refine ⟨⟨blk, off, none⟩, by simp [h], fun t u hu => ?_⟩
      have h0 : news.length = 0 := by rw [hlen]; omega
      rw [List.length_eq_zero_iff.1 h0] at hu
      simp at hu
    · refine ⟨⟨blk, off + j, none⟩, by simp [h], fun t u hu => ?_⟩
      have ht : t < d.size - j := by
        have := (List.getElem?_eq_some_iff.1 hu).1
        rwa [hlen] at this
      rw [hget t ht] at hu
      rw [Addr.add_lit, show off + j + t = off + (j + t) by omega]
      exact (hH (j + t) (by omega)).1.trans hu
  have s1 : Hid (news.length = (d.size - j) * 1) := by rw [Nat.mul_one]; exact hlen
  have s2 : Hid (∀ u ∈ news, u.oneCell' = true) := by
    intro u hu
    rw [hnews] at hu
    obtain ⟨x, _, rfl⟩ := List.mem_map.1 hu
    rfl
  have s3 : Hid (∀ t, t < news.length → (w.drew.cell? ⟨blk, off + i * 1 + t, none⟩).isSome = true ∧ w.drew.frozen? ⟨blk, off + i * 1 + t, none⟩ = false) := by
    intro t ht
    rw [hlen] at ht
    rw [Nat.mul_one, Nat.add_assoc]
    exact ⟨by show (w.cell? _).isSome = true; rw [(hH (i + t) (by omega)).1]; rfl, (hH (i + t) (by omega)).2⟩
  obtain ⟨W1, hW1⟩ : ∃ W1, W1 = w.drew.setCells blk (off + i * 1) news := ⟨_, rfl⟩
  have hW1' : W1 = putRow (Value.int .i64) (Sort.ahead w 1) blk off (lay d i (d.toList.drop j)) := by
    rw [hW1, hnews, Nat.mul_one, ← putRow_setCells (Value.int .i64) (Sort.ahead w 1) blk off _ d i (by simp; omega), putRow_self (Value.int .i64) (Sort.ahead w 1) blk off d (holds_ahead (Value.int .i64) w 1 blk off d hH)]
    rfl
  have hH1 : Holds (Value.int .i64) W1 blk off (lay d i (d.toList.drop j)) := by rw [hW1']; exact holds_putRow (Value.int .i64) _ blk off d _ (holds_ahead (Value.int .i64) w 1 blk off d hH) (lay_size _ _ _)
  have hcl : ∀ ty, (Builtin.clear_ #[198] ty #[.slice (some ⟨blk, off + (i + (d.size - j)), none⟩) (d.size - (i + (d.size - j))) (cap - (i + (d.size - j)))]).run Tryz.prog W1 = .ok (.tuple #[]) (W1.setCells blk (off + (i + (d.size - j))) (List.replicate (d.size - (i + (d.size - j))) (Value.int .i64 0))) :=
    fun ty => Lib.run_clear_slice W1 _ _ ty _ Tryz.underlying198 zero_int rfl rfl blk (off + (i + (d.size - j))) _ _ (by omega) (fun t ht => by rw [show off + (i + (d.size - j)) + t = off + (i + (d.size - j) + t) by omega, (hH1 _ (by rw [lay_size]; omega)).1]; rfl) (fun t ht => by rw [show off + (i + (d.size - j)) + t = off + (i + (d.size - j) + t) by omega]; exact (hH1 _ (by rw [lay_size]; omega)).2)
  have X : Aside (W1 = putRow (Value.int .i64) (Sort.ahead w 1) blk off (lay d i (d.toList.drop j))) := hW1'
  have hW : Hid (W1 = w.drew.setCells blk (off + i * 1) news) := hW1
  have hic : i ≤ cap := by omega
  have hjc : j ≤ cap := by omega
  clear hW1 hW1' hH1 hH hget hnews hlen
  go_enter Tryz.func88, Tryz.ntmps88
  go_wp2_with fail
  go_region_law_o (refine step_append_room rfl (.tmp 22) (.tmp 25) 198 rfl 3 i0 1 Tryz.underlying198 hi0 hz1 blk off i cap (by simp [Act.eval, Act.put]) A (d.size - j) (cap - j) news (by simp [Act.eval, Act.put]) s1.out hsrc.out s2.out (by omega) s3.out ?_; rw [← hW.out])
  go_wp2
  go_ret
  refine ⟨by rw [show d.size - (j - i) = i + (d.size - j) by omega]; rfl, 1, ?_⟩
  rw [← delete_arr d i j 0 hij hj, ← putRow_setCells (Value.int .i64) _ blk off _ _ (i + (d.size - j)) (by rw [lay_size]; simp; omega), ← X.out, List.map_replicate, show d.size - (i + (d.size - j)) = j - i by omega]
theorem Kept.setCells {S : Nat → Prop} (g : Nat) (hg : S g) : ∀ (vs : List Value) (o : Nat) (w : World), Kept S w (w.setCells g o vs)
  | [], o, w => Kept.refl S w
  | v :: vs, o, w => (Kept.setCell w (p := ⟨g, o, none⟩) hg v).trans (Kept.setCells g hg vs (o + 1) _)
theorem delete_at (L c k : Nat) (l : List Int) (w : World) (hl : ∀ j (h : j < l.length), w.cell? ⟨L, j, none⟩ = some (.int .i64 l[j])) (hf : ∀ j, j < l.length → w.frozen? ⟨L, j, none⟩ = false) (hc : l.length ≤ c) (hm : c ≤ maxLen) (hk : k < l.length) :
    Calls Tryz.prog 88 #[.slice (some ⟨L, 0, none⟩) l.length c, .int .i64 k, .int .i64 (k + 1 : Nat)] w fun e w' => e = .returned (.slice (some ⟨L, 0, none⟩) (l.length - 1) c) ∧ Kept (fun b => b = L) w w' ∧ ∀ j (h : j < (l.eraseIdx k).length), w'.cell? ⟨L, j, none⟩ = some (.int .i64 (l.eraseIdx k)[j]) := by
  have hH : Holds (Value.int .i64) w L 0 l.toArray := fun j hj => by
    have hj' : j < l.length := by simpa using hj
    rw [Nat.zero_add]
    refine ⟨?_, hf j hj'⟩
    rw [hl j hj', getElem!_pos l.toArray j hj]
    rfl
  have h := delete_arr_ok L 0 c k (k + 1) l.toArray w hH (by simpa using hc) (by unfold maxLen at hm; omega) (by omega) (by show k + 1 ≤ l.length; omega)
  refine (by simpa using h : Calls _ _ #[.slice (some ⟨L, 0, none⟩) l.length c, .int .i64 k, .int .i64 (k + 1 : Nat)] _ _).mono ?_
  rintro e w' ⟨rfl, q, rfl⟩
  have hlen : (l.take k ++ (l.drop (k + 1) ++ [0])).length = l.length := by simp; omega
  refine ⟨rfl, ?_, fun j hj => ?_⟩
  · have := Lib.putRow_eq_setCells (Value.int .i64) w L 0 l.toArray (l.take k ++ (l.drop (k + 1) ++ [0])) q hH (by simpa using hlen)
    rw [this]
    exact (Kept.drewN _ w q).trans (Kept.setCells (S := fun b => b = L) L rfl _ _ _)
  · have h2 := holds_putRow (Value.int .i64) (Sort.ahead w q) L 0 l.toArray (l.take k ++ (l.drop (k + 1) ++ [0])).toArray (holds_ahead (Value.int .i64) w q L 0 _ hH) (by simpa using hlen)
    rw [List.length_eraseIdx_of_lt hk] at hj
    have h3 := (h2 j (by simp; omega)).1
    rw [Nat.zero_add] at h3
    have e0 : (List.take k l ++ (List.drop (k + 1) l ++ [0])).toArray[j]! = (l.eraseIdx k)[j] := by
      rw [getElem!_pos _ j (by simp; omega)]
      simp only [List.getElem_toArray]
      have he : List.take k l ++ (List.drop (k + 1) l ++ [0]) = l.eraseIdx k ++ [0] := by rw [List.eraseIdx_eq_take_drop_succ, List.append_assoc]
      rw [List.getElem_of_eq he, List.getElem_append_left]
    rw [← e0]
    exact h3
end Go.Proofs.YtbmjmamodnapiaaGreatDoor
