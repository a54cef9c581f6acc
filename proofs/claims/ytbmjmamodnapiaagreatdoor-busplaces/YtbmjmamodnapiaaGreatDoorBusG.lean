/- DERIVED. A gate joined (package gate: Set, Join), lone. -/
import Derived.Test.YtbmjmamodnapiaaGreatDoorBusF
import Derived.Test.YtbmjmamodnapiaaGreatDoorMemPre
namespace Go.Proofs.YtbmjmamodnapiaaGreatDoor
open Go.RowKit
set_option linter.unusedVariables false
theorem Tryz.infoI : (Tryz.prog.info? 3).map (fun i => (i.zero, i.size, i.bytes)) = some (some (.int .i64 0), 1, 8) := by kernel_rfl
theorem gstep_nil (w : World) : Calls Tryz.prog 86 #[.nilIface] w fun e w' => e = .returned (.tuple #[]) ∧ w = w' := by
  go_enter Tryz.func86, Tryz.ntmps86
  go_wp2
  go_end0
  exact ⟨rfl, rfl⟩
theorem refused_no (G : Addr) (i : Nat) (w : World) (hi : i < 64) : Calls Tryz.prog 78 #[.pointer (some G), .int .i64 i] w fun e w' => e = .returned (.int .i64 0) ∧ w = w' := by
  have h0 : ¬ (i : Int) < 0 := by omega
  have h1 : ¬ (64 : Int) ≤ i := by omega
  go_enter Tryz.func78, Tryz.ntmps78
  go_wp2
  go_ret
  exact ⟨rfl, rfl⟩
theorem gate_set (G i : Nat) (p : Option Addr) (f : Nat → Int) (x : Int) (w : World) (h : GateAt w G p f) (hi : i < 64) : Calls Tryz.prog 63 #[.pointer (some ⟨G, 0, none⟩), .nilIface, .int .i64 i, .int .i64 x] w fun e w' => e = .returned (.int .i64 0) ∧ w.setCell ⟨G, 1 + i, none⟩ (.int .i64 x) = w' := by
  have c := h.num i hi
  have z := h.fz (1 + i)
  have h0 : (0 : Int) ≤ i := by omega
  have h1 : (i : Int) < 64 := by omega
  clear h
  go_enter Tryz.func63, Tryz.ntmps63
  go_wp2_with (first | (go_at_call 78; refine (refused_no _ i _ hi).mono ?_; rintro e w' ⟨rfl, rfl⟩) | (go_at_call 86; refine (gstep_nil _).mono ?_; rintro e w' ⟨rfl, rfl⟩) | (go_at_call 50; refine (atomic_store _ x _ _ c z).mono ?_; rintro e w' ⟨rfl, rfl⟩))
  go_ret
  exact ⟨rfl, rfl⟩
/-- Numbers in a slice that has been made of one's own, or none. -/
def MembersAt (w : World) (v : Value) (l : List Int) : Prop := ∃ A c, v = .slice A l.length c ∧ l.length ≤ c ∧ c ≤ maxLen ∧ (A = none → c = 0) ∧ ∀ i (h : i < l.length), ∃ L, A = some ⟨L, 0, none⟩ ∧ w.cell? ⟨L, i, none⟩ = some (.int .i64 l[i])
theorem MembersAt.kept {w w' : World} {v : Value} {l : List Int} (h : MembersAt w v l) (k : Kept (fun _ => False) w w') : MembersAt w' v l := by
  obtain ⟨A, c, h1, h2, h3, h4, h5⟩ := h
  exact ⟨A, c, h1, h2, h3, h4, fun i hi => by obtain ⟨L, k1, k2⟩ := h5 i hi; exact ⟨L, k1, cell_keep k2 k id⟩⟩
theorem index_no (v : Value) (l : List Int) (x : Int) (w : World) (h : MembersAt w v l) (hx : x ∉ l) : Calls Tryz.prog 87 #[v, .int .i64 x] w fun e w' => e = .returned (.int .i64 (-1)) ∧ w = w' := by
  obtain ⟨A, c, rfl, h2, h3, -, h5⟩ := h
  unfold maxLen at h3
  have HX := Lib.hid (And.intro h5 hx)
  clear h5 hx
  go_enter Tryz.func87, Tryz.ntmps87
  go_wp2
  go_loopw [8] (fun q wr => ∃ j : Nat, j ≤ l.length ∧ q = .int .i64 j ∧ wr = w) (fun q _ => l.length - (intOf q).toNat)
  case atStart => exact ⟨0, Nat.zero_le _, rfl, rfl⟩
  case round =>
    obtain ⟨j, hj, rfl, rfl⟩ := hrel
    by_cases hlt : j < l.length
    · obtain ⟨L, rfl, c1⟩ := HX.out.1 j hlt
      have hb : (x == l[j]) = false := by
        have := HX.out.2
        simp only [beq_eq_false_iff_ne]
        exact fun e => this (e ▸ List.getElem_mem hlt)
      generalize l[j] = y at c1 hb
      have b1 : (j : Int) < l.length := by omega
      go_wp2
      go_roundw
      case rel => exact ⟨j + 1, by omega, by go_num, trivial⟩
      case measure => simp [intOf]; omega
    · have ej : j = l.length := by omega
      subst ej
      go_wp2
      go_ret
      exact ⟨rfl, rfl⟩
theorem contains_no (v : Value) (l : List Int) (x : Int) (w : World) (h : MembersAt w v l) (hx : x ∉ l) : Calls Tryz.prog 80 #[v, .int .i64 x] w fun e w' => e = .returned (.bool false) ∧ w = w' := by
  obtain ⟨A, c, rfl, -⟩ := id h
  go_enter Tryz.func80, Tryz.ntmps80
  go_wp2_with (go_at_call 87; refine (index_no _ l x _ h hx).mono ?_; rintro e w' ⟨rfl, rfl⟩)
  go_ret
  exact ⟨rfl, rfl⟩
theorem eql_slice_nil (A : Option Addr) (n c : Nat) (w : World) (hA : A = none → c = 0) (hn : n ≤ c) : (binOp .eql 198 (.slice A n c) (.slice none 0 0)).run Tryz.prog w = .ok (.bool A.isNone) w := by
  have h : ∀ d, (Op.equalIn (d + 1) 198 (.slice A n c) (.slice none 0 0)).run Tryz.prog w = .ok A.isNone w := fun d => by
    cases A with
    | none =>
      obtain rfl := hA rfl
      obtain rfl : n = 0 := by omega
      simp [Op.equalIn, run_underlying Tryz.underlying198]
    | some a => simp [Op.equalIn, run_underlying Tryz.underlying198]
  simp only [binOp]
  simp [Op.equal, Op.maxDepth, h 9999]
set_option maxRecDepth 100000 in
theorem clone_ok (v : Value) (l : List Int) (w : World) (h : MembersAt w v l) (hl : l.length ≤ 64) : Calls Tryz.prog 83 #[v] w fun e w' => ∃ v', e = .returned v' ∧ Kept (fun _ => False) w w' ∧ w'.ownsRow w.heap.size 3 1 v' l.length (l.map (Value.int .i64)) := by
  obtain ⟨A, c, rfl, h2, h3, h4, h5⟩ := h
  cases A with
  | none =>
    obtain rfl := h4 rfl
    have hl0 : l = [] := List.eq_nil_of_length_eq_zero (by omega)
    subst hl0
    have he : ∀ w, (binOp .eql 198 (.slice none 0 0) (.slice none 0 0)).run Tryz.prog w = .ok (.bool true) w := fun w => eql_slice_nil none 0 0 w (fun _ => rfl) (Nat.le_refl _)
    go_enter Tryz.func83, Tryz.ntmps83
    go_wp2
    go_ret
    exact ⟨_, rfl, Kept.refl _ _, World.ownsRow_nil _ _ _ _⟩
  | some a =>
    obtain ⟨i0, hi0, hz0, hz1, hz2⟩ := info_parts Tryz.infoI
    have HA := Lib.hid (World.ownsRow_lit (base := w.heap.size) (size := 1) (e := 3) w #[] 0 (Nat.le_refl _) (Nat.zero_le _) rfl)
    have HX := Lib.hid h5
    have hc1 : Hid (∀ a', some a = some a' → ∀ (j : Nat) (u : Value), (l.map (Value.int .i64))[j]? = some u → (w.alloc (.cells #[] 3)).cell? (a'.add j) = some u) := Lib.hid fun a' ha j u hu => by
      cases ha
      rw [List.getElem?_map] at hu
      have hj : j < l.length := by
        rcases Nat.lt_or_ge j l.length with hlt | hge
        · exact hlt
        · rw [List.getElem?_eq_none hge] at hu; cases hu
      rw [List.getElem?_eq_getElem hj] at hu
      simp only [Option.map_some, Option.some.injEq] at hu
      obtain ⟨L, k1, k2⟩ := HX.out j hj
      cases k1
      rw [show (⟨L, 0, none⟩ : Addr).add j = ⟨L, j, none⟩ from by unfold Addr.add; by_cases h4 : j = 0 <;> simp [h4], ← hu]
      exact cell_keep k2 (Kept.alloc (S := fun _ => False) _ _) id
    have hc2 : Hid (∀ u ∈ l.map (Value.int .i64), u.oneCell' = true) := Lib.hid fun u hu => by
      obtain ⟨x, _, rfl⟩ := List.mem_map.1 hu
      rfl
    have he : ∀ w, (binOp .eql 198 (.slice (some a) l.length c) (.slice none 0 0)).run Tryz.prog w = .ok (.bool false) w := fun w => eql_slice_nil (some a) _ _ w (fun h => by cases h) h2
    clear h4 h5
    go_enter Tryz.func83, Tryz.ntmps83
    go_wp2_with (at_builtin; refine wpList_app _ rfl _ _ 198 rfl w.heap.size 3 i0 (.int .i64 0) 1 8 Tryz.underlying198 hi0 hz0 hz1 hz2 rfl (by decide) _ _ _ rfl HA.out (some a) l.length c rfl (fun h => by cases h) h2 (l.map (.int .i64)) (by simp) hc1.out hc2.out (by unfold maxLen; omega) (by omega) (by simp) ?_)
    intro v1 w1 h1 k1 p1 ob1 ne1
    have HF := Lib.hid (And.intro h1 ((Kept.alloc (S := fun _ => False) w _).later k1 fun b hb => (HA.out.lt b hb).1))
    clear h1 k1 p1 ob1 ne1
    obtain ⟨A1, c1', rfl⟩ := own_slice HF.out.1
    go_wp2
    go_ret
    exact ⟨_, rfl, HF.out.2, HF.out.1⟩
end Go.Proofs.YtbmjmamodnapiaaGreatDoor
