/- DERIVED. The document's machine of layer 11, walked: Play; it leaves the trace of the program's run. -/
import Derived.Test.YteainbnoemkfcaaGk
import Derived.Test.YteainbnoemkfcaaGh
import Derived.Laws.AppendOwnNone
import Derived.Test.YteainbnoemkfcaaGi
import Derived.Laws.BitsLemmas
import Derived.Test.YteainbnoemkfcaaGm
import Derived.Test.YteainbnoemkfcaaGj
set_option linter.unusedVariables false
set_option linter.unusedSectionVars false
set_option linter.unusedSimpArgs false
namespace Go.Proofs.Yteainbnoemkfcaa
open Go.RowKit Go.Turn
open Go.ConcN (upd upd_ne upd_same)
section
variable {B mb : Nat} {oV : Nat → Value} {st : RM}
theorem left_yes {i : Nat} (hi : i < st.n) (hp : st.pc i ≠ 0) : st.left = true := List.any_eq_true.2 ⟨i, List.mem_range.2 hi, decide_eq_true hp⟩
theorem left_no (h : ∀ k, k < st.n → st.pc k = 0) : st.left = false := by
  unfold RM.left
  rw [List.any_eq_false]
  intro i hi
  simp [h i (List.mem_range.1 hi)]
set_option maxHeartbeats 4000000 in
set_option maxRecDepth 100000 in
theorem refleft_ok (w : World) (h : RMem B mb oV st w) (hn : st.n ≤ 64) :
    Calls Try.prog 48 #[.pointer (some ⟨mb, 0, none⟩)] w fun e w' => e = .returned (.bool st.left) ∧ w = w' := by
  obtain ⟨V, h⟩ := h
  obtain ⟨A0, tc, hT⟩ : ∃ A c, V .T = .slice A st.n c := own_slice (h.at_ (r := .T) rfl)
  have c3 : w.cell? ⟨mb, 3, none⟩ = some (.slice A0 st.n tc) := by have := bcell h 3 (by omega); rw [this]; exact congrArg some hT
  have HM := Lib.hid h
  have HT := Lib.hid hT
  clear h hT
  go_enter Try.func48, Try.ntmps48
  go_wp2
  go_loopw [3] (fun v wr => ∃ j : Nat, j ≤ st.n ∧ v = .int .i64 j ∧ (∀ k, k < j → st.pc k = 0) ∧ w = wr) (fun v wr => st.n - (intOf v).toNat)
  case atStart => exact ⟨0, Nat.zero_le _, rfl, fun k hk => by omega, rfl⟩
  case round =>
    obtain ⟨j, hj, rfl, hall, rfl⟩ := hrel
    have HA := Lib.hid hall
    clear hall
    by_cases hlt : j < st.n
    · obtain ⟨tb, tc', hT', htc, htm⟩ := tb_of HM.out (by omega)
      have hT2 := hT'
      rw [HT.out] at hT'
      obtain ⟨rfl, rfl⟩ : A0 = some ⟨tb, 0, none⟩ ∧ tc = tc' := by cases hT'; exact ⟨rfl, rfl⟩
      have t4 := tcell HM.out hT2 hlt 4 (by omega)
      simp only [thF] at t4
      clear hT' hT2
      by_cases hp : st.pc j = 0
      · have hp0 : st.pc j ≤ 0 := by omega
        have HA2 := Lib.hid (show ∀ k, k < j + 1 → st.pc k = 0 from fun k hk => by
          by_cases e : k = j
          · rw [e]; exact hp
          · exact HA.out k (by omega))
        clear hp
        go_wp2
        go_roundw
        case rel => exact ⟨j + 1, by omega, by go_num, HA2.out, trivial⟩
        case measure => simp [intOf]; omega
      · have hp0 : 0 < st.pc j := by omega
        have HL := Lib.hid (left_yes hlt hp)
        clear hp
        go_wp2
        go_ret
        exact ⟨by rw [HL.out]; rfl, rfl⟩
    · have ej : j = st.n := by omega
      have HL := Lib.hid (left_no (ej ▸ HA.out))
      have hj2 : st.n ≤ j := by omega
      clear ej
      go_wp2
      go_ret
      exact ⟨by rw [HL.out]; rfl, rfl⟩
theorem rowN_cells {n : Nat} {f : Nat → Int} : (rowN f n).map (Value.int .i64) = cellsN (n * 1) (fun j => .int .i64 (f j)) := by
  simp [rowN, cellsN]
set_option maxHeartbeats 4000000 in
set_option maxRecDepth 100000 in
theorem refstate_ok (w : World) (h : RMem B mb oV st w) (h2 : st.size ≤ 65536) :
    Calls Try.prog 49 #[.pointer (some ⟨mb, 0, none⟩)] w (NumsRow w (st.size + st.size) (rowN st.S st.size ++ rowN st.V st.size)) := by
  obtain ⟨V, h⟩ := h
  obtain ⟨i0, hi0, hz0, hz1, hz2⟩ := info_parts Try.info64
  have HM := Lib.hid h
  go_enter Try.func49, Try.ntmps49
  rcases (h.at_ (r := .S) rfl).2 with ⟨es, hz⟩ | ⟨sb, sc, curs, es, _, _, hs1, hs2, _⟩
  · simp only at es hz
    have c1 : w.cell? ⟨mb, 1, none⟩ = some (.slice none 0 0) := by have := bcell h 1 (by omega); rw [this]; exact congrArg some es
    have o1 : w.ownsRow w.heap.size 2 1 (.slice none 0 0) st.size ((rowN st.S st.size).map (Value.int .i64)) := by rw [hz]; exact ⟨by simp [rowN], .inl ⟨rfl, rfl⟩⟩
    have o0 : w.ownsRow w.heap.size 2 1 (.slice none 0 0) 0 [] := ⟨by simp, .inl ⟨rfl, rfl⟩⟩
    have B1 : Below w.heap.size w w := Below.refl _ _
    have HM2 := HM
    have HZ := Lib.hid hz
    clear es h hz
    rcases (HM.out.at_ (r := .V) rfl).2 with ⟨ev, hz⟩ | ⟨vb, vc, curv, ev, _, _, hv1, hv2, _⟩
    · simp only at ev hz
      have c2 : w.cell? ⟨mb, 2, none⟩ = some (.slice none 0 0) := by have := bcell HM2.out 2 (by omega); rw [this]; exact congrArg some ev
      have HZ2 := Lib.hid hz
      clear ev hz
      go_wp2_with (at_builtin; first | refine wpList_append_own_none rfl _ _ 22 rfl w.heap.size 2 i0 1 Try.underlying22 hi0 _ _ _ rfl o0 rfl ?_ | refine wpList_append_own_none rfl _ _ 22 rfl w.heap.size 2 i0 1 Try.underlying22 hi0 _ _ _ rfl o1 rfl ?_)
      go_ret
      exact ⟨_, rfl, by
        have hz := HZ2.out
        have e : rowN st.V st.size = [] := by rw [hz]; rfl
        rw [e, List.append_nil, show st.size + st.size = st.size from by omega]
        exact o1, B1⟩
    · simp only at ev hv1
      have c2 : w.cell? ⟨mb, 2, none⟩ = some (.slice (some ⟨vb, 0, none⟩) st.size vc) := by have := bcell HM2.out 2 (by omega); rw [this]; exact congrArg some ev
      have hrow : w.ownsRow B 2 1 (.slice (some ⟨vb, 0, none⟩) st.size vc) st.size ((rowN st.V st.size).map (Value.int .i64)) := by
        rw [rowN_cells, ← ev]; exact HM2.out.at_ (r := .V) rfl
      have HR := Lib.hid hrow
      clear ev hrow
      go_wp2_with (at_builtin; first | refine wpList_append_own_none rfl _ _ 22 rfl w.heap.size 2 i0 1 Try.underlying22 hi0 _ _ _ rfl o0 rfl ?_ | refine wpList_append_own _ rfl _ _ 22 rfl w.heap.size 2 i0 (.int .i64 0) 1 8 Try.underlying22 hi0 hz0 hz1 hz2 rfl (by decide) _ _ _ rfl o1 ⟨vb, 0, none⟩ st.size vc ((rowN st.V st.size).map (Value.int .i64)) rfl (by simp [rowN]) ?e1 ?e2 ?e3 ?e4 ?e5 ?_)
      case e1 =>
        intro j a hj
        have := row_cells HR.out j (.int .i64 a) (by simp [hj])
        have e0 : (⟨vb, 0, none⟩ : Addr).add j = ⟨vb, j, none⟩ := by unfold Addr.add; split <;> simp_all
        rw [e0] at this; exact this
      try (case e2 => simp [Value.oneCell'])
      try (case e3 => unfold maxLen; omega)
      try (case e4 => omega)
      try (case e5 => have := B1.size; omega)
      intro v3 w3 hown hgrow hl3
      have k4 : w3.ownsRow w.heap.size 2 1 v3 (st.size + st.size) ((rowN st.S st.size ++ rowN st.V st.size).map (Value.int .i64)) := by rw [List.map_append]; exact hown
      have hb3 := B1.grown hgrow B1.size (fun k hk => (o1.lt k hk).1)
      clear hown hgrow
      go_wp2
      go_ret
      exact ⟨_, rfl, k4, hb3⟩
  · simp only at es hs1
    have c1 : w.cell? ⟨mb, 1, none⟩ = some (.slice (some ⟨sb, 0, none⟩) st.size sc) := by have := bcell h 1 (by omega); rw [this]; exact congrArg some es
    have hrow : w.ownsRow B 2 1 (.slice (some ⟨sb, 0, none⟩) st.size sc) st.size ((rowN st.S st.size).map (Value.int .i64)) := by
      rw [rowN_cells, ← es]; exact h.at_ (r := .S) rfl
    have o0 : w.ownsRow w.heap.size 2 1 (.slice none 0 0) 0 [] := ⟨by simp, .inl ⟨rfl, rfl⟩⟩
    have HR0 := Lib.hid hrow
    clear es h hrow
    go_wp2_with (at_builtin; refine wpList_append_own _ rfl _ _ 22 rfl w.heap.size 2 i0 (.int .i64 0) 1 8 Try.underlying22 hi0 hz0 hz1 hz2 rfl (by decide) _ _ _ rfl o0 ⟨sb, 0, none⟩ st.size sc ((rowN st.S st.size).map (Value.int .i64)) rfl (by simp [rowN]) ?c1 ?c2 ?c3 ?c4 ?c5 ?_)
    case c1 =>
      intro j a hj
      have := row_cells HR0.out j (.int .i64 a) (by simp [hj])
      have e0 : (⟨sb, 0, none⟩ : Addr).add j = ⟨sb, j, none⟩ := by unfold Addr.add; split <;> simp_all
      rw [e0] at this; exact this
    try (case c2 => simp [Value.oneCell'])
    try (case c3 => unfold maxLen; omega)
    try (case c4 => omega)
    try (case c5 => omega)
    intro v1 w1 hown hgrow hl1
    have o1 : w1.ownsRow w.heap.size 2 1 v1 st.size ((rowN st.S st.size).map (Value.int .i64)) := by
      simpa using hown
    have B1 : Below w.heap.size w w1 := (Below.refl _ _).grown hgrow (Nat.le_refl _) (fun k hk => by cases hk)
    have HM2 := Lib.hid (HM.out.same fun b hb => B1.block b hb)
    clear hown hgrow c1
    obtain ⟨A1, cA1, rfl⟩ := own_slice o1
    rcases (HM.out.at_ (r := .V) rfl).2 with ⟨ev, hz⟩ | ⟨vb, vc, curv, ev, _, _, hv1, hv2, _⟩
    · simp only at ev hz
      have c2 : w1.cell? ⟨mb, 2, none⟩ = some (.slice none 0 0) := by have := bcell HM2.out 2 (by omega); rw [this]; exact congrArg some ev
      have HZ2 := Lib.hid hz
      clear ev hz
      go_wp2_with (at_builtin; refine wpList_append_own_none rfl _ _ 22 rfl w.heap.size 2 i0 1 Try.underlying22 hi0 _ _ _ rfl o1 rfl ?_)
      go_wp2
      go_ret
      exact ⟨_, rfl, by
        have hz := HZ2.out
        have e : rowN st.V st.size = [] := by rw [hz]; rfl
        rw [e, List.append_nil, show st.size + st.size = st.size from by omega]
        exact o1, B1⟩
    · simp only at ev hv1
      have c2 : w1.cell? ⟨mb, 2, none⟩ = some (.slice (some ⟨vb, 0, none⟩) st.size vc) := by have := bcell HM2.out 2 (by omega); rw [this]; exact congrArg some ev
      have hrow : w1.ownsRow B 2 1 (.slice (some ⟨vb, 0, none⟩) st.size vc) st.size ((rowN st.V st.size).map (Value.int .i64)) := by
        rw [rowN_cells, ← ev]; exact HM2.out.at_ (r := .V) rfl
      have HR := Lib.hid hrow
      clear ev hrow
      go_wp2_with (at_builtin; refine wpList_append_own _ rfl _ _ 22 rfl w.heap.size 2 i0 (.int .i64 0) 1 8 Try.underlying22 hi0 hz0 hz1 hz2 rfl (by decide) _ _ _ rfl o1 ⟨vb, 0, none⟩ st.size vc ((rowN st.V st.size).map (Value.int .i64)) rfl (by simp [rowN]) ?d1 ?d2 ?d3 ?d4 ?d5 ?_)
      case d1 =>
        intro j a hj
        have := row_cells HR.out j (.int .i64 a) (by simp [hj])
        have e0 : (⟨vb, 0, none⟩ : Addr).add j = ⟨vb, j, none⟩ := by unfold Addr.add; split <;> simp_all
        rw [e0] at this; exact this
      try (case d2 => simp [Value.oneCell'])
      try (case d3 => unfold maxLen; omega)
      try (case d4 => omega)
      try (case d5 => have := B1.size; omega)
      intro v3 w3 hown hgrow hl3
      have k4 : w3.ownsRow w.heap.size 2 1 v3 (st.size + st.size) ((rowN st.S st.size ++ rowN st.V st.size).map (Value.int .i64)) := by rw [List.map_append]; exact hown
      have hb3 := B1.grown hgrow B1.size (fun k hk => (o1.lt k hk).1)
      clear hown hgrow
      go_wp2
      go_ret
      exact ⟨_, rfl, k4, hb3⟩
end
end Go.Proofs.Yteainbnoemkfcaa
namespace Go.Proofs.Yteainbnoemkfcaa
open Go.RowKit Go.Turn
theorem right_pow (n : Int) : RightI n ↔ ∃ j : Nat, j ≤ 16 ∧ n = ((2 ^ j : Nat) : Int) := by
  constructor
  · rintro ⟨h1, h2, h3⟩
    obtain ⟨m, rfl⟩ : ∃ m : Nat, n = m := ⟨n.toNat, by omega⟩
    have hm : m ≠ 0 := by omega
    have hb := (bits_nat .i64 62 (by decide) (fun n h0 h1 => by rw [IntKind.wrap_i64]; omega) m (m - 1) (by omega) (by omega)).1
    rw [show ((m : Int) - 1) = ((m - 1 : Nat) : Int) from by omega, hb] at h3
    have h4 : m &&& (m - 1) = 0 := by simpa using h3
    obtain ⟨k, hk⟩ := (Nat.and_sub_one_eq_zero_iff_isPowerOfTwo hm).1 h4
    refine ⟨k, ?_, by rw [hk]⟩
    have : 2 ^ k ≤ 2 ^ 16 := by rw [← hk]; omega
    exact (Nat.pow_le_pow_iff_right (by omega)).1 this
  · rintro ⟨j, hj, rfl⟩
    have h0 : 0 < 2 ^ j := Nat.two_pow_pos j
    have h1 : 2 ^ j ≤ 2 ^ 16 := Nat.pow_le_pow_right (by omega) hj
    refine ⟨by omega, by omega, ?_⟩
    have hb := (bits_nat .i64 62 (by decide) (fun n h0 h1 => by rw [IntKind.wrap_i64]; omega) (2 ^ j) (2 ^ j - 1) (by omega) (by omega)).1
    rw [show (((2 ^ j : Nat) : Int) - 1) = ((2 ^ j - 1 : Nat) : Int) from by omega, hb]
    have := (Nat.and_sub_one_eq_zero_iff_isPowerOfTwo (n := 2 ^ j) (by omega)).2 ⟨j, rfl⟩
    rw [this]
    rfl
theorem refright_ok (n : Int) (w : World) (hr : -9223372036854775808 ≤ n) : Calls Try.prog 13 #[.int .i64 n] w fun e w' => e = .returned (.bool (decide (RightI n))) ∧ w = w' := by
  go_enter Try.func13, Try.ntmps13
  go_wp2
  go_loopw [3] (fun v wr => ∃ j : Nat, j ≤ 17 ∧ v = .int .i64 ((2 ^ j : Nat) : Int) ∧ (∀ k, k < j → n ≠ ((2 ^ k : Nat) : Int)) ∧ wr = w) (fun v _ => 131073 - (intOf v).toNat)
  case atStart => exact ⟨0, by omega, rfl, fun k hk => by omega, rfl⟩
  case round =>
    obtain ⟨j, hj, rfl, hall, rfl⟩ := hrel
    obtain ⟨x, hx⟩ : ∃ x, x = 2 ^ j := ⟨_, rfl⟩
    have hx0 : 0 < x := by rw [hx]; exact Nat.two_pow_pos j
    have hx1 : x ≤ 131072 := by rw [hx]; exact Nat.pow_le_pow_right (n := 2) (by omega) hj
    have hx2 : 2 * x = 2 ^ (j + 1) := by rw [Nat.pow_succ, hx]; omega
    have HX := Lib.hid hx
    have HX2 := Lib.hid hx2
    have HA := Lib.hid hall
    rw [← hx]
    clear hx hx2 hall
    by_cases hle : j ≤ 16
    · have hxl : x ≤ 65536 := by rw [HX.out]; exact Nat.pow_le_pow_right (n := 2) (by omega) hle
      by_cases he : (x : Int) = n
      · have fe : ((x : Int) == n) = true := by simpa using he
        have HR := Lib.hid (show RightI n from (right_pow n).2 ⟨j, hle, by rw [← he, HX.out]⟩)
        clear he
        go_wp2
        go_ret
        exact ⟨by rw [decide_eq_true HR.out]; rfl, rfl⟩
      · have fe : ((x : Int) == n) = false := by simpa using he
        have HA2 := Lib.hid (show ∀ k, k < j + 1 → n ≠ ((2 ^ k : Nat) : Int) from fun k hk hz => by
          by_cases e : k = j
          · exact he (by rw [hz, e, HX.out])
          · exact HA.out k (by omega) hz)
        clear he
        go_wp2
        go_roundw
        case rel => exact ⟨j + 1, by omega, by rw [← HX2.out]; go_num, HA2.out, trivial⟩
        case measure => simp [intOf]; omega
    · have hj17 : j = 17 := by omega
      have hxl : 65536 < x := by rw [HX.out, hj17]; decide
      have HR := Lib.hid (show ¬ RightI n from fun h => by
        obtain ⟨k, hk, e⟩ := (right_pow n).1 h
        exact HA.out k (by omega) e)
      clear hj17
      go_wp2
      go_ret
      exact ⟨by rw [decide_eq_false HR.out]; rfl, rfl⟩
end Go.Proofs.Yteainbnoemkfcaa
namespace Go.Proofs.Yteainbnoemkfcaa
open Go.RowKit Go.Turn
open Go.ConcN (upd upd_ne upd_same)
def bareM (k : Nat) (S V : Nat → Int) : RM := ⟨k, S, V, 0, fun _ => [], fun _ => [], fun _ => 0, fun _ => 0, fun _ => 0, fun _ => 0, fun _ => 0, fun _ => [], fun _ => none⟩
def newM (ss : List Int) : RM := bareM (rnOf ss) (s0Of ss).1 (s0Of ss).2
def boxN (K : Int) (vS vV : Value) : Nat → Value
  | 0 => .int .i64 K
  | 1 => vS
  | 2 => vV
  | 3 => nilV
  | _ => .int .i64 0
def memN (mb : Nat) (K : Int) (a : Nat) (vS : Value) (b : Nat) (vV : Value) : Rl → Option Row
  | .box => some ⟨102, 5, .slice (some ⟨mb, 0, none⟩) 1 1, 1, boxN K vS vV⟩
  | .S => some ⟨2, 1, vS, a, fun _ => .int .i64 (-2)⟩
  | .V => some ⟨2, 1, vV, b, fun _ => .int .i64 0⟩
  | _ => none
section
variable {B mb a b : Nat} {K : Int} {vS vV : Value} {oV : Nat → Value} {w w1 : World}
theorem ncell (h : Mems B (memN mb K a vS b vV) w) (k : Nat) (hk : k < 5) : w.cell? ⟨mb, k, none⟩ = some (boxN K vS vV k) := h.cell (r := .box) rfl (by omega)
theorem nfroz (h : Mems B (memN mb K a vS b vV) w) (k : Nat) : w.frozen? ⟨mb, k, none⟩ = false := h.frozen (r := .box) rfl k
theorem snoc_cells (n : Nat) (x : Value) : cellsN (n * 1) (fun _ => x) ++ [x] = cellsN ((n + 1) * 1) (fun _ => x) := by
  rw [show ([x] : List Value) = cellsN 1 (fun _ => x) from rfl, cellsN_app, show n * 1 + 1 = (n + 1) * 1 from by omega]
  exact cellsN_congr fun k _ => by split <;> rfl
theorem appS {v' : Value} (h : Mems B (memN mb K a vS b vV) w) (hown : w1.ownsRow B 2 1 v' (a + 1) (cellsN (a * 1) (fun _ => .int .i64 (-2)) ++ [.int .i64 (-2)])) (hg : w.grownBy w1 vS.ownBlock) (hv : v'.ownBlock = vS.ownBlock ∨ v'.ownBlock = some w.heap.size) :
    w1.cell? ⟨mb, 1, none⟩ = some vS ∧ w1.frozen? ⟨mb, 1, none⟩ = false ∧ Mems B (memN mb K (a + 1) v' b vV) (w1.setCell ⟨mb, 1, none⟩ v') := by
  have h1 : Mems B (fun r => if r = .S then some ⟨2, 1, v', a + 1, fun _ => .int .i64 (-2)⟩ else memN mb K a vS b vV r) w1 :=
    h.app (r := .S) (d' := ⟨2, 1, v', a + 1, fun _ => .int .i64 (-2)⟩) rfl (if_pos rfl) (fun r hr => by simp [hr]) hg (by show w1.ownsRow B _ 1 v' (a + 1) (cellsN ((a + 1) * 1) _); rw [← snoc_cells]; exact hown) hv
  have eb : (fun r => if r = Rl.S then some (⟨2, 1, v', a + 1, fun _ => .int .i64 (-2)⟩ : Row) else memN mb K a vS b vV r) .box = some ⟨102, 5, .slice (some ⟨mb, 0, none⟩) 1 1, 1, boxN K vS vV⟩ := rfl
  refine ⟨h1.cell eb (by omega), h1.frozen eb 1, h1.set (f' := boxN K v' vV) eb 1 v' rfl (fun k hk => ?_) fun r hr => ?_⟩
  · rcases k with _ | _ | _ | _ | k <;> simp [boxN]
  · cases r <;> first | rfl | exact absurd rfl hr
theorem appV {v' : Value} (h : Mems B (memN mb K a vS b vV) w) (hown : w1.ownsRow B 2 1 v' (b + 1) (cellsN (b * 1) (fun _ => .int .i64 0) ++ [.int .i64 0])) (hg : w.grownBy w1 vV.ownBlock) (hv : v'.ownBlock = vV.ownBlock ∨ v'.ownBlock = some w.heap.size) :
    w1.cell? ⟨mb, 2, none⟩ = some vV ∧ w1.frozen? ⟨mb, 2, none⟩ = false ∧ Mems B (memN mb K a vS (b + 1) v') (w1.setCell ⟨mb, 2, none⟩ v') := by
  have h1 : Mems B (fun r => if r = .V then some ⟨2, 1, v', b + 1, fun _ => .int .i64 0⟩ else memN mb K a vS b vV r) w1 :=
    h.app (r := .V) (d' := ⟨2, 1, v', b + 1, fun _ => .int .i64 0⟩) rfl (if_pos rfl) (fun r hr => by simp [hr]) hg (by show w1.ownsRow B _ 1 v' (b + 1) (cellsN ((b + 1) * 1) _); rw [← snoc_cells]; exact hown) hv
  have eb : (fun r => if r = Rl.V then some (⟨2, 1, v', b + 1, fun _ => .int .i64 0⟩ : Row) else memN mb K a vS b vV r) .box = some ⟨102, 5, .slice (some ⟨mb, 0, none⟩) 1 1, 1, boxN K vS vV⟩ := rfl
  refine ⟨h1.cell eb (by omega), h1.frozen eb 2, h1.set (f' := boxN K vS v') eb 2 v' rfl (fun k hk => ?_) fun r hr => ?_⟩
  · rcases k with _ | _ | _ | _ | k <;> simp [boxN]
  · cases r <;> first | rfl | exact absurd rfl hr
def valN (vS vV : Value) : Rl → Value
  | .S => vS
  | .V => vV
  | _ => nilV
theorem mems_bare {k : Nat} (h : Mems B (memN mb k k vS k vV) w) : Mems B (memOf mb (bareM k (fun _ => -2) (fun _ => 0)) (valN vS vV) oV) w := by
  refine h.dropped fun r d hr => ?_
  cases r with
  | box =>
    have : boxF (bareM k (fun _ => -2) (fun _ => 0)) (valN vS vV) = boxN k vS vV := by
      funext j
      rcases j with _ | _ | _ | _ | j <;> rfl
    left
    simpa [memOf, memN, this] using hr
  | S => exact .inl hr
  | V => exact .inl hr
  | T => cases hr; exact .inr ⟨rfl, rfl⟩
  | ans i => simp [memOf, bareM] at hr
  | seen i => simp [memOf, bareM] at hr
  | ls i k => simp [memOf, bareM] at hr
  | ext k => simp [memOf, bareM] at hr
theorem mems_first {w : World} (hb : Blk w mb 102 #[.int .i64 K, .slice none 0 0, .slice none 0 0, .slice none 0 0, .int .i64 0]) (hB : B ≤ mb) : Mems B (memN mb K 0 nilV 0 nilV) w := by
  refine ⟨fun _ => some .box, fun r d hr => ?_⟩
  cases r with
  | box =>
    cases hr
    exact ⟨row_blk hb hB (boxN K nilV nilV) (fun j hj => by rcases j with _ | _ | _ | _ | _ | j <;> simp [boxN, nilV] at hj ⊢; omega), fun _ _ => rfl⟩
  | S => cases hr; exact ⟨⟨by simp [cellsN], .inl ⟨rfl, rfl⟩⟩, fun b hb => by cases hb⟩
  | V => cases hr; exact ⟨⟨by simp [cellsN], .inl ⟨rfl, rfl⟩⟩, fun b hb => by cases hb⟩
  | _ => cases hr
set_option maxHeartbeats 4000000 in
set_option maxRecDepth 100000 in
theorem refnew_ok (oV : Nat → Value) (w : World) (ss : List Int) (sA : Option Addr) (sc : Nat) (hst : NumsIn w sA sc ss) (hr : ∀ x ∈ ss, -9223372036854775808 ≤ x) (hlen : ss.length ≤ 4611686018427387903) :
    Calls Try.prog 34 #[.slice sA ss.length sc] w fun e w' => e = .returned (.pointer (some ⟨w.heap.size, 0, none⟩)) ∧ RMem w.heap.size w.heap.size oV (newM ss) w' ∧ Below w.heap.size w w' := by
  have HN := Lib.hid hst
  obtain ⟨i0, hi0, hz0, hz1, hz2⟩ := info_parts Try.info64
  obtain ⟨mb, hmb⟩ : ∃ mb, mb = w.heap.size := ⟨_, rfl⟩
  rw [← hmb]
  have hb0 : Blk (w.alloc (.cells #[.int .i64 0, .slice none 0 0, .slice none 0 0, .slice none 0 0, .int .i64 0] 102)) mb _ _ := hmb ▸ Blk.new w 102 #[.int .i64 0, .slice none 0 0, .slice none 0 0, .slice none 0 0, .int .i64 0]
  have bw : Below mb w (w.alloc (.cells #[.int .i64 0, .slice none 0 0, .slice none 0 0, .slice none 0 0, .int .i64 0] 102)) := (Below.refl _ _).alloc (by omega) _
  have HM := Lib.hid (mems_first hb0 (Nat.le_refl _))
  have HB := Lib.hid bw
  have HL := Lib.hid hlen
  have HMB := Lib.hid hmb
  clear hst hb0 bw hlen
  have bare0 : newM ss = bareM 0 (s0Of ss).1 (s0Of ss).2 → RMem mb mb oV (newM ss) (w.alloc (.cells #[.int .i64 0, .slice none 0 0, .slice none 0 0, .slice none 0 0, .int .i64 0] 102)) := fun e => by
    have hb := mems_bare (oV := oV) (k := 0) HM.out
    rw [e]
    refine ⟨valN nilV nilV, hb.dropped fun r d hr => ?_⟩
    cases r with
    | S => cases hr; exact .inr ⟨rfl, rfl⟩
    | V => cases hr; exact .inr ⟨rfl, rfl⟩
    | _ => exact .inl hr
  have HBA := Lib.hid bare0
  clear bare0
  go_enter Try.func34, Try.ntmps34
  refine wp_cut fun K hK => ?_
  go_wp2
  refine hK.out _ _ ?_
  clear hK K
  refine wp_cut fun K hK => ?_
  go_wp2
  refine hK.out _ _ ?_
  clear hK K
  rw [← hmb]
  clear hmb
  obtain ⟨L, hL⟩ : ∃ L, L = ss.length := ⟨_, rfl⟩
  rw [← hL]
  have HLL := Lib.hid hL
  clear hL
  rcases ss with _ | ⟨n, vs⟩
  · have HX := Lib.hid (HBA.out rfl)
    have fL : ((L : Int) == 0) = true := by have := HLL.out; simp at this; simp [this]
    clear HBA HM hr
    generalize World.alloc _ _ = v at *
    go_wp2
    go_ret
    exact ⟨rfl, HX.out, HB.out⟩
  have hL0 : 0 < L := by have := HLL.out; simp at this; omega
  have fL : ((L : Int) == 0) = false := by simp; omega
  have h0 : n = (n :: vs).getD 0 0 := rfl
  obtain ⟨sb, so, rfl, hs0'⟩ := HN.out.cells 0 (by simp)
  have hs0 : w.cell? ⟨sb, so, none⟩ = some (.int .i64 n) := hs0'
  have lsb := lt_of_cell hs0
  have hn := hr n (by simp)
  have hs1 : (w.alloc (.cells #[.int .i64 0, .slice none 0 0, .slice none 0 0, .slice none 0 0, .int .i64 0] 102)).cell? ⟨sb, so, none⟩ = some (.int .i64 n) := (World.cell?_of_block (a := ⟨sb, so, none⟩) (Below.heap_alloc _ _ _ lsb)).trans hs0
  clear h0 hs0 hs0'
  by_cases hR : RightI n
  · have HR := Lib.hid (show ∀ y, Calls Try.prog 13 #[.int .i64 n] y fun e w' => e = .returned (.bool true) ∧ y = w' from fun y => by have := refright_ok n y hn; rw [decide_eq_true hR] at this; exact this)
    obtain ⟨k, rfl⟩ : ∃ k : Nat, n = k := ⟨n.toNat, by have := hR.1; omega⟩
    have hk0 : 0 < k := by have := hR.1; omega
    have hk2 : k ≤ 65536 := by have := hR.2.1; omega
    have HX := Lib.hid (show newM ((k : Int) :: vs) = bareM k (begS k vs vs.length).1 (begS k vs vs.length).2 from by unfold newM rnOf s0Of; simp only [if_pos hR, Int.toNat_natCast])
    clear HBA hr hR hn
    generalize World.alloc _ _ = v at *
    have c0 := ncell HM.out 0 (by omega)
    have z0 := nfroz HM.out 0
    simp only [boxN] at c0
    have hm1 : Mems mb (memN mb k 0 nilV 0 nilV) (v.setCell ⟨mb, 0, none⟩ (.int .i64 k)) := HM.out.set (r := .box) (f' := boxN k nilV nilV) rfl 0 _ rfl (fun j hj => by rcases j with _ | _ | _ | _ | j <;> simp [boxN]) fun r hr => by cases r <;> first | rfl | exact absurd rfl hr
    have hb1 := HB.out.setCell (p := ⟨mb, 0, none⟩) (Nat.le_refl _) (.int .i64 k)
    have HM1 := Lib.hid hm1
    have HB1 := Lib.hid hb1
    clear hm1 hb1 HM
    refine wp_cut fun K hK => ?_
    go_wp2_with (go_at_call 13; refine (HR.out _).mono ?_; rintro e w' ⟨rfl, rfl⟩)
    refine hK.out _ _ ?_
    clear hK K
    refine wp_cut fun K hK => ?_
    go_wp2
    refine hK.out _ _ ?_
    clear hK K c0 z0 hs1 HB
    generalize World.setCell _ _ _ = v1 at *
    go_wp2
    go_loopw [4] (fun i wr => ∃ (j : Nat) (vS vV : Value), j ≤ k ∧ i = .int .i64 j ∧ Mems mb (memN mb k j vS j vV) wr ∧ Below mb w wr) (fun i _ => k - (intOf i).toNat)
    case atStart => exact ⟨0, nilV, nilV, Nat.zero_le _, rfl, HM1.out, HB1.out⟩
    case round =>
      obtain ⟨j, vS, vV, hj, rfl, hm, hb⟩ := hrel
      have HM2 := Lib.hid hm
      have HB2 := Lib.hid hb
      have c0 := ncell hm 0 (by omega)
      simp only [boxN] at c0
      clear hm hb
      by_cases hlt : j < k
      · refine wp_cut fun K hK => ?_
        go_wp2
        refine hK.out _ _ ?_
        clear hK K
        refine wp_cut fun K2 hK2 => ?_
        refine wp_block ?_
        refine wp_cut fun K hK => ?_
        have hq : wr.ownsRow mb 2 1 vS j (cellsN (j * 1) (fun _ => .int .i64 (-2))) := HM2.out.at_ (r := .S) rfl
        obtain ⟨A2, cA2, rfl⟩ := own_slice hq
        have d2 := ncell HM2.out 1 (by omega)
        simp only [boxN] at d2
        have HQ2 : Hid (wr.ownsRow mb 2 1 (.slice A2 j cA2) j (cellsN (j * 1) (fun _ => .int .i64 (-2)))) := Lib.hid hq
        have hsz2 : mb ≤ wr.heap.size := Nat.le_trans (by have := HMB.out; omega) HB2.out.size
        clear hq
        go_wp2_with (at_builtin; refine wpList_append_lies _ rfl _ _ 22 rfl mb 2 i0 (.int .i64 0) 1 8 Try.underlying22 hi0 hz0 hz1 hz2 rfl (by decide) (.slice A2 j cA2) j _ rfl (HQ2.out.alloc _) ⟨wr.heap.size, 0, none⟩ 1 1 [.int .i64 (-2)] rfl rfl (World.news_of_block (cs := #[.int .i64 (-2)]) (t := 2) (fr := (0, 0)) (Blk.new wr 2 #[.int .i64 (-2)])) (by simp [Value.oneCell']) (by omega) (by unfold maxLen; omega) (by omega) (by simp; omega) (wr.heap.size + 1) (by simp) ?_)
        intro gg2 cap2 y2 hown hgrow hgat hgl
        obtain ⟨e2, z2, hm⟩ := appS (v' := .slice (some ⟨gg2, 0, none⟩) (j + 1) cap2) (HM2.out.alloc (.cells #[.int .i64 (-2)] 2)) (by simpa using hown) hgrow (by
          rcases hgat with z | z
          · exact .inl z.symm
          · right; simp [Value.ownBlock, z])
        have hb := ((HB2.out.alloc hsz2 (.cells #[.int .i64 (-2)] 2)).grown hgrow (by simp; omega) (fun b hb => (HQ2.out.lt b hb).1)).setCell (p := ⟨mb, 1, none⟩) (Nat.le_refl _) (.slice (some ⟨gg2, 0, none⟩) (j + 1) cap2)
        have HM3 := Lib.hid hm
        have HB3 := Lib.hid hb
        clear hm hb hown hgrow hgat d2
        go_wp2
        refine hK.out _ _ ?_
        clear hK K e2 z2
        generalize World.setCell _ _ _ = wr2 at *
        have hq : wr2.ownsRow mb 2 1 vV j (cellsN (j * 1) (fun _ => .int .i64 0)) := HM3.out.at_ (r := .V) rfl
        obtain ⟨A3, cA3, rfl⟩ := own_slice hq
        have d3 := ncell HM3.out 2 (by omega)
        simp only [boxN] at d3
        have HQ3 : Hid (wr2.ownsRow mb 2 1 (.slice A3 j cA3) j (cellsN (j * 1) (fun _ => .int .i64 0))) := Lib.hid hq
        have hsz3 : mb ≤ wr2.heap.size := Nat.le_trans (by have := HMB.out; omega) HB3.out.size
        clear hq
        go_wp2_with (at_builtin; refine wpList_append_lies _ rfl _ _ 22 rfl mb 2 i0 (.int .i64 0) 1 8 Try.underlying22 hi0 hz0 hz1 hz2 rfl (by decide) (.slice A3 j cA3) j _ rfl (HQ3.out.alloc _) ⟨wr2.heap.size, 0, none⟩ 1 1 [.int .i64 0] rfl rfl (World.news_of_block (cs := #[.int .i64 0]) (t := 2) (fr := (0, 0)) (Blk.new wr2 2 #[.int .i64 0])) (by simp [Value.oneCell']) (by omega) (by unfold maxLen; omega) (by omega) (by simp; omega) (wr2.heap.size + 1) (by simp) ?_)
        intro gg3 cap3 y3 hown hgrow hgat hgl
        obtain ⟨e3, z3, hm⟩ := appV (v' := .slice (some ⟨gg3, 0, none⟩) (j + 1) cap3) (HM3.out.alloc (.cells #[.int .i64 0] 2)) (by simpa using hown) hgrow (by
          rcases hgat with z | z
          · exact .inl z.symm
          · right; simp [Value.ownBlock, z])
        have hb := ((HB3.out.alloc hsz3 (.cells #[.int .i64 0] 2)).grown hgrow (by simp; omega) (fun b hb => (HQ3.out.lt b hb).1)).setCell (p := ⟨mb, 2, none⟩) (Nat.le_refl _) (.slice (some ⟨gg3, 0, none⟩) (j + 1) cap3)
        have HM4 := Lib.hid hm
        have HB4 := Lib.hid hb
        clear hm hb hown hgrow hgat d3
        go_wp2
        refine hK2.out _ _ ?_
        clear hK2 K2 e3 z3
        generalize World.setCell _ _ _ = wr3 at *
        go_wp2
        go_roundw
        case rel => exact ⟨j + 1, _, _, by omega, by go_num, HM4.out, HB4.out⟩
        case measure => simp [intOf]; omega
      · have ej : j = k := by omega
        subst ej
        have HM5 := Lib.hid (mems_bare (oV := oV) HM2.out)
        go_wp2
        rename World => wq
        have HB5 := HB2
        clear HM2 HB2 HM1 HB1
        go_loopw [5, 6] (fun i q wr => ∃ (m : Nat) (V : Rl → Value), m ≤ vs.length ∧ i = .int .i64 ((m : Int) + 1) ∧ Mems mb (memOf mb (bareM j (begS j vs m).1 (begS j vs m).2) V oV) wr ∧ Below mb w wr) (fun i _ _ => L - (intOf i).toNat)
        case atStart => exact ⟨0, _, Nat.zero_le _, rfl, HM5.out, HB5.out⟩
        case round =>
          obtain ⟨m, V, hmv, rfl, hm, hb⟩ := hrel
          have HM6 := Lib.hid hm
          have HB6 := Lib.hid hb
          have hL1 : vs.length + 1 ≤ L := by have := HLL.out; simp at this; omega
          have hL2 : L ≤ vs.length + 1 := by have := HLL.out; simp at this; omega
          have hL3 : vs.length + 1 ≤ 4611686018427387903 := by have := HL.out; simpa using this
          by_cases hlm : m < vs.length
          · obtain ⟨q, hq⟩ : ∃ q : Int, q = m := ⟨_, rfl⟩
            have hq0 : 0 ≤ q := by omega
            have hq1 : q < 4611686018427387904 := by omega
            have hq2 : q + 1 < (L : Int) := by omega
            have hb0 : 0 ≤ q % (j : Int) := Int.emod_nonneg _ (by omega)
            have hb1 : q % (j : Int) < j := Int.emod_lt_of_pos _ (by omega)
            have hd0 : 0 ≤ q / (j : Int) := Int.ediv_nonneg hq0 (by omega)
            have hd1 : q / (j : Int) ≤ q := Int.ediv_le_self _ hq0
            have HQM := Lib.hid hq
            rw [← hq]
            clear hq
            obtain ⟨⟨Sb, Sc, hS, hSc, hSm⟩, Vb, Vc, hV, hVc, hVm⟩ := sb_of hm hk0
            have HS_ : Hid (V .S = .slice (some ⟨Sb, 0, none⟩) j Sc) := Lib.hid hS
            have HV_ : Hid (V .V = .slice (some ⟨Vb, 0, none⟩) j Vc) := Lib.hid hV
            have d1 : wr.cell? ⟨mb, 1, none⟩ = some (.slice (some ⟨Sb, 0, none⟩) j Sc) := by have := bcell hm 1 (by omega); rw [this]; exact congrArg some HS_.out
            have HSL := Lib.hid (show ∀ n, Calls Try.prog 45 #[.pointer (some ⟨mb, 0, none⟩), .int .i64 q] (wr.drewN n) fun e w' => e = .returned (.int .i64 (q % (j : Int))) ∧ wr.drewN n = w' from fun n => refslot_ok (st := bareM j (begS j vs m).1 (begS j vs m).2) (HM6.out.drewN n) hk0 hk2 q ⟨hq0, hq1⟩)
            have HLA := Lib.hid (show ∀ n, Calls Try.prog 44 #[.pointer (some ⟨mb, 0, none⟩), .int .i64 q] (wr.drewN n) fun e w' => e = .returned (.int .i64 (q / (j : Int))) ∧ wr.drewN n = w' from fun n => reflap_ok (st := bareM j (begS j vs m).1 (begS j vs m).2) (HM6.out.drewN n) hk0 hk2 q ⟨hq0, hq1⟩)
            clear hm hb hS hV
            obtain ⟨x, hx⟩ : ∃ x : Nat, q % (j : Int) = x := ⟨_, (Int.toNat_of_nonneg hb0).symm⟩
            rw [hx] at hb0 hb1 HSL
            have HXX := Lib.hid hx
            obtain ⟨l, hl⟩ : ∃ l, l = q / (j : Int) := ⟨_, rfl⟩
            rw [← hl] at hd0 hd1 HLA
            have HLL2 := Lib.hid hl
            have hxj : x < j := by omega
            clear hx hl
            refine wp_cut fun K hK => ?_
            go_wp2
            refine hK.out _ _ ?_
            clear hK K
            refine wp_cut fun K2 hK2 => ?_
            refine wp_block ?_
            refine wp_cut fun K hK => ?_
            go_wp2
            refine hK.out _ _ ?_
            clear hK K
            refine wp_cut fun K hK => ?_
            refine wp_region_lastQ 12 (by kernel_rfl) (by kernel_rfl) (by kernel_rfl) (by kernel_rfl) ?_
            simp only [idle, List.modify_toArray, List.modify_succ_cons, List.modify_zero_cons, List.size_toArray, List.length_cons, List.length_nil, Nat.reduceAdd]
            repeat (go_big_quiet_step (first | (go_at_call 45; exact quietS (HSL.out _)) | (go_at_call 44; exact quietS (HLA.out _))))
            refine wpQuiet_nil ?_
            rintro _ ⟨nq, rfl⟩
            refine wpOps_list (m := 12) rfl ?_
            have s0 : (wr.drewN nq).cell? ⟨Sb, x, none⟩ = some (.int .i64 ((begS j vs m).1 x)) := (HM6.out.drewN nq).cell (r := .S) (e := 2) (sz := 1) (n := j) (cap := Sc) (f := fun y => .int .i64 ((begS j vs m).1 y)) (by simp only [memOf, bareM, HS_.out]) (by omega)
            have zs := (HM6.out.drewN nq).frozen (r := .S) (e := 2) (sz := 1) (g := Sb) (n := j) (cap := Sc) (f := fun y => .int .i64 ((begS j vs m).1 y)) (by simp only [memOf, bareM, HS_.out]) x
            go_wp2
            refine hK.out _ _ ?_
            clear hK K s0 zs d1 c0
            have hm := sset (HM6.out.drewN nq) HS_.out hxj (2 * l)
            have hb := (Below.drewN HB6.out nq).setCell (p := ⟨Sb, x, none⟩) ((HM6.out.lt (r := .S) rfl (by show (V Rl.S).ownBlock = _; rw [HS_.out]; rfl)).1) (.int .i64 (2 * l))
            have HM7 : Hid (Mems mb (memOf mb (bareM j (upd (begS j vs m).1 x (2 * l)) (begS j vs m).2) V oV) ((wr.drewN nq).setCell ⟨Sb, x, none⟩ (.int .i64 (2 * l)))) := Lib.hid hm
            have HB7 := Lib.hid hb
            clear hm hb HM6 HB6 HSL HLA
            generalize World.setCell _ _ _ = wr2 at *
            obtain ⟨y, hy⟩ : ∃ y, y = vs.getD m 0 := ⟨_, rfl⟩
            have hcell : wr2.cell? ⟨sb, so + (m + 1), none⟩ = some (.int .i64 y) := by
              obtain ⟨b', o', e1, e2⟩ := HN.out.cells (m + 1) (by simp; omega)
              cases e1
              have h3 := (World.cell?_of_block (a := ⟨sb, so + (m + 1), none⟩) (HB7.out.block sb (by have := HMB.out; omega))).trans e2
              rw [h3, hy]
              simp
            have hidx : (q + 1).toNat = m + 1 := by have := HQM.out; omega
            have HY := Lib.hid hy
            have d2 : wr2.cell? ⟨mb, 2, none⟩ = some (.slice (some ⟨Vb, 0, none⟩) j Vc) := by have := bcell HM7.out 2 (by omega); rw [this]; exact congrArg some HV_.out
            have HSL := Lib.hid (show ∀ n, Calls Try.prog 45 #[.pointer (some ⟨mb, 0, none⟩), .int .i64 q] (wr2.drewN n) fun e w' => e = .returned (.int .i64 (x : Int)) ∧ wr2.drewN n = w' from fun n => by rw [← HXX.out]; exact refslot_ok (st := bareM j (upd (begS j vs m).1 x (2 * l)) (begS j vs m).2) (HM7.out.drewN n) hk0 hk2 q ⟨hq0, hq1⟩)
            clear hy
            obtain ⟨i1, hi1⟩ : ∃ i1 : Nat, i1 = m + 1 := ⟨_, rfl⟩
            have hi2 : q + 1 = (i1 : Int) := by have := HQM.out; omega
            have HI1 := Lib.hid hi1
            rw [← hi1] at hcell
            rw [hi2]
            have hi3 : (i1 : Int) < L := by omega
            clear hidx hi2 hi1
            refine wp_region_lastQ 12 (by kernel_rfl) (by kernel_rfl) (by kernel_rfl) (by kernel_rfl) ?_
            simp only [idle, List.modify_toArray, List.modify_succ_cons, List.modify_zero_cons, List.size_toArray, List.length_cons, List.length_nil, Nat.reduceAdd]
            repeat (go_big_quiet_step (first | (go_at_call 45; exact quietS (HSL.out _))))
            refine wpQuiet_nil ?_
            rintro _ ⟨nq2, rfl⟩
            refine wpOps_list (m := 12) rfl ?_
            have s0 : (wr2.drewN nq2).cell? ⟨Vb, x, none⟩ = some (.int .i64 ((begS j vs m).2 x)) := (HM7.out.drewN nq2).cell (r := .V) (e := 2) (sz := 1) (n := j) (cap := Vc) (f := fun y => .int .i64 ((begS j vs m).2 y)) (by simp only [memOf, bareM, HV_.out]) (by omega)
            have zs := (HM7.out.drewN nq2).frozen (r := .V) (e := 2) (sz := 1) (g := Vb) (n := j) (cap := Vc) (f := fun y => .int .i64 ((begS j vs m).2 y)) (by simp only [memOf, bareM, HV_.out]) x
            go_wp2
            refine hK2.out _ _ ?_
            clear hK2 K2 s0 zs d2 hcell
            have hm := vset (HM7.out.drewN nq2) HV_.out hxj y
            have hb := (Below.drewN HB7.out nq2).setCell (p := ⟨Vb, x, none⟩) ((HM7.out.lt (r := .V) rfl (by show (V Rl.V).ownBlock = _; rw [HV_.out]; rfl)).1) (.int .i64 y)
            have e1 : begS j vs (m + 1) = (upd (begS j vs m).1 x (2 * l), upd (begS j vs m).2 x y) := by
              simp only [begS]
              rw [← HQM.out, HXX.out, ← HLL2.out, ← HY.out]
              rfl
            have HM8 : Hid (Mems mb (memOf mb (bareM j (begS j vs (m + 1)).1 (begS j vs (m + 1)).2) V oV) ((wr2.drewN nq2).setCell ⟨Vb, x, none⟩ (.int .i64 y))) := Lib.hid (by rw [e1]; exact hm)
            have HB8 := Lib.hid hb
            have HI2 : Hid ((i1 : Int) + 1 = ((m + 1 : Nat) : Int) + 1) := Lib.hid (by have := HI1.out; omega)
            have hi1 : i1 ≤ m + 1 := by have := HI1.out; omega
            have hi2 : m + 1 ≤ i1 := by have := HI1.out; omega
            clear hm hb e1
            generalize World.setCell _ _ _ = wr3 at *
            go_wp2
            go_roundw
            case rel => exact ⟨m + 1, V, by omega, by rw [← HI2.out], HM8.out, HB8.out⟩
            case measure => have hqm := HQM.out; simp [intOf]; omega
          · have em : m = vs.length := by omega
            subst em
            go_wp2
            go_ret
            exact ⟨rfl, by rw [HX.out]; exact ⟨V, HM6.out⟩, HB6.out⟩
  · have HR := Lib.hid (show ∀ y, Calls Try.prog 13 #[.int .i64 n] y fun e w' => e = .returned (.bool false) ∧ y = w' from fun y => by have := refright_ok n y hn; rw [decide_eq_false hR] at this; exact this)
    have HX := Lib.hid (HBA.out (by unfold newM rnOf s0Of; simp only [if_neg hR]))
    clear HBA HM hr hR
    generalize World.alloc _ _ = v at *
    go_wp2_with (go_at_call 13; refine (HR.out _).mono ?_; rintro e w' ⟨rfl, rfl⟩)
    go_ret
    exact ⟨rfl, HX.out, HB.out⟩
end
end Go.Proofs.Yteainbnoemkfcaa
namespace Go.Proofs.Yteainbnoemkfcaa
open Go.RowKit Go.Turn
open Go.ConcN (upd)
theorem Try.infoThread : (Try.prog.info? 104).map (fun i => (i.zero, i.size, i.bytes)) = some (some (.agg #[.slice none 0 0, .slice none 0 0, .int .i64 0, .int .i64 0, .int .i64 0, .int .i64 0, .int .i64 0, .int .i64 0, .slice none 0 0]), 9, 120) := by kernel_rfl
section
variable {B mb : Nat} {oV : Nat → Value} {st : RM} {V : Rl → Value} {w w1 : World}
def thCells (o : Value) (n : Nat) : List Value := [o, .slice none 0 0, .int .i64 n, .int .i64 0, .int .i64 0, .int .i64 0, .int .i64 0, .int .i64 0, .slice none 0 0]
def hireV (V : Rl → Value) (n : Nat) (v' : Value) : Rl → Value := fun r => if r = .T then v' else if r = .ans n then nilV else if r = .seen n then nilV else V r
theorem hire_app {v' : Value} (h : Mems B (memOf mb st V oV) w) (l : List OpI) (hown : w1.ownsRow B 104 9 v' (st.n + 1) (cellsN (st.n * 9) (recF 9 (thF st V oV)) ++ thCells (oV st.n) st.n))
    (hg : w.grownBy w1 (V .T).ownBlock) (hv : v'.ownBlock = (V .T).ownBlock ∨ v'.ownBlock = some w.heap.size) :
    w1.cell? ⟨mb, 3, none⟩ = some (V .T) ∧ w1.frozen? ⟨mb, 3, none⟩ = false ∧ RMem B mb oV (st.hire l) (w1.setCell ⟨mb, 3, none⟩ v') := by
  have eF : ∀ i k, i < st.n → thF (st.hire l) (hireV V st.n v') oV i k = thF st V oV i k := fun i k hi => by
    have e : i ≠ st.n := by omega
    rcases k with _ | _ | _ | _ | _ | _ | _ | _ | k <;> simp [thF, RM.hire, hireV, Go.ConcN.upd_ne _ _ e, e]
  have h1 : Mems B (fun r => if r = .T then some ⟨104, 9, v', st.n + 1, recF 9 (thF (st.hire l) (hireV V st.n v') oV)⟩ else memOf mb st V oV r) w1 := by
    refine h.app (r := .T) (d' := ⟨104, 9, v', st.n + 1, recF 9 (thF (st.hire l) (hireV V st.n v') oV)⟩) rfl (if_pos rfl) (fun r hr => by simp [hr]) hg ?_ hv
    show w1.ownsRow B _ 9 v' (st.n + 1) (cellsN ((st.n + 1) * 9) _)
    have e : cellsN ((st.n + 1) * 9) (recF 9 (thF (st.hire l) (hireV V st.n v') oV)) = cellsN (st.n * 9) (recF 9 (thF st V oV)) ++ thCells (oV st.n) st.n := by
      rw [cellsN_list (thCells (oV st.n) st.n) undef, cellsN_app, show (thCells (oV st.n) st.n).length = 9 from rfl, show (st.n + 1) * 9 = st.n * 9 + 9 from by omega]
      refine cellsN_congr fun j hj => ?_
      by_cases hlt : j < st.n * 9
      · have : j / 9 < st.n := (Nat.div_lt_iff_lt_mul (by omega)).2 hlt
        simp only [hlt, if_true, recF]
        exact eF _ _ this
      · obtain ⟨k, rfl⟩ : ∃ k, j = st.n * 9 + k := ⟨j - st.n * 9, by omega⟩
        have hk : k < 9 := by omega
        rw [recF_at hk]
        simp only [hlt, if_false, Nat.add_sub_cancel_left]
        rcases k with _ | _ | _ | _ | _ | _ | _ | _ | _ | k
        · simp [thF, thCells]
        · simp [thF, thCells, hireV, nilV]
        · simp [thF, thCells]
        · simp [thF, thCells, RM.hire, Go.ConcN.upd_same]
        · simp [thF, thCells, RM.hire, Go.ConcN.upd_same]
        · simp [thF, thCells, RM.hire, Go.ConcN.upd_same]
        · simp [thF, thCells, RM.hire, Go.ConcN.upd_same]
        · simp [thF, thCells, RM.hire, Go.ConcN.upd_same]
        · simp [thF, thCells, hireV, nilV]
        · omega
    rw [e]; exact hown
  have eb : (fun r => if r = Rl.T then some (⟨104, 9, v', st.n + 1, recF 9 (thF (st.hire l) (hireV V st.n v') oV)⟩ : Row) else memOf mb st V oV r) .box = some ⟨102, 5, .slice (some ⟨mb, 0, none⟩) 1 1, 1, boxF st V⟩ := rfl
  refine ⟨h1.cell eb (by omega), h1.frozen eb 3, hireV V st.n v', ?_⟩
  have h2 : Mems B (fun r => if r = .box then some ⟨102, 5, .slice (some ⟨mb, 0, none⟩) 1 1, 1, boxF (st.hire l) (hireV V st.n v')⟩ else if r = .T then some ⟨104, 9, v', st.n + 1, recF 9 (thF (st.hire l) (hireV V st.n v') oV)⟩ else memOf mb st V oV r) (w1.setCell ⟨mb, 3, none⟩ v') :=
    h1.set (f' := boxF (st.hire l) (hireV V st.n v')) eb 3 v' rfl (fun k hk => by rcases k with _ | _ | _ | _ | k <;> simp [boxF, hireV, RM.hire]) fun r hr => by simp [hr]
  refine h2.dropped fun r d hr => ?_
  cases r with
  | box => left; simpa [memOf] using hr
  | S => left; simpa [memOf, hireV, RM.hire] using hr
  | V => left; simpa [memOf, hireV, RM.hire] using hr
  | T => left; simpa [memOf, hireV, RM.hire] using hr
  | ans i =>
    by_cases e : i = st.n
    · subst e
      right
      simp only [memOf, RM.hire, Go.ConcN.upd_same, Nat.lt_succ_self, if_true, Option.some.injEq] at hr
      subst hr
      exact ⟨by simp [hireV, nilV], rfl⟩
    · left
      simp only [memOf, RM.hire, Go.ConcN.upd_ne _ _ e] at hr
      by_cases hi : i < st.n + 1
      · rw [if_pos hi] at hr
        have hi' : i < st.n := by omega
        have e2 : ansF (hireV V st.n v') i (st.ans i) = ansF V i (st.ans i) := by
          funext k j
          rcases j with _ | _ | j <;> simp [ansF, hireV]
        rw [e2] at hr
        simpa [memOf, hi', hireV, e] using hr
      · rw [if_neg hi] at hr; cases hr
  | seen i =>
    by_cases e : i = st.n
    · subst e; simp [memOf, RM.hire, Go.ConcN.upd_same] at hr
    · left
      simp only [memOf, RM.hire, Go.ConcN.upd_ne _ _ e] at hr
      by_cases hi : i < st.n + 1 ∧ st.pc i ≠ 0
      · rw [if_pos hi] at hr
        have hi' : i < st.n := by omega
        simpa [memOf, hi', hi.2, hireV, e] using hr
      · rw [if_neg hi] at hr; cases hr
  | ls i k =>
    by_cases e : i = st.n
    · subst e; simp [memOf, RM.hire, Go.ConcN.upd_same] at hr
    · left
      simp only [memOf, RM.hire, Go.ConcN.upd_ne _ _ e] at hr
      by_cases hi : i < st.n + 1
      · rw [if_pos hi] at hr
        have hi' : i < st.n := by omega
        simpa [memOf, hi', hireV, e] using hr
      · rw [if_neg hi] at hr; cases hr
  | ext k => left; simpa [memOf, RM.hire] using hr
def ordRow (v : Value) (l : List Int) : Row := ⟨3, 1, v, l.length, fun j => .int .i64 (l.getD j 0)⟩
theorem snoc_ints (l : List Int) (x : Int) : cellsN (l.length * 1) (fun j => .int .i64 (l.getD j 0)) ++ [.int .i64 x] = cellsN ((l ++ [x]).length * 1) (fun j => .int .i64 ((l ++ [x]).getD j 0)) := by
  rw [show ([.int .i64 x] : List Value) = cellsN 1 (fun _ => .int .i64 x) from rfl, cellsN_app, show l.length * 1 + 1 = (l ++ [x]).length * 1 from by simp]
  refine cellsN_congr fun j hj => ?_
  simp only [List.length_append, List.length_cons, List.length_nil] at hj
  by_cases hlt : j < l.length * 1
  · have : j < l.length := by omega
    simp only [hlt, if_true, List.getD_eq_getElem?_getD, List.getElem?_append_left this]
  · have : j = l.length := by omega
    subst this
    simp
end
end Go.Proofs.Yteainbnoemkfcaa
namespace Go.Proofs.Yteainbnoemkfcaa
open Go.RowKit Go.Turn
namespace RM
theorem begin_X (m : RM) (Y : Nat → Option Row) (i : Nat) (o : OpI) : (m.withX Y).begin_ i o = (m.begin_ i o).withX Y := by
  unfold RM.begin_ RM.withX
  dsimp only
  split
  · rfl
  · split
    · rfl
    · split
      · rfl
      · split
        · rfl
        · split
          · rfl
          · split <;> rfl
theorem settle_X (Y : Nat → Option Row) (i : Nat) : ∀ (f : Nat) (m : RM), (m.withX Y).settle i f = (m.settle i f).withX Y
  | 0, m => rfl
  | f + 1, m => by
    unfold RM.settle
    by_cases h : m.pc i = 0
    · rw [if_pos h, if_pos (show (m.withX Y).pc i = 0 from h)]
      show (match (m.ops i)[m.at_ i]? with | some o => ((m.withX Y).begin_ i o).settle i f | none => m.withX Y) = _
      cases (m.ops i)[m.at_ i]? with
      | none => rfl
      | some o => simp only [begin_X, settle_X Y i f]
    · rw [if_neg h, if_neg (show ¬ (m.withX Y).pc i = 0 from h)]
theorem settled_X (m : RM) (Y : Nat → Option Row) (i : Nat) : (m.withX Y).settled i = (m.settled i).withX Y := settle_X Y i _ m
theorem stand_X (m : RM) (Y : Nat → Option Row) (i p : Nat) : (m.withX Y).stand i p = (m.stand i p).withX Y := rfl
theorem step_X (m : RM) (Y : Nat → Option Row) (i : Nat) (o : OpI) : (m.withX Y).step i o = (m.step i o).withX Y := by
  unfold RM.step
  simp only [stand_X, get_X, gathered_X]
  by_cases k1 : o.kind = 1
  · rw [if_pos k1, if_pos k1]
    by_cases p1 : m.pc i = 1
    · rw [if_pos (show (m.withX Y).pc i = 1 from p1), if_pos p1]; rfl
    · rw [if_neg (show ¬ (m.withX Y).pc i = 1 from p1), if_neg p1]
      by_cases p2 : m.pc i = 2
      · rw [if_pos (show (m.withX Y).pc i = 2 from p2), if_pos p2]; rfl
      · rw [if_neg (show ¬ (m.withX Y).pc i = 2 from p2), if_neg p2]
        by_cases p3 : m.pc i = 3
        · rw [if_pos (show (m.withX Y).pc i = 3 from p3), if_pos p3]; rfl
        · rw [if_neg (show ¬ (m.withX Y).pc i = 3 from p3), if_neg p3]; rfl
  rw [if_neg k1, if_neg k1]
  by_cases k2 : o.kind = 2
  · rw [if_pos k2, if_pos k2]
    show (if ((m.stand i (m.pc i + 1)).get i (m.pc i)).2.2.2 = true then (if ((m.stand i (m.pc i + 1)).get i (m.pc i)).2.2.1 = 0 then (((m.stand i (m.pc i + 1)).get i (m.pc i)).1.withX Y).end_ i ⟨true, ((m.stand i (m.pc i + 1)).get i (m.pc i)).2.1, []⟩ else (((m.stand i (m.pc i + 1)).get i (m.pc i)).1.withX Y).end_ i ⟨false, ((m.stand i (m.pc i + 1)).get i (m.pc i)).2.2.1, []⟩) else ((m.stand i (m.pc i + 1)).get i (m.pc i)).1.withX Y) = _
    generalize (m.stand i (m.pc i + 1)).get i (m.pc i) = r
    by_cases c1 : r.2.2.2 = true
    · rw [if_pos c1, if_pos c1]
      by_cases c2 : r.2.2.1 = 0
      · rw [if_pos c2, if_pos c2]; rfl
      · rw [if_neg c2, if_neg c2]; rfl
    · rw [if_neg c1, if_neg c1]
  rw [if_neg k2, if_neg k2]
  by_cases k5 : o.kind = 5
  · rw [if_pos k5, if_pos k5]
    show (if ((m.stand i (m.pc i + 1)).get i (m.pc i)).2.2.2 = true then (((m.stand i (m.pc i + 1)).get i (m.pc i)).1.gathered i o ((m.stand i (m.pc i + 1)).get i (m.pc i)).2.1 ((m.stand i (m.pc i + 1)).get i (m.pc i)).2.2.1).withX Y else ((m.stand i (m.pc i + 1)).get i (m.pc i)).1.withX Y) = _
    generalize (m.stand i (m.pc i + 1)).get i (m.pc i) = r
    by_cases c1 : r.2.2.2 = true
    · rw [if_pos c1, if_pos c1]
    · rw [if_neg c1, if_neg c1]
  rw [if_neg k5, if_neg k5]
  by_cases k3 : o.kind = 3
  · rw [if_pos k3, if_pos k3]; rfl
  rw [if_neg k3, if_neg k3]
  by_cases k4 : o.kind = 4
  · rw [if_pos k4, if_pos k4]
    show (if ((m.stand i (m.pc i + 1)).stand i 1).S (m.slot (m.q i)) ≠ 2 * m.lap (m.q i) then (((m.stand i (m.pc i + 1)).stand i 1).withX Y).end_ i ⟨true, m.q i - 1, []⟩ else if m.q i = o.b ∨ ¬ GoodI (m.q i + 1) ∨ o.a + ((m.stand i (m.pc i + 1)).stand i 1).size ≤ m.q i + 1 then ({ ((m.stand i (m.pc i + 1)).stand i 1).withX Y with q := Go.ConcN.upd ((m.stand i (m.pc i + 1)).stand i 1).q i (m.q i + 1) } : RM).end_ i ⟨true, m.q i, []⟩ else { ((m.stand i (m.pc i + 1)).stand i 1).withX Y with q := Go.ConcN.upd ((m.stand i (m.pc i + 1)).stand i 1).q i (m.q i + 1) }) = _
    by_cases c1 : ((m.stand i (m.pc i + 1)).stand i 1).S (m.slot (m.q i)) ≠ 2 * m.lap (m.q i)
    · rw [if_pos c1, if_pos c1]; rfl
    · rw [if_neg c1, if_neg c1]
      by_cases c2 : m.q i = o.b ∨ ¬ GoodI (m.q i + 1) ∨ o.a + ((m.stand i (m.pc i + 1)).stand i 1).size ≤ m.q i + 1
      · rw [if_pos c2, if_pos c2]; rfl
      · rw [if_neg c2, if_neg c2]; rfl
  rw [if_neg k4, if_neg k4]
  rfl
theorem Ok.withX {m : RM} (h : m.Ok) (Y : Nat → Option Row) : (m.withX Y).Ok := ⟨h.n, h.size, h.len, h.at_, h.ans, h.op, h.live⟩
end RM
section
variable {B mb : Nat} {oV : Nat → Value} {m : RM} {Y : Nat → Option Row}
theorem refstep_X (w : World) (hB : B ≤ w.heap.size) (h : RMem B mb oV (m.withX Y) w) (hO : OpsL B oV m.ops m.n w) (hok : m.Ok) (hY : Y 7 = none) {i : Nat} (hi : i < m.n) (hpc : m.pc i ≠ 0) (o : OpI) (ho : (m.ops i)[m.at_ i]? = some o) :
    Calls Try.prog 47 #[.pointer (some ⟨mb, 0, none⟩), .int .i64 i] w fun e w' => e = .returned (.tuple #[]) ∧ RMem B mb oV ((m.step i o).withX Y) w' ∧ Below B w w' := by
  rw [← RM.step_X]
  exact refstep_ok (st := m.withX Y) w hB h hO (hok.withX Y) hY hi hpc o ho
theorem refsettle_X (w : World) (hB : B ≤ w.heap.size) (h : RMem B mb oV (m.withX Y) w) (hO : OpsL B oV m.ops m.n w) (hok : m.Ok) {i : Nat} (hi : i < m.n) :
    Calls Try.prog 46 #[.pointer (some ⟨mb, 0, none⟩), .int .i64 i] w fun e w' => e = .returned (.tuple #[]) ∧ RMem B mb oV ((m.settled i).withX Y) w' ∧ Below B w w' := by
  rw [← RM.settled_X]
  exact refsettle_ok (st := m.withX Y) w hB h hO (hok.withX Y) hi
def trF : Nat → Value
  | 3 => .bool false
  | _ => .slice none 0 0
def trRow (b : Nat) : Row := ⟨31, 4, .slice (some ⟨b, 0, none⟩) 1 1, 1, trF⟩
def ordX (b8 : Nat) (ov : Value) (l : List Int) : Nat → Option Row
  | 0 => some (ordRow ov l)
  | 1 => some (trRow b8)
  | _ => none
theorem ord_row {V : Rl → Value} {w : World} {b8 : Nat} {ov : Value} {l : List Int} (h : Mems B (memOf mb (m.withX (ordX b8 ov l)) V oV) w) : w.ownsRow B 3 1 ov l.length (cellsN (l.length * 1) (fun j => .int .i64 (l.getD j 0))) := h.at_ (r := .ext 0) (d := ordRow ov l) (rfl)
theorem ord_app {V : Rl → Value} {w w1 : World} {b8 : Nat} {ov v' : Value} {l : List Int} {x : Int} (h : Mems B (memOf mb (m.withX (ordX b8 ov l)) V oV) w) (hown : w1.ownsRow B 3 1 v' (l.length + 1) (cellsN (l.length * 1) (fun j => .int .i64 (l.getD j 0)) ++ [.int .i64 x]))
    (hg : w.grownBy w1 ov.ownBlock) (hv : v'.ownBlock = ov.ownBlock ∨ v'.ownBlock = some w.heap.size) : Mems B (memOf mb (m.withX (ordX b8 v' (l ++ [x]))) V oV) w1 := by
  refine h.app (r := .ext 0) (d := ordRow ov l) (d' := ordRow v' (l ++ [x])) (rfl) (rfl) (fun r hr => ?_) hg ?_ hv
  · cases r with
    | ext k =>
      rcases k with _ | k
      · exact absurd rfl hr
      · show ordX _ _ _ (k + 1) = ordX _ _ _ (k + 1)
        rcases k with _ | k <;> rfl
    | _ => rfl
  · show w1.ownsRow B _ 1 v' (l ++ [x]).length (cellsN ((l ++ [x]).length * 1) (fun j => .int .i64 ((l ++ [x]).getD j 0)))
    rw [← snoc_ints, List.length_append]
    exact hown
theorem ord_first {V : Rl → Value} {w : World} (h : Mems B (memOf mb m V oV) w) (hX : m.X = fun _ => none) {w' : World} {b8 : Nat} (hs : ∀ b, b < w.heap.size → w'.heap[b]? = w.heap[b]?) (hb : Blk w' b8 31 #[.slice none 0 0, .slice none 0 0, .slice none 0 0, .bool false]) (hB : B ≤ b8) (h8 : w.heap.size ≤ b8) : Mems B (memOf mb (m.withX (ordX b8 nilV [])) V oV) w' := by
  have h1 := mems_new h 1 (d := trRow b8) hs (row_blk hb hB trF fun j hj => by rcases j with _ | _ | _ | _ | j <;> simp [trF] at hj ⊢; omega) (fun b hb => by cases hb; exact h8)
  refine h1.dropped fun r d hr => ?_
  cases r with
  | ext k =>
    rcases k with _ | _ | k
    · cases hr; exact .inr ⟨rfl, rfl⟩
    · left; exact hr
    · cases hr
  | _ => left; exact hr
end
end Go.Proofs.Yteainbnoemkfcaa
namespace Go.Proofs.Yteainbnoemkfcaa
open Go.RowKit Go.Turn
section
variable {B mb b8 : Nat} {oV : Nat → Value} {m : RM} {V : Rl → Value} {ov : Value} {l : List Int} {w : World}
def Rtr (mb : Nat) (m : RM) (V : Rl → Value) (oV : Nat → Value) (b8 : Nat) (ov : Value) (l : List Int) (f : Nat → Value) : Rl → Option Row := fun r =>
  if r = .ext 1 then some ⟨31, 4, .slice (some ⟨b8, 0, none⟩) 1 1, 1, f⟩ else memOf mb (m.withX (ordX b8 ov l)) V oV r
theorem rtr_of (h : Mems B (memOf mb (m.withX (ordX b8 ov l)) V oV) w) : Mems B (Rtr mb m V oV b8 ov l trF) w := h.mono fun r d hr => by
  unfold Rtr at hr
  by_cases e : r = .ext 1
  · subst e; simpa [memOf, RM.withX, ordX, trRow] using hr
  · rwa [if_neg e] at hr
theorem rtr_set {f : Nat → Value} (h : Mems B (Rtr mb m V oV b8 ov l f) w) (j : Nat) (u : Value) : Mems B (Rtr mb m V oV b8 ov l (fun k => if k = j then u else f k)) (w.setCell ⟨b8, j, none⟩ u) :=
  h.set (r := .ext 1) (f := f) (f' := fun k => if k = j then u else f k) (if_pos rfl) j u (if_pos rfl) (fun _ _ => rfl) fun r hr => by simp [Rtr, hr]
theorem rtr_cell {f : Nat → Value} (h : Mems B (Rtr mb m V oV b8 ov l f) w) (k : Nat) (hk : k < 4) : w.cell? ⟨b8, k, none⟩ = some (f k) ∧ w.frozen? ⟨b8, k, none⟩ = false :=
  ⟨h.cell (r := .ext 1) (f := f) (if_pos rfl) (by omega), h.frozen (r := .ext 1) (f := f) (if_pos rfl) k⟩
theorem map_cells (xs : List Int) : xs.map (Value.int .i64) = cellsN (xs.length * 1) (fun j => .int .i64 (xs.getD j 0)) := by
  rw [cellsN_list (xs.map (Value.int .i64)) (.int .i64 0), List.length_map, Nat.mul_one]
  refine cellsN_congr fun k hk => ?_
  simp [List.getD_eq_getElem?_getD, List.getElem?_eq_getElem hk]
theorem lsRow_ints {v : Value} {xs : List Int} (h : (lsRow v xs).At B w) : IntsAt w v xs ∧ xs.length ≤ maxLen := by
  have h1 : w.ownsRow B 2 1 v xs.length (xs.map (Value.int .i64)) := by rw [map_cells]; exact h
  exact ⟨IntsAt.of_own h1, own_max h1⟩
theorem rtr_ans {f : Nat → Value} (h : Mems B (Rtr mb m V oV b8 ov l f) w) {i : Nat} (hi : i < m.n) : AnsAt w (V (.ans i)) (m.ans i) ∧ (m.ans i).length ≤ maxLen := by
  have h1 : w.ownsRow B 46 3 (V (.ans i)) (m.ans i).length (cellsN ((m.ans i).length * 3) (recF 3 (ansF V i (m.ans i)))) := h.at_ (r := .ans i) (d := ⟨46, 3, V (.ans i), (m.ans i).length, recF 3 (ansF V i (m.ans i))⟩) (by simp [Rtr, memOf, RM.withX, hi])
  obtain ⟨A, c, hA⟩ := own_slice h1
  refine ⟨⟨A, c, hA, fun j hj => ?_⟩, own_max h1⟩
  obtain ⟨g, hg, _, _⟩ := row_addr (by rw [hA] at h1; exact h1) (by omega)
  subst hg
  rw [hA] at h1
  have hc : ∀ k, k < 3 → w.cell? ⟨g, 0 + j * 3 + k, none⟩ = some (ansF V i (m.ans i) j k) := fun k hk => by
    have hlt := recF_lt (sz := 3) hj hk
    rw [Nat.zero_add, h1.cellAt _ hlt, cellsN_get hlt, recF_at hk]
  have hls : (m.ans i)[j]? = some (m.ans i)[j] := List.getElem?_eq_getElem hj
  obtain ⟨hI, hmx⟩ := lsRow_ints (h.at_ (r := .ls i j) (d := lsRow (V (.ls i j)) (m.ans i)[j].ls) (by simp [Rtr, memOf, RM.withX, hi, hls]))
  refine ⟨g, 0, V (.ls i j), rfl, ?_, ?_, ?_, hI, hmx⟩
  · have := hc 0 (by omega); rw [Nat.add_zero] at this; rw [this]; simp [ansF, hls]
  · rw [hc 1 (by omega)]; simp [ansF, hls]
  · rw [hc 2 (by omega)]; rfl
theorem rtr_ord {f : Nat → Value} (h : Mems B (Rtr mb m V oV b8 ov l f) w) : IntsAt w ov l ∧ l.length ≤ maxLen := by
  have h1 : w.ownsRow B 3 1 ov l.length (l.map (Value.int .i64)) := by rw [map_cells]; exact h.at_ (r := .ext 0) (d := ordRow ov l) (by simp [Rtr, memOf, RM.withX, ordX])
  exact ⟨IntsAt.of_own h1, own_max h1⟩
end
end Go.Proofs.Yteainbnoemkfcaa
namespace Go.Proofs.Yteainbnoemkfcaa
open Go.RowKit Go.Turn
theorem below_cell {w0 w : World} (h : Below w0.heap.size w0 w) {b i : Nat} {v : Value} (hc : w0.cell? ⟨b, i, none⟩ = some v) : w.cell? ⟨b, i, none⟩ = some v :=
  (World.cell?_of_block (a := ⟨b, i, none⟩) (h.block b (lt_of_cell hc))).trans hc
theorem OpsL.of {B n N : Nat} {oV : Nat → Value} {ops ops' : Nat → List OpI} {w : World} (h : OpsL B oV ops N w) (hn : n ≤ N) (he : ∀ i, i < n → ops' i = ops i) : OpsL B oV ops' n w :=
  ⟨fun i hi => by rw [he i hi]; exact h.row i (by omega), fun i hi => by rw [he i hi]; exact h.cells i (by omega)⟩
structure RunIn (w0 : World) (oV : Nat → Value) (ops : Nat → List OpI) (nt : Nat) (tA : Option Addr) (Tb To : Nat) (A : Nat → Option Addr) (len cap : Nat → Nat) (sA : Option Addr) (sc : Nat) (xs : List Int) : Prop where
  h_max : nt ≤ maxLen
  h_tA : 0 < nt → tA = some ⟨Tb, To, none⟩
  h_rows : RowsAt w0 Tb To (min nt 64) A len cap
  h_oV : ∀ i, i < min nt 64 → oV i = .slice (A i) (min (len i) 65536) (cap i)
  h_ops : OpsL w0.heap.size oV ops (min nt 64) w0
  h_olen : ∀ i, i < min nt 64 → (ops i).length = min (len i) 65536
  h_good : ∀ i, i < min nt 64 → ∀ o ∈ ops i, o.Ok
  h_sch : ∀ i, i < xs.length → ∃ b o, sA = some ⟨b, o, none⟩ ∧ w0.cell? ⟨b, o + i, none⟩ = some (.int .i64 (xs.getD i 0))
  h_smax : xs.length ≤ maxLen
theorem Try.infoAnsL : (Try.prog.info? 44).map (fun i => (i.zero, i.size, i.bytes)) = some (some (.slice none 0 0), 1, 24) := by kernel_rfl
theorem wp_merge {P : Program} {x y : Code} {Q : Exit → Act → World → Prop} {a : Act} {w : World} (d1 d2 d3 : Tmp) (v3 : Value)
    (hx : x.wp P (fun e a' w' => e = .normal ∧ w' = w ∧ ∃ u v, a' = ((a.put (some d1) u).put (some d2) v).put (some d3) v3) a w)
    (hy : ∀ u v, y.wp P Q (((a.put (some d1) u).put (some d2) v).put (some d3) v3) w) : (x.seq y).wp P Q a w := by
  refine wp_seq (wp_mono hx ?_)
  rintro e a' w' ⟨rfl, rfl, u, v, rfl⟩
  exact hy u v
theorem hire_at {B mb : Nat} {oV : Nat → Value} {m : RM} {Y : Nat → Option Row} {V : Rl → Value} {w w1 : World} {v' TT : Value} {k : Nat} (hk : m.n = k) (hT : V .T = TT) (h : Mems B (memOf mb (m.withX Y) V oV) w) (l : List OpI) (hown : w1.ownsRow B 104 9 v' (k + 1) (cellsN (k * 9) (recF 9 (thF m V oV)) ++ thCells (oV k) k))
    (hg : w.grownBy w1 TT.ownBlock) (hv : v'.ownBlock = TT.ownBlock ∨ v'.ownBlock = some w.heap.size) :
    w1.cell? ⟨mb, 3, none⟩ = some TT ∧ w1.frozen? ⟨mb, 3, none⟩ = false ∧ RMem B mb oV ((m.hire l).withX Y) (w1.setCell ⟨mb, 3, none⟩ v') := by
  subst hk hT
  exact hire_app (st := m.withX Y) h l hown hg hv
structure RInv (st : RM) (ops : Nat → List OpI) (n : Nat) (M : Int) (c : RRun) : Prop where
  i_ok : c.m.Ok
  i_n : c.m.n = n
  i_X : c.m.X = fun _ => none
  i_size : c.m.size = st.size
  i_most : c.order.length ≤ M.toNat
  i_ops : ∀ i, i < n → c.m.ops i = ops i
theorem RInv.turn {st : RM} {ops : Nat → List OpI} {n : Nat} {M : Int} {c : RRun} (h : RInv st ops n M c) (x : Int) : RInv st ops n M (c.turn M.toNat x) := by
  obtain ⟨h1, h2, h3, h4, h5⟩ := RRun.turn_ok (most := M.toNat) h.i_ok x
  exact ⟨h1, h2.trans h.i_n, h4.trans h.i_X, h5.trans h.i_size, RRun.turn_most h.i_most x, fun i hi => by rw [h3]; exact h.i_ops i hi⟩
theorem turns_take (most : Nat) (c : RRun) (xs : List Int) {j : Nat} (hj : j < xs.length) : c.turns most (xs.take (j + 1)) = (c.turns most (xs.take j)).turn most (xs.getD j 0) := by
  rw [List.take_add_one, ← RRun.turns_snoc]
  simp [List.getElem?_eq_getElem hj]
theorem turns_append (most : Nat) (c : RRun) (l k : List Int) : c.turns most (l ++ k) = (c.turns most l).turns most k := by simp [RRun.turns]
theorem turns_stop {most : Nat} {c : RRun} {xs : List Int} {j : Nat} (h : xs.length ≤ j ∨ most ≤ (c.turns most (xs.take j)).order.length) : c.turns most (xs.take j) = c.turns most xs := by
  rcases h with h | h
  · rw [List.take_of_length_le h]
  · have e : xs = xs.take j ++ xs.drop j := (List.take_append_drop j xs).symm
    calc c.turns most (xs.take j) = (c.turns most (xs.take j)).turns most (xs.drop j) := (RRun.turns_full h _).symm
      _ = c.turns most (xs.take j ++ xs.drop j) := (turns_append _ _ _ _).symm
      _ = c.turns most xs := by rw [← e]
theorem wp_merge6 {P : Program} {x y : Code} {Q : Exit → Act → World → Prop} {a : Act} {w : World} (F : Act → Value → Value → Value → Value → Value → Value → Act)
    (hx : x.wp P (fun e a' w' => e = .normal ∧ w' = w ∧ ∃ u1 u2 u3 u4 u5 u6, a' = F a u1 u2 u3 u4 u5 u6) a w)
    (hy : ∀ u1 u2 u3 u4 u5 u6, y.wp P Q (F a u1 u2 u3 u4 u5 u6) w) : (x.seq y).wp P Q a w := by
  refine wp_seq (wp_mono hx ?_)
  rintro e a' w' ⟨rfl, rfl, u1, u2, u3, u4, u5, u6, rfl⟩
  exact hy u1 u2 u3 u4 u5 u6
theorem own_mono {w : World} {base base' : Nat} {e : TypeId} {size n : Nat} {v : Value} {xs : List Value} (h : w.ownsRow base e size v n xs) (hb : base' ≤ base) : w.ownsRow base' e size v n xs := by
  obtain ⟨h1, h2⟩ := h
  refine ⟨h1, ?_⟩
  rcases h2 with h2 | ⟨g, cap, cur, e1, hg, r⟩
  · exact .inl h2
  · exact .inr ⟨g, cap, cur, e1, by omega, r⟩
theorem own_up {w w' : World} {base : Nat} {e : TypeId} {size n : Nat} {v : Value} {xs : List Value} (h : w.ownsRow base e size v n xs) (hs : ∀ b, base ≤ b → b < w.heap.size → w'.heap[b]? = w.heap[b]?) : w'.ownsRow base e size v n xs := by
  obtain ⟨h1, h2⟩ := h
  refine ⟨h1, ?_⟩
  rcases h2 with h2 | ⟨g, cap, cur, e1, hg, hh, r⟩
  · exact .inl h2
  · exact .inr ⟨g, cap, cur, e1, hg, (hs g hg (lt_of_some hh)).trans hh, r⟩
theorem Mems.same_up {ρ : Type} [DecidableEq ρ] {B : Nat} {R : ρ → Option Row} {w w' : World} (h : Mems B R w) (hs : ∀ b, B ≤ b → b < w.heap.size → w'.heap[b]? = w.heap[b]?) : Mems B R w' := by
  obtain ⟨lab, k⟩ := h.ex
  exact ⟨lab, fun r d hr => ⟨own_up (k r d hr).1 hs, (k r d hr).2⟩⟩
def lenV : Value → Nat
  | .slice _ n _ => n
  | _ => 0
section
variable {mb : Nat} {oV : Nat → Value} {ops : Nat → List OpI} {A : Nat → Option Addr} {len cap : Nat → Nat}
set_option maxHeartbeats 8000000 in
set_option maxRecDepth 100000 in
theorem refrun_ok (w0 w : World) (hb : Below w0.heap.size w0 w) (st : RM) (hst : st.n = 0 ∧ st.X = (fun _ => none) ∧ st.Ok) (h : RMem w0.heap.size mb oV st w) (nt : Nat) (tA : Option Addr) (cp Tb To : Nat) (sA : Option Addr) (sc : Nat) (xs : List Int) (most : Int) (hin : RunIn w0 oV ops nt tA Tb To A len cap sA sc xs) :
    Calls Try.prog 35 #[.pointer (some ⟨mb, 0, none⟩), .slice tA nt cp, .slice sA xs.length sc, .int .i64 most] w fun e w' => ∃ Aa ca ov tv, e = .returned (.agg #[.slice Aa (min nt 64) ca, ov, tv, .bool (refRun st ops (min nt 64) (heldI most 1048576).toNat xs).m.left]) ∧
      (∀ wz : World, (∀ b, w0.heap.size ≤ b → b < w'.heap.size → wz.heap[b]? = w'.heap[b]?) → TraceAt wz (min nt 64) (refRun st ops (min nt 64) (heldI most 1048576).toNat xs).m.ans (refRun st ops (min nt 64) (heldI most 1048576).toNat xs).order (rowN (refRun st ops (min nt 64) (heldI most 1048576).toNat xs).m.S st.size ++ rowN (refRun st ops (min nt 64) (heldI most 1048576).toNat xs).m.V st.size) Aa ca ov tv) ∧ Below w0.heap.size w0 w' ∧ ∀ A n c, tv = .slice A n c → n ≤ c := by
  obtain ⟨i0, hi0, hz0, hz1, hz2⟩ := info_parts Try.infoThread
  obtain ⟨i1, hj0, hj1, hj2, hj3⟩ := info_parts Try.infoInt
  have HI := Lib.hid hin
  have HM0 := Lib.hid h
  have HB0 := Lib.hid hb
  have HST := Lib.hid hst
  have hmx := hin.h_max
  have hsx := hin.h_smax
  obtain ⟨n, hn⟩ : ∃ n, n = min nt 64 := ⟨_, rfl⟩
  obtain ⟨M, hM⟩ : ∃ M, M = heldI most 1048576 := ⟨_, rfl⟩
  rw [← hn, ← hM]
  have HNN := Lib.hid hn
  have HMM := Lib.hid hM
  have hn64 : n ≤ 64 := by omega
  have hnt : n ≤ nt := by omega
  have hM0 : 0 ≤ M := by rw [hM]; unfold heldI; omega
  have hM1 : M ≤ 1048576 := by rw [hM]; unfold heldI; omega
  obtain ⟨LX, hLX⟩ : ∃ LX, LX = xs.length := ⟨_, rfl⟩
  rw [← hLX]
  rw [← hLX] at hsx
  have hsx2 : LX ≤ 9223372036854775807 := by unfold maxLen at hsx; omega
  have HLX := Lib.hid hLX
  clear h hb hst hn hM hin hLX
  go_enter Try.func35, Try.ntmps35
  refine wp_cut fun K hK => ?_
  go_wp2
  refine hK.out _ _ ?_
  clear hK K
  have hb8 := Blk.new w 31 #[.slice none 0 0, .slice none 0 0, .slice none 0 0, .bool false]
  have hbw : Below w0.heap.size w0 (w.alloc (.cells #[.slice none 0 0, .slice none 0 0, .slice none 0 0, .bool false] 31)) := HB0.out.alloc HB0.out.size _
  have hm1 : RMem w0.heap.size mb oV (st.withX (ordX w.heap.size nilV [])) (w.alloc (.cells #[.slice none 0 0, .slice none 0 0, .slice none 0 0, .bool false] 31)) := by
    obtain ⟨V, h⟩ := HM0.out
    exact ⟨V, ord_first h HST.out.2.1 (fun b hb => Below.heap_alloc _ _ _ hb) hb8 HB0.out.size (Nat.le_refl _)⟩
  obtain ⟨b8, hb8e⟩ : ∃ b8, b8 = w.heap.size := ⟨_, rfl⟩
  rw [← hb8e] at hm1 ⊢
  have h8 : w0.heap.size ≤ b8 := by have := HB0.out.size; omega
  have HM1 := Lib.hid hm1
  have HB1 := Lib.hid hbw
  clear hb8 hm1 hbw HM0 HB0 hb8e
  generalize World.alloc _ _ = w1 at *
  refine wp_cut fun K hK => ?_
  go_wp2
  refine hK.out _ _ ?_
  clear hK K
  refine wp_merge 20 21 9 (.int .i64 n) ?_ fun u20 u21 => ?_
  · by_cases c : 64 < nt
    · have e : (64 : Int) = n := by have := HNN.out; omega
      go_wp2
    · have e : (nt : Int) = n := by have := HNN.out; omega
      go_wp2
  simp only [Act.put, List.setIfInBounds_toArray, List.set_cons_zero, List.set_cons_succ]
  obtain ⟨m1, hm1⟩ : ∃ m1, m1 = max most 0 := ⟨_, rfl⟩
  have hMm : M = min m1 1048576 := by rw [HMM.out, hm1]; rfl
  have HMm := Lib.hid hMm
  have Hm1 := Lib.hid hm1
  clear hMm hm1
  refine wp_merge 22 23 3 (.int .i64 m1) ?_ fun u22 u23 => ?_
  · by_cases c : most < 0
    · have e : (0 : Int) = m1 := by have := Hm1.out; omega
      go_wp2
    · have e : most = m1 := by have := Hm1.out; omega
      go_wp2
  simp only [Act.put, List.setIfInBounds_toArray, List.set_cons_zero, List.set_cons_succ]
  refine wp_merge 24 25 3 (.int .i64 M) ?_ fun u24 u25 => ?_
  · by_cases c : 1048576 < m1
    · have e : (1048576 : Int) = M := by have := HMm.out; omega
      go_wp2
    · have e : m1 = M := by have := HMm.out; omega
      go_wp2
  simp only [Act.put, List.setIfInBounds_toArray, List.set_cons_zero, List.set_cons_succ]
  clear HMm Hm1
  refine wp_cut fun K0 hK0 => ?_
  go_wp2
  go_loopw [10, 11] (fun i o wr => ∃ k : Nat, k ≤ n ∧ i = .int .i64 k ∧ RMem w0.heap.size mb oV ((st.born ops k).withX (ordX b8 nilV [])) wr ∧ Below w0.heap.size w0 wr) (fun i _ _ => n - (intOf i).toNat)
  case atStart => exact ⟨0, Nat.zero_le _, rfl, HM1.out, HB1.out⟩
  case round =>
    obtain ⟨k, hk, rfl, hm, hb⟩ := hrel
    have HM := Lib.hid hm
    have HB := Lib.hid hb
    clear hm hb
    by_cases hlt : k < n
    · obtain ⟨V, hm⟩ := HM.out
      clear HM
      have HM := Lib.hid hm
      have tA' := HI.out.h_tA (by omega)
      subst tA'
      have hkm : k < min nt 64 := by have := HNN.out; omega
      have r0 := below_cell HB.out (HI.out.h_rows.row k hkm)
      have hle := HI.out.h_rows.le k hkm
      have hmxk := HI.out.h_rows.max k hkm
      have hnil := Lib.hid (HI.out.h_rows.nil k hkm)
      have hoV := HI.out.h_oV k hkm
      have hok : (st.born ops k).Ok := RM.Ok.born HST.out.2.2 HST.out.1 hn64 (fun i hi => by rw [HI.out.h_olen i (by have := HNN.out; omega)]; omega) (fun i hi => HI.out.h_good i (by have := HNN.out; omega)) k (by omega)
      have HN := Lib.hid (show (st.born ops k).n = k from by rw [RM.born_n, HST.out.1, Nat.zero_add])
      have HOK := Lib.hid hok
      clear hm hok
      by_cases c : 65536 < len k
      · rw [show min (len k) 65536 = 65536 from by omega] at hoV
        have HOV := Lib.hid hoV
        clear hoV
        have hrow : wr.ownsRow w0.heap.size 104 9 (V .T) k (cellsN (k * 9) (recF 9 (thF (st.born ops k) V oV))) := by
          have := HM.out.at_ (r := .T) rfl
          rw [show ((st.born ops k).withX (ordX b8 nilV [])).n = k from HN.out] at this
          exact this
        obtain ⟨TA, tc, hT⟩ := own_slice hrow
        have c3 : wr.cell? ⟨mb, 3, none⟩ = some (.slice TA k tc) := by have := bcell HM.out 3 (by omega); rw [this]; exact congrArg some hT
        rw [hT] at hrow
        have HQ := Lib.hid hrow
        have HT := Lib.hid hT
        have hsz : w0.heap.size ≤ wr.heap.size := HB.out.size
        clear hrow hT
        go_wp2_with (at_builtin; refine wpList_append_lies _ rfl _ _ 100 rfl w0.heap.size 104 i0 _ 9 120 Try.underlying100 hi0 hz0 hz1 hz2 rfl (by decide) (.slice TA k tc) k _ rfl (HQ.out.alloc _) ⟨wr.heap.size, 0, none⟩ 1 1 (thCells (.slice (A k) 65536 (cap k)) k) rfl rfl (World.news_of_block (cs := (thCells (.slice (A k) 65536 (cap k)) k).toArray) (t := 104) (fr := (0, 0)) (Blk.new wr 104 (thCells (.slice (A k) 65536 (cap k)) k).toArray)) (by simp [thCells, Value.oneCell']) (by omega) (by unfold maxLen; omega) (by omega) (by simp; omega) (wr.heap.size + 1) (by simp) ?_)
        intro gg cap' w2 hown hgrow hgat hgl
        have hown' : w2.ownsRow w0.heap.size 104 9 (.slice (some ⟨gg, 0, none⟩) (k + 1) cap') (k + 1) (cellsN (k * 9) (recF 9 (thF (st.born ops k) V oV)) ++ thCells (oV k) k) := by rw [HOV.out]; simpa [thCells] using hown
        obtain ⟨e3, z3, hm2⟩ := hire_at (l := ops k) HN.out HT.out (HM.out.alloc (.cells (thCells (.slice (A k) 65536 (cap k)) k).toArray 104)) hown' hgrow (by
          rcases hgat with z | z
          · exact .inl z.symm
          · right; simp [Value.ownBlock, z])
        have hb2 := ((HB.out.alloc hsz (.cells (thCells (.slice (A k) 65536 (cap k)) k).toArray 104)).grown hgrow (by simp; omega) (fun b hb => (HQ.out.lt b hb).1)).setCell (p := ⟨mb, 3, none⟩) (HM.out.lt (r := .box) rfl rfl).1 (.slice (some ⟨gg, 0, none⟩) (k + 1) cap')
        have HM2 := Lib.hid hm2
        have HB2 := Lib.hid hb2
        clear hm2 hb2 hown hown' hgrow hgat hgl c3 r0
        have hok2 : ((st.born ops k).hire (ops k)).Ok := HOK.out.hire (by rw [HN.out]; omega) (by rw [HI.out.h_olen k hkm]; omega) (HI.out.h_good k hkm)
        have hO2 : OpsL w0.heap.size oV ((st.born ops k).hire (ops k)).ops ((st.born ops k).hire (ops k)).n _ := (HI.out.h_ops.below HB2.out).of (by show (st.born ops k).n + 1 ≤ _; rw [HN.out]; omega) (fun i hi => by
          have hi' : i < k + 1 := by have : i < (st.born ops k).n + 1 := hi; rw [HN.out] at this; exact this
          show Go.ConcN.upd (st.born ops k).ops (st.born ops k).n (ops k) i = ops i
          rw [HN.out]
          by_cases e : i = k
          · subst e; exact Go.ConcN.upd_same _ _ _
          · rw [Go.ConcN.upd_ne _ _ e]; exact RM.born_ops HST.out.1 ops k i (by omega))
        have hsi : k < ((st.born ops k).hire (ops k)).n := by show k < (st.born ops k).n + 1; rw [HN.out]; omega
        have HSE := Lib.hid (refsettle_X _ HB2.out.size HM2.out hO2 hok2 hsi)
        clear hok2 hO2 hsi
        go_wp2_with fail
        refine HSE.out.mono ?_
        rintro e w4 ⟨rfl, hm4, hb4⟩
        have HM4 : Hid (RMem w0.heap.size mb oV ((st.born ops (k + 1)).withX (ordX b8 nilV [])) w4) := Lib.hid (by
          show RMem _ _ _ ((((st.born ops k).hire (ops k)).settled (st.born ops k).n).withX _) _
          rw [HN.out]; exact hm4)
        have HB4 := Lib.hid (HB2.out.trans hb4)
        clear hm4 hb4 HSE
        go_wp2
        go_roundw
        case rel => exact ⟨k + 1, by omega, by go_num, HM4.out, HB4.out⟩
        case measure => simp [intOf]; omega
      · rw [show min (len k) 65536 = len k from by omega] at hoV
        have HOV := Lib.hid hoV
        clear hoV
        have hrow : wr.ownsRow w0.heap.size 104 9 (V .T) k (cellsN (k * 9) (recF 9 (thF (st.born ops k) V oV))) := by
          have := HM.out.at_ (r := .T) rfl
          rw [show ((st.born ops k).withX (ordX b8 nilV [])).n = k from HN.out] at this
          exact this
        obtain ⟨TA, tc, hT⟩ := own_slice hrow
        have c3 : wr.cell? ⟨mb, 3, none⟩ = some (.slice TA k tc) := by have := bcell HM.out 3 (by omega); rw [this]; exact congrArg some hT
        rw [hT] at hrow
        have HQ := Lib.hid hrow
        have HT := Lib.hid hT
        have hsz : w0.heap.size ≤ wr.heap.size := HB.out.size
        clear hrow hT
        go_wp2_with (at_builtin; refine wpList_append_lies _ rfl _ _ 100 rfl w0.heap.size 104 i0 _ 9 120 Try.underlying100 hi0 hz0 hz1 hz2 rfl (by decide) (.slice TA k tc) k _ rfl (HQ.out.alloc _) ⟨wr.heap.size, 0, none⟩ 1 1 (thCells (.slice (A k) (len k) (cap k)) k) rfl rfl (World.news_of_block (cs := (thCells (.slice (A k) (len k) (cap k)) k).toArray) (t := 104) (fr := (0, 0)) (Blk.new wr 104 (thCells (.slice (A k) (len k) (cap k)) k).toArray)) (by simp [thCells, Value.oneCell']) (by omega) (by unfold maxLen; omega) (by omega) (by simp; omega) (wr.heap.size + 1) (by simp) ?_)
        intro gg cap' w2 hown hgrow hgat hgl
        have hown' : w2.ownsRow w0.heap.size 104 9 (.slice (some ⟨gg, 0, none⟩) (k + 1) cap') (k + 1) (cellsN (k * 9) (recF 9 (thF (st.born ops k) V oV)) ++ thCells (oV k) k) := by rw [HOV.out]; simpa [thCells] using hown
        obtain ⟨e3, z3, hm2⟩ := hire_at (l := ops k) HN.out HT.out (HM.out.alloc (.cells (thCells (.slice (A k) (len k) (cap k)) k).toArray 104)) hown' hgrow (by
          rcases hgat with z | z
          · exact .inl z.symm
          · right; simp [Value.ownBlock, z])
        have hb2 := ((HB.out.alloc hsz (.cells (thCells (.slice (A k) (len k) (cap k)) k).toArray 104)).grown hgrow (by simp; omega) (fun b hb => (HQ.out.lt b hb).1)).setCell (p := ⟨mb, 3, none⟩) (HM.out.lt (r := .box) rfl rfl).1 (.slice (some ⟨gg, 0, none⟩) (k + 1) cap')
        have HM2 := Lib.hid hm2
        have HB2 := Lib.hid hb2
        clear hm2 hb2 hown hown' hgrow hgat hgl c3 r0
        have hok2 : ((st.born ops k).hire (ops k)).Ok := HOK.out.hire (by rw [HN.out]; omega) (by rw [HI.out.h_olen k hkm]; omega) (HI.out.h_good k hkm)
        have hO2 : OpsL w0.heap.size oV ((st.born ops k).hire (ops k)).ops ((st.born ops k).hire (ops k)).n _ := (HI.out.h_ops.below HB2.out).of (by show (st.born ops k).n + 1 ≤ _; rw [HN.out]; omega) (fun i hi => by
          have hi' : i < k + 1 := by have : i < (st.born ops k).n + 1 := hi; rw [HN.out] at this; exact this
          show Go.ConcN.upd (st.born ops k).ops (st.born ops k).n (ops k) i = ops i
          rw [HN.out]
          by_cases e : i = k
          · subst e; exact Go.ConcN.upd_same _ _ _
          · rw [Go.ConcN.upd_ne _ _ e]; exact RM.born_ops HST.out.1 ops k i (by omega))
        have hsi : k < ((st.born ops k).hire (ops k)).n := by show k < (st.born ops k).n + 1; rw [HN.out]; omega
        have HSE := Lib.hid (refsettle_X _ HB2.out.size HM2.out hO2 hok2 hsi)
        clear hok2 hO2 hsi
        go_wp2_with fail
        refine HSE.out.mono ?_
        rintro e w4 ⟨rfl, hm4, hb4⟩
        have HM4 : Hid (RMem w0.heap.size mb oV ((st.born ops (k + 1)).withX (ordX b8 nilV [])) w4) := Lib.hid (by
          show RMem _ _ _ ((((st.born ops k).hire (ops k)).settled (st.born ops k).n).withX _) _
          rw [HN.out]; exact hm4)
        have HB4 := Lib.hid (HB2.out.trans hb4)
        clear hm4 hb4 HSE
        go_wp2
        go_roundw
        case rel => exact ⟨k + 1, by omega, by go_num, HM4.out, HB4.out⟩
        case measure => simp [intOf]; omega
    · have ek : k = n := by omega
      subst ek
      go_wp2
      refine hK0.out _ _ ?_
      clear hK0 HM1 HB1
      rename World => wq
      have hC0 : RInv st ops k M ⟨st.born ops k, []⟩ := ⟨RM.Ok.born HST.out.2.2 HST.out.1 hn64 (fun i hi => by rw [HI.out.h_olen i (by have := HNN.out; omega)]; omega) (fun i hi => HI.out.h_good i (by have := HNN.out; omega)) k (by omega), by rw [RM.born_n, HST.out.1, Nat.zero_add], (RM.born_X _ _ _).trans HST.out.2.1, RM.born_size _ _ _, Nat.zero_le _, fun i hi => RM.born_ops HST.out.1 ops k i hi⟩
      obtain ⟨C0, hC⟩ : ∃ C0 : RRun, C0 = ⟨st.born ops k, []⟩ := ⟨_, rfl⟩
      have hm0 : RMem w0.heap.size mb oV (C0.m.withX (ordX b8 nilV C0.order)) wq := by rw [hC]; exact HM.out
      rw [← hC] at hC0
      have HC := Lib.hid hC
      have HC0 := Lib.hid hC0
      have HM0 := Lib.hid hm0
      have hl0 : C0.order.length = 0 := by rw [hC]; rfl
      have HL0 := Lib.hid hl0
      clear hC hC0 hm0 HM hl0
      unfold nilV at HM0
      refine wp_cut fun K hK => ?_
      go_wp2
      refine hK.out _ _ ?_
      clear hK K
      refine wp_cut fun K1 hK1 => ?_
      go_wp2
      go_loopw [12, 13, 14] (fun ov t13 t14 wr => ∃ (j : Nat) (c : RRun) (Ao : Option Addr) (co : Nat), j ≤ LX ∧ t13 = .int .i64 j ∧ ov = .slice Ao c.order.length co ∧ C0.turns M.toNat (xs.take j) = c ∧ RInv st ops k M c ∧ RMem w0.heap.size mb oV (c.m.withX (ordX b8 ov c.order)) wr ∧ Below w0.heap.size w0 wr) (fun _ i _ _ => LX - (intOf i).toNat)
      case atStart => exact ⟨0, C0, none, 0, Nat.zero_le _, rfl, by rw [HL0.out], rfl, HC0.out, HM0.out, HB.out⟩
      case round =>
        obtain ⟨j, c, Ao, co, hj, rfl, rfl, hc, hinv, hm, hb⟩ := hrel
        obtain ⟨V, hm⟩ := hm
        have HCC := Lib.hid hc
        have HIV := Lib.hid hinv
        have HM := Lib.hid hm
        have HB2 := Lib.hid hb
        clear hc hinv hm hb
        obtain ⟨ol, hol⟩ : ∃ ol, ol = c.order.length := ⟨_, rfl⟩
        rw [← hol] at HM ⊢
        have HOL := Lib.hid hol
        clear hol
        obtain ⟨bb, hbb⟩ : ∃ bb, bb = decide (j < LX ∧ (ol : Int) < M) := ⟨_, rfl⟩
        have HBB := Lib.hid hbb
        clear hbb
        refine wp_cut fun K hK => ?_
        refine wp_merge6 (fun a u1 u2 u3 u4 u5 u6 => (((((((((a.put (some 55) (.int .i64 j)).put (some 56) (.slice sA LX sc)).put (some 57) (.int .i64 LX)).put (some 58) u1).put (some 59) u2).put (some 60) u3).put (some 61) u4).put (some 62) u5).put (some 63) u6).put (some 64) (.bool bb)) ?_ fun u58 u59 u60 u61 u62 u63 => ?_
        · by_cases c1 : j < LX
          · by_cases c2 : (ol : Int) < M
            · have e : bb = true := by rw [HBB.out, decide_eq_true ⟨c1, c2⟩]
              go_wp2
            · have e : bb = false := by rw [HBB.out, decide_eq_false fun h => c2 h.2]
              go_wp2
          · have e : bb = false := by rw [HBB.out, decide_eq_false fun h => c1 h.1]
            go_wp2
        simp only [Act.put, List.setIfInBounds_toArray, List.set_cons_zero, List.set_cons_succ]
        by_cases hB_ : j < LX ∧ (ol : Int) < M
        · have eb : bb = true := by rw [HBB.out, decide_eq_true hB_]
          obtain ⟨hjl, hol⟩ := hB_
          subst eb
          go_wp2
          refine hK.out _ _ ?_
          clear hK K
          obtain ⟨sb, so, hsA, hcell⟩ := HI.out.h_sch j (by have := HLX.out; omega)
          subst hsA
          have r1 := below_cell HB2.out hcell
          obtain ⟨x, hx⟩ : ∃ x, x = xs.getD j 0 := ⟨_, rfl⟩
          rw [← hx] at r1
          have HT1 := Lib.hid (show C0.turns M.toNat (xs.take (j + 1)) = c.turn M.toNat x from by rw [turns_take _ _ _ (by have := HLX.out; omega), HCC.out, hx])
          clear hcell hx
          have hn64' : (c.m.withX (ordX b8 (.slice Ao ol co) c.order)).n = k := HIV.out.i_n
          by_cases hx0 : x < 0
          · have HN := Lib.hid (show C0.turns M.toNat (xs.take (j + 1)) = c from by rw [HT1.out, RRun.turn_no fun h => (by have := h.1; omega)])
            go_wp2
            go_roundw
            case rel => exact ⟨j + 1, c, Ao, co, by omega, by go_num, by rw [HOL.out], HN.out, HIV.out, ⟨V, HM.out⟩, HB2.out⟩
            case measure => simp [intOf]; omega
          by_cases hxn : (k : Int) ≤ x
          · have HN := Lib.hid (show C0.turns M.toNat (xs.take (j + 1)) = c from by rw [HT1.out, RRun.turn_no fun h => (by have h1 := h.2.1; rw [HIV.out.i_n] at h1; omega)])
            go_wp2
            go_roundw
            case rel => exact ⟨j + 1, c, Ao, co, by omega, by go_num, by rw [HOL.out], HN.out, HIV.out, ⟨V, HM.out⟩, HB2.out⟩
            case measure => simp [intOf]; omega
          obtain ⟨i, rfl⟩ : ∃ i : Nat, x = i := ⟨x.toNat, by omega⟩
          have hik : i < k := by omega
          obtain ⟨tb, tc, hT, htc, htm⟩ := tb_of HM.out (by rw [hn64']; omega)
          rw [hn64'] at hT htc
          have HT := Lib.hid hT
          have c3 : wr.cell? ⟨mb, 3, none⟩ = some (.slice (some ⟨tb, 0, none⟩) k tc) := by have := bcell HM.out 3 (by omega); rw [this]; exact congrArg some HT.out
          have t4 : wr.cell? ⟨tb, i * 9 + 4, none⟩ = some (.int .i64 (c.m.pc i)) := tcell HM.out (by rw [hn64']; exact HT.out) (by rw [hn64']; exact hik) 4 (by omega)
          clear hT
          by_cases hp : c.m.pc i = 0
          · have hp0 : c.m.pc i ≤ 0 := by omega
            have HP := Lib.hid hp
            clear hp
            have HN := Lib.hid (show C0.turns M.toNat (xs.take (j + 1)) = c from by rw [HT1.out, RRun.turn_no fun h => (by have h1 := h.2.2.1; exact h1 (by rw [Int.toNat_natCast]; exact HP.out))])
            go_wp2
            go_roundw
            case rel => exact ⟨j + 1, c, Ao, co, by omega, by go_num, by rw [HOL.out], HN.out, HIV.out, ⟨V, HM.out⟩, HB2.out⟩
            case measure => simp [intOf]; omega
          have hp0 : 0 < c.m.pc i := by omega
          have hmay : c.may M.toNat (i : Int) := ⟨by omega, by rw [HIV.out.i_n]; omega, by rw [Int.toNat_natCast]; exact hp, by have := HOL.out; omega⟩
          obtain ⟨o, ho, hlive⟩ := HIV.out.i_ok.live i (by rw [HIV.out.i_n]; exact hik) hp
          have hdo : c.m.does i = (c.m.step i o).settled i := by unfold RM.does; rw [ho]
          have HEQ := Lib.hid (show c.turn M.toNat (i : Int) = ⟨(c.m.step i o).settled i, c.order ++ [(i : Int)]⟩ from by rw [RRun.turn_yes hmay, Int.toNat_natCast, hdo])
          have HO := Lib.hid ho
          have HP := Lib.hid hp
          have hq : wr.ownsRow w0.heap.size 3 1 (.slice Ao ol co) ol (cellsN (ol * 1) (fun y => .int .i64 (c.order.getD y 0))) := by
            have := ord_row HM.out
            rw [← HOL.out] at this
            exact this
          have HQ := Lib.hid hq
          have hsz : w0.heap.size ≤ wr.heap.size := HB2.out.size
          have holM : ol < 1048576 := by omega
          clear hmay ho hlive hdo hp hq
          go_wp2_with (at_builtin; refine wpList_append_lies _ rfl _ _ 24 rfl w0.heap.size 3 i1 (.int .i64 0) 1 8 Try.underlying24 hj0 hj1 hj2 hj3 rfl (by decide) (.slice Ao ol co) ol _ rfl (HQ.out.alloc _) ⟨wr.heap.size, 0, none⟩ 1 1 [.int .i64 i] rfl rfl (World.news_of_block (cs := #[.int .i64 i]) (t := 3) (fr := (0, 0)) (Blk.new wr 3 #[.int .i64 i])) (by simp [Value.oneCell']) (by omega) (by unfold maxLen; omega) (by omega) (by simp; omega) (wr.heap.size + 1) (by simp) ?_)
          intro gg cap' w2 hown hgrow hgat hgl
          have hm2 : Mems w0.heap.size (memOf mb (c.m.withX (ordX b8 (.slice (some ⟨gg, 0, none⟩) (ol + 1) cap') (c.order ++ [(i : Int)]))) V oV) w2 := ord_app (HM.out.alloc (.cells #[.int .i64 i] 3)) (by rw [← HOL.out]; simpa using hown) hgrow (by
            rcases hgat with z | z
            · exact .inl z.symm
            · right; simp [Value.ownBlock, z])
          have hb2 := (HB2.out.alloc hsz (.cells #[.int .i64 i] 3)).grown hgrow (by simp; omega) (fun b hb => (HQ.out.lt b hb).1)
          have hO2 : OpsL w0.heap.size oV c.m.ops c.m.n w2 := (HI.out.h_ops.below hb2).of (by rw [HIV.out.i_n]; have := HNN.out; omega) (fun l hl => HIV.out.i_ops l (by rw [← HIV.out.i_n]; exact hl))
          have HST1 := Lib.hid (refstep_X w2 hb2.size ⟨V, hm2⟩ hO2 HIV.out.i_ok rfl (by rw [HIV.out.i_n]; exact hik) HP.out o HO.out)
          have HB3 := Lib.hid hb2
          clear hown hgrow hgat hgl hm2 hb2 hO2 HQ c3 t4
          go_wp2_with fail
          refine HST1.out.mono ?_
          rintro e w3 ⟨rfl, hm3, hb3⟩
          have hss := RM.same_step c.m i o
          have hb4 := HB3.out.trans hb3
          have hO3 : OpsL w0.heap.size oV (c.m.step i o).ops (c.m.step i o).n w3 := (HI.out.h_ops.below hb4).of (by rw [hss.n, HIV.out.i_n]; have := HNN.out; omega) (fun l hl => by rw [hss.ops]; exact HIV.out.i_ops l (by rw [← HIV.out.i_n, ← hss.n]; exact hl))
          have HSE := Lib.hid (refsettle_X w3 hb4.size hm3 hO3 (HIV.out.i_ok.step (by rw [HIV.out.i_n]; exact hik) HP.out HO.out) (by rw [hss.n, HIV.out.i_n]; exact hik))
          have HB4 := Lib.hid hb4
          clear hss hb4 hO3 hm3 hb3 HST1 HB3
          go_wp2_with fail
          refine HSE.out.mono ?_
          rintro e w4 ⟨rfl, hm5, hb5⟩
          have HM6 := Lib.hid hm5
          have HB6 := Lib.hid (HB4.out.trans hb5)
          clear hm5 hb5 HSE HB4
          go_wp2
          go_roundw
          case rel => exact ⟨j + 1, c.turn M.toNat i, some ⟨gg, 0, none⟩, cap', by omega, by go_num, by rw [HEQ.out]; simp [HOL.out], HT1.out, HIV.out.turn _, by rw [HEQ.out]; exact HM6.out, HB6.out⟩
          case measure => simp [intOf]; omega
        · have eb : bb = false := by rw [HBB.out, decide_eq_false hB_]
          subst eb
          have HX := Lib.hid (show C0.turns M.toNat xs = c from by
            rw [← HCC.out]
            refine (turns_stop ?_).symm
            rw [HCC.out]
            have h1 := HLX.out
            have h2 := HOL.out
            by_cases h3 : j < LX
            · right
              have : ¬ (ol : Int) < M := fun h => hB_ ⟨h3, h⟩
              omega
            · left; omega)
          clear hB_
          go_wp2
          refine hK1.out _ _ ?_
          clear hK1
          rename World => wq2
          obtain ⟨R, hR⟩ : ∃ R, R = refRun st ops k M.toNat xs := ⟨_, rfl⟩
          rw [← hR]
          have hRR : RRun.rounds M.toNat M.toNat c = R := by rw [hR]; unfold refRun; rw [← HC.out, HX.out]
          have HRR := Lib.hid hRR
          have HM7 : Hid (RMem w0.heap.size mb oV (c.m.withX (ordX b8 (.slice Ao ol co) c.order)) wq2) := Lib.hid ⟨V, HM.out⟩
          have HC7 := HIV
          have HB7 := HB2
          have hfu : M.toNat ≤ M.toNat + c.order.length := Nat.le_add_right _ _
          have HFU := Lib.hid hfu
          have hle := HIV.out.i_most
          clear hR hRR hfu HM HIV HB2 HCC HX HBB HM0 HC0 HL0 HC
          obtain ⟨c7, hc7⟩ : ∃ c7, c7 = c := ⟨_, rfl⟩
          rw [← hc7] at HRR HM7 HC7 HFU HOL hle
          clear hc7
          refine wp_cut fun K2 hK2 => ?_
          go_wp2
          go_loopw [12] (fun ov wr => ∃ (c : RRun) (f : Nat) (Ao : Option Addr) (co : Nat), ov = .slice Ao c.order.length co ∧ RRun.rounds M.toNat f c = R ∧ M.toNat ≤ f + c.order.length ∧ RInv st ops k M c ∧ RMem w0.heap.size mb oV (c.m.withX (ordX b8 ov c.order)) wr ∧ Below w0.heap.size w0 wr) (fun ov wr => M.toNat - lenV ov)
          case atStart => exact ⟨c7, M.toNat, Ao, co, by rw [HOL.out], HRR.out, HFU.out, HC7.out, HM7.out, HB7.out⟩
          case round =>
            clear HRR HFU HC7 HM7 HB7 HOL
            obtain ⟨cc, f, Ao, co, rfl, hrd, hfu, hinv, ⟨V, hm⟩, hb⟩ := hrel
            obtain ⟨ol, hol⟩ : ∃ ol, ol = cc.order.length := ⟨_, rfl⟩
            rw [← hol] at hm ⊢
            have HOL := Lib.hid hol
            have HRD := Lib.hid hrd
            have HFU := Lib.hid hfu
            have HIC := Lib.hid hinv
            have HM := Lib.hid hm
            have HB2 := Lib.hid hb
            have HLE := Lib.hid (show ∀ y, wr = y → Calls Try.prog 48 #[.pointer (some ⟨mb, 0, none⟩)] y fun e w' => e = .returned (.bool cc.m.left) ∧ y = w' from fun y hy => by
              subst hy
              exact refleft_ok (st := cc.m.withX (ordX b8 (.slice Ao ol co) cc.order)) wr ⟨V, HM.out⟩ (by show cc.m.n ≤ 64; rw [HIC.out.i_n]; exact hn64))
            clear hol hrd hfu hinv hm hb
            obtain ⟨lf, hlf⟩ : ∃ lf, lf = cc.m.left := ⟨_, rfl⟩
            rw [← hlf] at HLE
            have HLF := Lib.hid hlf
            clear hlf
            obtain ⟨bb, hbb⟩ : ∃ bb, bb = decide (lf = true ∧ (ol : Int) < M) := ⟨_, rfl⟩
            have HBB := Lib.hid hbb
            clear hbb
            refine wp_cut fun K hK => ?_
            refine wp_merge6 (fun a u1 u2 u3 u4 u5 u6 => (((((((a.put (some 99) (.pointer (some ⟨mb, 0, none⟩))).put (some 100) u5).put (some 101) u6).put (some 102) u1).put (some 103) u2).put (some 104) u3).put (some 105) u4).put (some 106) (.bool bb)) ?_ fun u102 u103 u104 u105 u100 u101 => ?_
            · cases lf with
              | true =>
                by_cases c2 : (ol : Int) < M
                · have e : bb = true := by rw [HBB.out, decide_eq_true ⟨rfl, c2⟩]
                  go_wp2_with (go_at_call 48; refine (HLE.out _ rfl).mono ?_; rintro e w' ⟨rfl, rfl⟩)
                · have e : bb = false := by rw [HBB.out, decide_eq_false fun h => c2 h.2]
                  go_wp2_with (go_at_call 48; refine (HLE.out _ rfl).mono ?_; rintro e w' ⟨rfl, rfl⟩)
              | false =>
                have e : bb = false := by rw [HBB.out, decide_eq_false fun h => by cases h.1]
                go_wp2_with (go_at_call 48; refine (HLE.out _ rfl).mono ?_; rintro e w' ⟨rfl, rfl⟩)
            simp only [Act.put, List.setIfInBounds_toArray, List.set_cons_zero, List.set_cons_succ]
            by_cases hB_ : lf = true ∧ (ol : Int) < M
            · have eb : bb = true := by rw [HBB.out, decide_eq_true hB_]
              obtain ⟨hlf, hol⟩ := hB_
              subst eb
              have HLT := Lib.hid (show cc.m.left = true by rw [← HLF.out]; exact hlf)
              clear hlf HLE
              go_wp2
              refine hK.out _ _ ?_
              clear hK K
              obtain ⟨f', hf'⟩ : ∃ f', f = f' + 1 := ⟨f - 1, by have := HFU.out; have := HOL.out; omega⟩
              subst hf'
              have HRD2 := Lib.hid (show RRun.rounds M.toNat f' (cc.turns M.toNat (RRun.all k)) = R by rw [← HRD.out, RRun.rounds_go ⟨HLT.out, by have := HOL.out; omega⟩, HIC.out.i_n])
              have HGO := Lib.hid (show cc.order.length < (cc.turns M.toNat (RRun.all k)).order.length by have := RRun.round_goes (most := M.toNat) HLT.out (by have := HOL.out; omega); rw [HIC.out.i_n] at this; exact this)
              clear HRD
              have hall : (RRun.all k).length = k := by simp [RRun.all]
              have HAL := Lib.hid hall
              clear hall
              refine wp_block ?_
              refine wp_cut fun K3 hK3 => ?_
              go_wp2
              refine hK3.out _ _ ?_
              clear hK3 K3
              rename World => wq3
              have HM8 : Hid (RMem w0.heap.size mb oV (cc.m.withX (ordX b8 (.slice Ao ol co) cc.order)) wq3) := Lib.hid ⟨V, HM.out⟩
              have HB8 := HB2
              have HOL8 := HOL
              clear HM HB2 HOL
              go_wp2
              go_loopw [12, 15] (fun ov t15 wr => ∃ (i : Nat) (c : RRun) (Ao : Option Addr) (co : Nat), i ≤ k ∧ t15 = .int .i64 i ∧ ov = .slice Ao c.order.length co ∧ cc.turns M.toNat ((RRun.all k).take i) = c ∧ RInv st ops k M c ∧ RMem w0.heap.size mb oV (c.m.withX (ordX b8 ov c.order)) wr ∧ Below w0.heap.size w0 wr) (fun _ i _ => k - (intOf i).toNat)
              case atStart => exact ⟨0, cc, Ao, co, Nat.zero_le _, rfl, by rw [HOL8.out], rfl, HIC.out, HM8.out, HB8.out⟩
              case round =>
                obtain ⟨i, c, Ao, co, hik0, rfl, rfl, hcc, hinv, ⟨V, hm⟩, hb⟩ := hrel
                obtain ⟨ol, hol'⟩ : ∃ ol, ol = c.order.length := ⟨_, rfl⟩
                rw [← hol'] at hm ⊢
                have HOL := Lib.hid hol'
                have HCC := Lib.hid hcc
                have HIV := Lib.hid hinv
                have HM := Lib.hid hm
                have HB2 := Lib.hid hb
                clear hol' hcc hinv hm hb
                have hn64' : (c.m.withX (ordX b8 (.slice Ao ol co) c.order)).n = k := HIV.out.i_n
                obtain ⟨bb, hbb⟩ : ∃ bb, bb = decide (i < k ∧ (ol : Int) < M) := ⟨_, rfl⟩
                have HBB2 := Lib.hid hbb
                clear hbb
                refine wp_cut fun K hK => ?_
                refine wp_merge6 (fun a u1 u2 u3 u4 u5 u6 => (((((((((a.put (some 107) (.int .i64 i)).put (some 108) (.int .i64 k)).put (some 109) u1).put (some 110) u2).put (some 111) u3).put (some 112) u4).put (some 113) u5).put (some 114) u6).put (some 115) (.bool bb))) ?_ fun u109 u110 u111 u112 u113 u114 => ?_
                · by_cases c1 : i < k
                  · by_cases c2 : (ol : Int) < M
                    · have e : bb = true := by rw [HBB2.out, decide_eq_true ⟨c1, c2⟩]
                      go_wp2
                    · have e : bb = false := by rw [HBB2.out, decide_eq_false fun h => c2 h.2]
                      go_wp2
                  · have e : bb = false := by rw [HBB2.out, decide_eq_false fun h => c1 h.1]
                    go_wp2
                simp only [Act.put, List.setIfInBounds_toArray, List.set_cons_zero, List.set_cons_succ]
                by_cases hB2_ : i < k ∧ (ol : Int) < M
                · have eb : bb = true := by rw [HBB2.out, decide_eq_true hB2_]
                  obtain ⟨hik, hol⟩ := hB2_
                  subst eb
                  go_wp2
                  refine hK.out _ _ ?_
                  clear hK K
                  have HT1 := Lib.hid (show cc.turns M.toNat ((RRun.all k).take (i + 1)) = c.turn M.toNat i from by
                    rw [turns_take _ _ _ (by rw [HAL.out]; exact hik), HCC.out]
                    congr 1
                    simp [RRun.all, hik])
                  obtain ⟨tb, tc, hT, htc, htm⟩ := tb_of HM.out (by rw [hn64']; omega)
                  rw [hn64'] at hT htc
                  have HT := Lib.hid hT
                  have c3 : wr.cell? ⟨mb, 3, none⟩ = some (.slice (some ⟨tb, 0, none⟩) k tc) := by have := bcell HM.out 3 (by omega); rw [this]; exact congrArg some HT.out
                  have t4 : wr.cell? ⟨tb, i * 9 + 4, none⟩ = some (.int .i64 (c.m.pc i)) := tcell HM.out (by rw [hn64']; exact HT.out) (by rw [hn64']; exact hik) 4 (by omega)
                  clear hT
                  by_cases hp : c.m.pc i = 0
                  · have hp0 : c.m.pc i ≤ 0 := by omega
                    have HP := Lib.hid hp
                    clear hp
                    have HN := Lib.hid (show cc.turns M.toNat ((RRun.all k).take (i + 1)) = c from by rw [HT1.out, RRun.turn_no fun h => (by have h1 := h.2.2.1; exact h1 (by rw [Int.toNat_natCast]; exact HP.out))])
                    go_wp2
                    go_roundw
                    case rel => exact ⟨i + 1, c, Ao, co, by omega, by go_num, by rw [HOL.out], HN.out, HIV.out, ⟨V, HM.out⟩, HB2.out⟩
                    case measure => simp [intOf]; omega
                  have hp0 : 0 < c.m.pc i := by omega
                  have hmay : c.may M.toNat (i : Int) := ⟨by omega, by rw [HIV.out.i_n]; omega, by rw [Int.toNat_natCast]; exact hp, by have := HOL.out; omega⟩
                  obtain ⟨o, ho, hlive⟩ := HIV.out.i_ok.live i (by rw [HIV.out.i_n]; exact hik) hp
                  have hdo : c.m.does i = (c.m.step i o).settled i := by unfold RM.does; rw [ho]
                  have HEQ := Lib.hid (show c.turn M.toNat (i : Int) = ⟨(c.m.step i o).settled i, c.order ++ [(i : Int)]⟩ from by rw [RRun.turn_yes hmay, Int.toNat_natCast, hdo])
                  have HO := Lib.hid ho
                  have HP := Lib.hid hp
                  have hq : wr.ownsRow w0.heap.size 3 1 (.slice Ao ol co) ol (cellsN (ol * 1) (fun y => .int .i64 (c.order.getD y 0))) := by
                    have := ord_row HM.out
                    rw [← HOL.out] at this
                    exact this
                  have HQ := Lib.hid hq
                  have hsz : w0.heap.size ≤ wr.heap.size := HB2.out.size
                  have holM : ol < 1048576 := by omega
                  clear hmay ho hlive hdo hp hq
                  go_wp2_with (at_builtin; refine wpList_append_lies _ rfl _ _ 24 rfl w0.heap.size 3 i1 (.int .i64 0) 1 8 Try.underlying24 hj0 hj1 hj2 hj3 rfl (by decide) (.slice Ao ol co) ol _ rfl (HQ.out.alloc _) ⟨wr.heap.size, 0, none⟩ 1 1 [.int .i64 i] rfl rfl (World.news_of_block (cs := #[.int .i64 i]) (t := 3) (fr := (0, 0)) (Blk.new wr 3 #[.int .i64 i])) (by simp [Value.oneCell']) (by omega) (by unfold maxLen; omega) (by omega) (by simp; omega) (wr.heap.size + 1) (by simp) ?_)
                  intro gg cap' w2 hown hgrow hgat hgl
                  have hm2 : Mems w0.heap.size (memOf mb (c.m.withX (ordX b8 (.slice (some ⟨gg, 0, none⟩) (ol + 1) cap') (c.order ++ [(i : Int)]))) V oV) w2 := ord_app (HM.out.alloc (.cells #[.int .i64 i] 3)) (by rw [← HOL.out]; simpa using hown) hgrow (by
                    rcases hgat with z | z
                    · exact .inl z.symm
                    · right; simp [Value.ownBlock, z])
                  have hb2 := (HB2.out.alloc hsz (.cells #[.int .i64 i] 3)).grown hgrow (by simp; omega) (fun b hb => (HQ.out.lt b hb).1)
                  have hO2 : OpsL w0.heap.size oV c.m.ops c.m.n w2 := (HI.out.h_ops.below hb2).of (by rw [HIV.out.i_n]; have := HNN.out; omega) (fun l hl => HIV.out.i_ops l (by rw [← HIV.out.i_n]; exact hl))
                  have HST1 := Lib.hid (refstep_X w2 hb2.size ⟨V, hm2⟩ hO2 HIV.out.i_ok rfl (by rw [HIV.out.i_n]; exact hik) HP.out o HO.out)
                  have HB3 := Lib.hid hb2
                  clear hown hgrow hgat hgl hm2 hb2 hO2 HQ c3 t4
                  go_wp2_with fail
                  refine HST1.out.mono ?_
                  rintro e w3 ⟨rfl, hm3, hb3⟩
                  have hss := RM.same_step c.m i o
                  have hb4 := HB3.out.trans hb3
                  have hO3 : OpsL w0.heap.size oV (c.m.step i o).ops (c.m.step i o).n w3 := (HI.out.h_ops.below hb4).of (by rw [hss.n, HIV.out.i_n]; have := HNN.out; omega) (fun l hl => by rw [hss.ops]; exact HIV.out.i_ops l (by rw [← HIV.out.i_n, ← hss.n]; exact hl))
                  have HSE := Lib.hid (refsettle_X w3 hb4.size hm3 hO3 (HIV.out.i_ok.step (by rw [HIV.out.i_n]; exact hik) HP.out HO.out) (by rw [hss.n, HIV.out.i_n]; exact hik))
                  have HB4 := Lib.hid hb4
                  clear hss hb4 hO3 hm3 hb3 HST1 HB3
                  go_wp2_with fail
                  refine HSE.out.mono ?_
                  rintro e w4 ⟨rfl, hm5, hb5⟩
                  have HM6 := Lib.hid hm5
                  have HB6 := Lib.hid (HB4.out.trans hb5)
                  clear hm5 hb5 HSE HB4
                  go_wp2
                  go_roundw
                  case rel => exact ⟨i + 1, c.turn M.toNat i, some ⟨gg, 0, none⟩, cap', by omega, by go_num, by rw [HEQ.out]; simp [HOL.out], HT1.out, HIV.out.turn _, by rw [HEQ.out]; exact HM6.out, HB6.out⟩
                  case measure => simp [intOf]; omega
                · have eb : bb = false := by rw [HBB2.out, decide_eq_false hB2_]
                  subst eb
                  have HX := Lib.hid (show cc.turns M.toNat (RRun.all k) = c from by
                    rw [← HCC.out]
                    refine (turns_stop ?_).symm
                    rw [HCC.out]
                    have h1 := HAL.out
                    have h2 := HOL.out
                    by_cases h3 : i < k
                    · right
                      have : ¬ (ol : Int) < M := fun h => hB2_ ⟨h3, h⟩
                      omega
                    · left; omega)
                  have hge : cc.order.length < ol := by have := HGO.out; rw [HX.out] at this; rw [HOL.out]; exact this
                  have hol8 := HOL8.out
                  have HREL := Lib.hid (show RRun.rounds M.toNat f' c = R ∧ M.toNat ≤ f' + c.order.length from ⟨by rw [← HRD2.out, HX.out], by have := HFU.out; have := HOL.out; omega⟩)
                  have hM9 : ol ≤ M.toNat := by rw [HOL.out]; exact HIV.out.i_most
                  have hle9 : cc.order.length + 1 ≤ ol := by omega
                  have hol9 : cc.order.length ≤ M.toNat := by omega
                  clear hB2_ hol8
                  go_wp2
                  go_roundw
                  case rel => exact ⟨c, f', Ao, co, by rw [HOL.out], HREL.out.1, HREL.out.2, HIV.out, ⟨V, HM.out⟩, HB2.out⟩
                  case measure =>
                    have := HOL8.out
                    simp only [lenV]
                    omega
            · have eb : bb = false := by rw [HBB.out, decide_eq_false hB_]
              subst eb
              have HX := Lib.hid (show cc = R from by
                rw [← HRD.out, RRun.rounds_stop]
                rintro ⟨h1, h2⟩
                exact hB_ ⟨by rw [HLF.out]; exact h1, by have := HOL.out; omega⟩)
              clear hB_ HLE
              go_wp2
              refine hK2.out _ _ ?_
              clear hK2
              have hx := HX.out
              subst hx
              have HLE2 := Lib.hid (show Calls Try.prog 48 #[.pointer (some ⟨mb, 0, none⟩)] wr fun e w' => e = .returned (.bool cc.m.left) ∧ wr = w' from refleft_ok (st := cc.m.withX (ordX b8 (.slice Ao ol co) cc.order)) wr ⟨V, HM.out⟩ (by show cc.m.n ≤ 64; rw [HIC.out.i_n]; exact hn64))
              have HSTT := Lib.hid (show Calls Try.prog 49 #[.pointer (some ⟨mb, 0, none⟩)] wr (NumsRow wr (cc.m.size + cc.m.size) (rowN cc.m.S cc.m.size ++ rowN cc.m.V cc.m.size)) from refstate_ok (st := cc.m.withX (ordX b8 (.slice Ao ol co) cc.order)) wr ⟨V, HM.out⟩ HIC.out.i_ok.size)
              refine wp_cut fun K hK => ?_
              go_wp2_with fail
              refine HLE2.out.mono ?_
              rintro e w' ⟨rfl, rfl⟩
              go_wp2_with fail
              refine HSTT.out.mono ?_
              rintro e w2 ⟨tv, rfl, hst2, hb2⟩
              obtain ⟨At, ct, rfl⟩ := own_slice hst2
              obtain ⟨tn, htn⟩ : ∃ tn, tn = cc.m.size + cc.m.size := ⟨_, rfl⟩
              rw [← htn] at hst2
              have HTN := Lib.hid htn
              rw [← htn]
              clear htn
              have HST2 := Lib.hid (own_mono hst2 (show b8 + 1 ≤ wr.heap.size from (HM.out.lt (r := .ext 1) (b := b8) (d := trRow b8) rfl rfl).2))
              have HBW2 := Lib.hid hb2
              obtain ⟨b16, hb16⟩ : ∃ b16, b16 = w2.heap.size := ⟨_, rfl⟩
              have hbl : Blk (w2.alloc (.cells #[.slice none 0 0, .slice none 0 0, .slice none 0 0, .bool false] 31)) w2.heap.size _ _ := Blk.new w2 31 #[.slice none 0 0, .slice none 0 0, .slice none 0 0, .bool false]
              have o0 := hbl.cell 0
              have o1 := hbl.cell 1
              have o2 := hbl.cell 2
              have o3 := hbl.cell 3
              have oz0 := hbl.frozen 0
              have oz1 := hbl.frozen 1
              have oz2 := hbl.frozen 2
              have oz3 := hbl.frozen 3
              simp at o0 o1 o2 o3
              have HBL := Lib.hid hbl
              have HB16 := Lib.hid hb16
              clear hst2 hb2 hbl hb16 HLE2 HSTT
              go_wp2
              refine hK.out _ _ ?_
              clear hK K o0 o1 o2 o3 oz0 oz1 oz2 oz3 HBL
              rw [← HB16.out]
              have hb3 : Blk (w2.alloc (.cells #[.slice none 0 0, .slice Ao ol co, .slice At tn ct, .bool cc.m.left] 31)) b16 _ _ := HB16.out ▸ Blk.new w2 31 #[.slice none 0 0, .slice Ao ol co, .slice At tn ct, .bool cc.m.left]
              have hk3 : Below w2.heap.size w2 (w2.alloc (.cells #[.slice none 0 0, .slice Ao ol co, .slice At tn ct, .bool cc.m.left] 31)) := (Below.refl _ _).alloc (Nat.le_refl _) _
              have hs3 : (w2.alloc (.cells #[.slice none 0 0, .slice Ao ol co, .slice At tn ct, .bool cc.m.left] 31)).heap.size = b16 + 1 := by have := HB16.out; simp; omega
              have hm3 := rtr_of (HM.out.same fun b hb => HBW2.out.block b hb)
              have hw2 := HB2.out.trans (HBW2.out.mono HB2.out.size)
              have hB16 : w0.heap.size ≤ b16 := by have h1 := HB16.out; have h2 := HBW2.out.size; have h3 := HB2.out.size; omega
              have HM3 : Hid (Mems w0.heap.size (Rtr mb cc.m V oV b8 (.slice Ao ol co) cc.order trF) w2) := Lib.hid hm3
              have HW2 := Lib.hid hw2
              have HK3 := Lib.hid (And.intro hb3 (And.intro hk3 hs3))
              clear hb3 hk3 hm3 hw2 hs3 HM HB2 HBW2
              generalize World.alloc _ _ = w3 at *
              obtain ⟨i2, hq0, hq1, hq2, hq3⟩ := info_parts Try.infoAnsL
              obtain ⟨TA, tc, hTv⟩ : ∃ A c, V .T = .slice A k c := by
                have h0 := own_slice (show w2.ownsRow w0.heap.size 104 9 (V .T) cc.m.n (cellsN (cc.m.n * 9) (recF 9 (thF (cc.m.withX (ordX b8 (.slice Ao ol co) cc.order)) V oV))) from HM3.out.at_ (r := .T) rfl)
                rw [HIC.out.i_n] at h0
                exact h0
              have HTV := Lib.hid hTv
              clear hTv
              refine wp_cut fun K hK => ?_
              go_wp2
              go_loopw [17] (fun t17 wr => ∃ (j : Nat) (rA : Option Addr) (rc : Nat), j ≤ k ∧ t17 = .int .i64 j ∧ Blk wr b16 31 #[.slice rA j rc, .slice Ao ol co, .slice At tn ct, .bool cc.m.left] ∧ wr.ownsRow (b16 + 1) 44 1 (.slice rA j rc) j ((List.range j).map fun i => V (.ans i)) ∧ Below w2.heap.size w2 wr) (fun i _ => k - (intOf i).toNat)
              case atStart => exact ⟨0, none, 0, Nat.zero_le _, rfl, HK3.out.1, ⟨rfl, .inl ⟨rfl, rfl⟩⟩, HK3.out.2.1⟩
              case round =>
                obtain ⟨j, rA, rc, hj, rfl, hbk, hown, hbl⟩ := hrel
                have HBK := Lib.hid hbk
                have HOW := Lib.hid hown
                have HBL := Lib.hid hbl
                clear hbk hown hbl
                by_cases hjk : j < k
                · have hmr := HM3.out.same fun b hb => HBL.out.block b hb
                  obtain ⟨tb, hTA, _, _⟩ : ∃ g, TA = some ⟨g, 0, none⟩ ∧ w0.heap.size ≤ g ∧ g < w2.heap.size := by
                    have h0 : w2.ownsRow w0.heap.size 104 9 (V .T) cc.m.n (cellsN (cc.m.n * 9) (recF 9 (thF (cc.m.withX (ordX b8 (.slice Ao ol co) cc.order)) V oV))) := HM3.out.at_ (r := .T) rfl
                    rw [HIC.out.i_n, HTV.out] at h0
                    exact row_addr h0 (by omega)
                  subst hTA
                  have c3 : wr.cell? ⟨mb, 3, none⟩ = some (.slice (some ⟨tb, 0, none⟩) k tc) := by
                    have := hmr.cell (r := .box) (e := 102) (sz := 5) (g := mb) (cap := 1) (n := 1) (f := boxF (cc.m.withX (ordX b8 (.slice Ao ol co) cc.order)) V) rfl (show 3 < 1 * 5 by omega)
                    rw [this]
                    exact congrArg some HTV.out
                  have t1 : wr.cell? ⟨tb, j * 9 + 1, none⟩ = some (V (.ans j)) := by
                    have := hmr.cell (r := .T) (e := 104) (sz := 9) (g := tb) (cap := tc) (n := k) (f := recF 9 (thF (cc.m.withX (ordX b8 (.slice Ao ol co) cc.order)) V oV)) (by
                      show some (⟨104, 9, V .T, cc.m.n, recF 9 (thF (cc.m.withX (ordX b8 (.slice Ao ol co) cc.order)) V oV)⟩ : Row) = _
                      rw [HIC.out.i_n, HTV.out]) (recF_lt hjk (show 1 < 9 by omega))
                    rw [this, recF_at (by omega)]
                    rfl
                  obtain ⟨vA, va, hva⟩ : ∃ A c, V (.ans j) = .slice A (cc.m.ans j).length c := by
                    obtain ⟨⟨A, c, h, _⟩, _⟩ := rtr_ans hmr (i := j) (by rw [HIC.out.i_n]; exact hjk)
                    exact ⟨A, c, h⟩
                  have HVA := Lib.hid hva
                  rw [hva] at t1
                  have a0 := HBK.out.cell 0
                  have az := HBK.out.frozen 0
                  simp at a0
                  have l16 := HBK.out.lt
                  have lmb := lt_of_cell c3
                  have ltb := lt_of_cell t1
                  have hneb : ∀ b, (Value.slice rA j rc).ownBlock = some b → b16 + 1 ≤ b := fun b hb => (HOW.out.lt b hb).1
                  have hlt2 : mb < b16 ∧ tb < b16 := by
                    have h1 := (HM3.out.lt (r := .box) (b := mb) (d := ⟨102, 5, .slice (some ⟨mb, 0, none⟩) 1 1, 1, boxF (cc.m.withX (ordX b8 (.slice Ao ol co) cc.order)) V⟩) rfl rfl).2
                    have := HB16.out
                    omega
                  have HLT := Lib.hid hlt2
                  have HNE := Lib.hid hneb
                  clear hva hlt2 hneb hmr
                  go_wp2_with fail
                  refine wp_region_last (S := fun w' => w'.cell? ⟨mb, 3, none⟩ = some (.slice (some ⟨tb, 0, none⟩) k tc) ∧ w'.cell? ⟨tb, j * 9 + 1, none⟩ = some (.slice vA (cc.m.ans j).length va) ∧ w'.cell? ⟨b16, 0, none⟩ = some (.slice rA j rc) ∧ True ∧ True ∧ True ∧ True) 13 (by kernel_rfl) (by kernel_rfl) (by kernel_rfl) ?_
                  simp only [idle, List.modify_toArray, List.modify_succ_cons, List.modify_zero_cons, List.size_toArray, List.length_cons, List.length_nil, Nat.reduceAdd]
                  have HS : wr.drew.cell? ⟨mb, 3, none⟩ = some (.slice (some ⟨tb, 0, none⟩) k tc) ∧ wr.drew.cell? ⟨tb, j * 9 + 1, none⟩ = some (.slice vA (cc.m.ans j).length va) ∧ wr.drew.cell? ⟨b16, 0, none⟩ = some (.slice rA j rc) ∧ True ∧ True ∧ True ∧ True := ⟨c3, t1, a0, trivial, trivial, trivial, trivial⟩
                  refine wpAnyH_read (i := 0) (some 148) rfl rfl (by kernel_rfl) (by kernel_rfl) (by kernel_rfl) (fun _ _ _ h => h) rfl HS ?_
                  apply Exists.intro
                  refine ⟨fun wq hw => ?_, ?_⟩
                  · obtain ⟨hw1, hw2, hw3, hw4, hw5, hw6, hw7⟩ := hw
                    go_simp
                    rfl
                  simp only [Act.put, List.setIfInBounds_toArray, List.set_cons_zero, List.set_cons_succ]
                  refine wpAnyH_read (i := 1) (some 149) rfl rfl (by kernel_rfl) (by kernel_rfl) (by kernel_rfl) (fun _ _ _ h => h) rfl HS ?_
                  apply Exists.intro
                  refine ⟨fun wq hw => ?_, ?_⟩
                  · obtain ⟨hw1, hw2, hw3, hw4, hw5, hw6, hw7⟩ := hw
                    go_simp
                    rfl
                  simp only [Act.put, List.setIfInBounds_toArray, List.set_cons_zero, List.set_cons_succ]
                  refine wpAnyH_read (i := 2) (some 150) rfl rfl (by kernel_rfl) (by kernel_rfl) (by kernel_rfl) (fun _ _ _ h => h) rfl HS ?_
                  apply Exists.intro
                  refine ⟨fun wq hw => ?_, ?_⟩
                  · obtain ⟨hw1, hw2, hw3, hw4, hw5, hw6, hw7⟩ := hw
                    go_simp
                    rfl
                  simp only [Act.put, List.setIfInBounds_toArray, List.set_cons_zero, List.set_cons_succ]
                  refine wpAnyH_read (i := 3) (some 151) rfl rfl (by kernel_rfl) (by kernel_rfl) (by kernel_rfl) (fun _ _ _ h => h) rfl HS ?_
                  apply Exists.intro
                  refine ⟨fun wq hw => ?_, ?_⟩
                  · obtain ⟨hw1, hw2, hw3, hw4, hw5, hw6, hw7⟩ := hw
                    go_simp
                    rfl
                  simp only [Act.put, List.setIfInBounds_toArray, List.set_cons_zero, List.set_cons_succ]
                  refine wpAnyH_read (i := 4) (some 152) rfl rfl (by kernel_rfl) (by kernel_rfl) (by kernel_rfl) (fun _ _ _ h => h) rfl HS ?_
                  apply Exists.intro
                  refine ⟨fun wq hw => ?_, ?_⟩
                  · obtain ⟨hw1, hw2, hw3, hw4, hw5, hw6, hw7⟩ := hw
                    go_simp
                    rfl
                  simp only [Act.put, List.setIfInBounds_toArray, List.set_cons_zero, List.set_cons_succ]
                  refine wpAnyH_read (i := 5) (some 153) rfl rfl (by kernel_rfl) (by kernel_rfl) (by kernel_rfl) (fun _ _ _ h => h) rfl HS ?_
                  apply Exists.intro
                  refine ⟨fun wq hw => ?_, ?_⟩
                  · obtain ⟨hw1, hw2, hw3, hw4, hw5, hw6, hw7⟩ := hw
                    go_simp
                    rfl
                  simp only [Act.put, List.setIfInBounds_toArray, List.set_cons_zero, List.set_cons_succ]
                  refine wpAnyH_read (i := 6) (some 154) rfl rfl (by kernel_rfl) (by kernel_rfl) (by kernel_rfl) (fun _ _ _ h => h) rfl HS ?_
                  apply Exists.intro
                  refine ⟨fun wq hw => ?_, ?_⟩
                  · obtain ⟨hw1, hw2, hw3, hw4, hw5, hw6, hw7⟩ := hw
                    go_simp
                    rfl
                  simp only [Act.put, List.setIfInBounds_toArray, List.set_cons_zero, List.set_cons_succ]
                  refine wpAnyH_read (i := 7) (some 155) rfl rfl (by kernel_rfl) (by kernel_rfl) (by kernel_rfl) (fun _ _ _ h => h) rfl HS ?_
                  apply Exists.intro
                  refine ⟨fun wq hw => ?_, ?_⟩
                  · obtain ⟨hw1, hw2, hw3, hw4, hw5, hw6, hw7⟩ := hw
                    go_simp
                    rfl
                  simp only [Act.put, List.setIfInBounds_toArray, List.set_cons_zero, List.set_cons_succ]
                  refine wpAnyH_read (i := 8) (some 156) rfl rfl (by kernel_rfl) (by kernel_rfl) (by kernel_rfl) (fun _ _ _ h => h) rfl HS ?_
                  apply Exists.intro
                  refine ⟨fun wq hw => ?_, ?_⟩
                  · obtain ⟨hw1, hw2, hw3, hw4, hw5, hw6, hw7⟩ := hw
                    go_simp
                    rfl
                  simp only [Act.put, List.setIfInBounds_toArray, List.set_cons_zero, List.set_cons_succ]
                  refine wpAnyH_read (i := 9) (some 157) rfl rfl (by kernel_rfl) (by kernel_rfl) (by kernel_rfl) (fun _ _ _ h => h) rfl HS ?_
                  apply Exists.intro
                  refine ⟨fun wq hw => ?_, ?_⟩
                  · obtain ⟨hw1, hw2, hw3, hw4, hw5, hw6, hw7⟩ := hw
                    go_simp
                    rfl
                  simp only [Act.put, List.setIfInBounds_toArray, List.set_cons_zero, List.set_cons_succ]
                  clear HS
                  refine wpAnyH_one (i := 10) (by kernel_rfl) rfl rfl fun K' hK' => ?_
                  go_simp
                  refine hK' _ _ ⟨(one_cell' wr _ _ 3 lmb).trans c3, (one_cell' wr _ _ _ ltb).trans t1, (one_cell' wr _ _ 0 l16).trans a0, trivial, trivial, trivial, trivial⟩ ?_
                  clear hK' K'
                  refine wpAnyH_one (i := 11) (by kernel_rfl) rfl rfl fun K' hK' => ?_
                  refine wp_append_lies _ _ _ _ rfl (b16 + 1) 44 i2 (.slice none 0 0) 1 24 Try.underlying29 hq0 hq1 hq2 hq3 rfl (by omega) (.slice rA j rc) j _ rfl (HOW.out.alloc _).drew ⟨wr.heap.size, 0, none⟩ 1 1 [.slice vA (cc.m.ans j).length va] rfl rfl (World.news_of_block (cs := #[.slice vA (cc.m.ans j).length va]) (t := 44) (fr := (0, 0)) (news_one wr _ _)) (by simp [Value.oneCell']) (by omega) (by unfold maxLen; omega) (by omega) (by simp; omega) (wr.heap.size + 1) (one_len _ _) fun gg cap' w4 hown1 hgrow hgat hgl => ?_
                  have ln1 := one_len wr (Obj.cells #[.slice vA (cc.m.ans j).length va] 44)
                  have key : ∀ b, b < wr.heap.size → b < b16 + 1 → w4.heap[b]? = wr.heap[b]? := fun b hb hlt => (hgrow.block b (by rw [ln1]; omega) (fun z => by have := HNE.out b z.symm; omega)).trans (Below.heap_alloc _ _ _ hb)
                  have k3 := (World.cell?_of_block (w := wr) (w' := w4) (a := ⟨mb, 3, none⟩) (key mb lmb (by have := HLT.out; omega))).trans c3
                  have k1 := (World.cell?_of_block (w := wr) (w' := w4) (a := ⟨tb, j * 9 + 1, none⟩) (key tb ltb (by have := HLT.out; omega))).trans t1
                  have k0 := (World.cell?_of_block (w := wr) (w' := w4) (a := ⟨b16, 0, none⟩) (key b16 l16 (by omega))).trans a0
                  refine hK' _ _ ⟨k3, k1, k0, trivial, trivial, trivial, trivial⟩ ?_
                  clear hK' K'
                  have HS : w4.cell? ⟨mb, 3, none⟩ = some (.slice (some ⟨tb, 0, none⟩) k tc) ∧ w4.cell? ⟨tb, j * 9 + 1, none⟩ = some (.slice vA (cc.m.ans j).length va) ∧ w4.cell? ⟨b16, 0, none⟩ = some (.slice rA j rc) ∧ True ∧ True ∧ True ∧ True := ⟨k3, k1, k0, trivial, trivial, trivial, trivial⟩
                  simp only [Act.put, List.setIfInBounds_toArray, List.set_cons_zero, List.set_cons_succ, List.getElem_toArray, List.getElem_cons_zero, List.getElem_cons_succ]
                  refine wpAnyH_read (i := 12) (some 160) rfl rfl (by kernel_rfl) (by kernel_rfl) (by kernel_rfl) (fun _ _ _ h => h) rfl HS ?_
                  apply Exists.intro
                  refine ⟨fun wq hw => ?_, ?_⟩
                  · obtain ⟨hw1, hw2, hw3, hw4, hw5, hw6, hw7⟩ := hw
                    go_simp
                    rfl
                  simp only [Act.put, List.setIfInBounds_toArray, List.set_cons_zero, List.set_cons_succ]
                  refine wpAnyH_read (i := 13) none rfl rfl (by kernel_rfl) (by kernel_rfl) (by kernel_rfl) (fun _ _ _ h => h) rfl HS ?_
                  apply Exists.intro
                  refine ⟨fun wq hw => ?_, ?_⟩
                  · go_simp
                    rfl
                  simp only [Act.put]
                  clear HS
                  refine wpAnyH_done (by kernel_rfl) ?_ _
                  simp only [Exit.then]
                  refine wpOps_list (m := 13) rfl ?_
                  have hbk4 : Blk w4 b16 31 #[.slice rA j rc, .slice Ao ol co, .slice At tn ct, .bool cc.m.left] := (key b16 l16 (by omega)).trans HBK.out
                  have hbk5 := hbk4.set_ 0 (.slice (some ⟨gg, 0, none⟩) (j + 1) cap')
                  simp only [List.setIfInBounds_toArray, List.set_cons_zero] at hbk5
                  have z0 := hbk4.frozen 0
                  have hown5 : w4.ownsRow (b16 + 1) 44 1 (.slice (some ⟨gg, 0, none⟩) (j + 1) cap') (j + 1) ((List.range (j + 1)).map fun i => V (.ans i)) := by
                    rw [List.range_succ, List.map_append, List.map_cons, List.map_nil, HVA.out]
                    exact hown1
                  have hown6 := ownsRow_setCell_below hown5 (a := ⟨b16, 0, none⟩) (show b16 < b16 + 1 by omega) (.slice (some ⟨gg, 0, none⟩) (j + 1) cap')
                  have hbl6 := ((Below.drewN (HBL.out.alloc HBL.out.size (.cells #[.slice vA (cc.m.ans j).length va] 44)) 1).grown hgrow (by show w2.heap.size ≤ (wr.alloc _).heap.size; simp; have := HBL.out.size; omega) (fun b hb => by have := HNE.out b hb; have := HB16.out; omega)).setCell (p := ⟨b16, 0, none⟩) (by show w2.heap.size ≤ b16; have := HB16.out; omega) (.slice (some ⟨gg, 0, none⟩) (j + 1) cap')
                  have HR := Lib.hid (And.intro hbk5 (And.intro hown6 hbl6))
                  clear hbk4 hbk5 hown5 hown6 hbl6 key k3 k1 hown1 hgrow hgat
                  go_wp2
                  go_roundw
                  case rel => exact ⟨j + 1, some ⟨gg, 0, none⟩, cap', by omega, by go_num, HR.out.1, HR.out.2.1, HR.out.2.2⟩
                  case measure => simp [intOf]; omega
                · have ej : j = k := by omega
                  subst ej
                  go_wp2
                  refine hK.out _ _ ?_
                  clear hK
                  have a0 := HBK.out.cell 0
                  have a1 := HBK.out.cell 1
                  have a2 := HBK.out.cell 2
                  have a3 := HBK.out.cell 3
                  simp at a0 a1 a2 a3
                  have hmr := HM3.out.same fun b hb => HBL.out.block b hb
                  have e0 := rtr_cell hmr 0 (by omega)
                  have e1 := rtr_cell hmr 1 (by omega)
                  have e2 := rtr_cell hmr 2 (by omega)
                  have e3 := rtr_cell hmr 3 (by omega)
                  obtain ⟨e0, y0⟩ := e0
                  obtain ⟨e1, y1⟩ := e1
                  obtain ⟨e2, y2⟩ := e2
                  obtain ⟨e3, y3⟩ := e3
                  simp only [trF] at e0 e1 e2 e3
                  have HMR := Lib.hid hmr
                  clear hmr
                  refine wp_cut fun K9 hK9 => ?_
                  go_wp2
                  refine hK9.out _ _ ?_
                  clear hK9 K9 a0 a1 a2 a3 e0 e1 e2 e3 y0 y1 y2 y3
                  have hm9 := rtr_set (rtr_set (rtr_set (rtr_set HMR.out 0 (.slice rA j rc)) 1 (.slice Ao ol co)) 2 (.slice At tn ct)) 3 (.bool cc.m.left)
                  have hbw9 := (((((HW2.out.trans (HBL.out.mono (by have := HB16.out; omega))).setCell (p := ⟨b8, 0, none⟩) h8 (.slice rA j rc)).setCell (p := ⟨b8, 1, none⟩) h8 (.slice Ao ol co)).setCell (p := ⟨b8, 2, none⟩) h8 (.slice At tn ct)).setCell (p := ⟨b8, 3, none⟩) h8 (.bool cc.m.left))
                  have S : ∀ (w : World) (i : Nat) (u : Value), Kept (fun b => b = b8) w (w.setCell ⟨b8, i, none⟩ u) := fun w i u => Kept.setCell (S := fun b => b = b8) w (p := ⟨b8, i, none⟩) rfl u
                  have hk9 : Kept (fun b => b = b8) wr ((((wr.setCell ⟨b8, 0, none⟩ (.slice rA j rc)).setCell ⟨b8, 1, none⟩ (.slice Ao ol co)).setCell ⟨b8, 2, none⟩ (.slice At tn ct)).setCell ⟨b8, 3, none⟩ (.bool cc.m.left)) := (((S _ _ _).trans (S _ _ _)).trans (S _ _ _)).trans (S _ _ _)
                  have h8lt : b8 < b16 := by
                    have h1 := (HM3.out.lt (r := .ext 1) (b := b8) (d := ⟨31, 4, .slice (some ⟨b8, 0, none⟩) 1 1, 1, trF⟩) (if_pos rfl) rfl).2
                    have := HB16.out
                    omega
                  have hsta := (own_kept (own_kept HST2.out (Kept.of_below (S := fun _ => False) HBL.out) (fun _ _ h => h)) hk9 (fun b hb hz => by omega))
                  have hstm := own_max HST2.out
                  have hrow := own_kept HOW.out hk9 (fun b hb hz => by omega)
                  generalize World.setCell _ _ _ = wf at *
                  have d0 := (rtr_cell hm9 0 (by omega)).1
                  have d1 := (rtr_cell hm9 1 (by omega)).1
                  have d2 := (rtr_cell hm9 2 (by omega)).1
                  have d3 := (rtr_cell hm9 3 (by omega)).1
                  simp at d0 d1 d2 d3
                  refine wp_ret ?_
                  try simp only [Exit.inBlock, Exit.then]
                  refine bodyPost_ret (v := .agg #[.slice rA j rc, .slice Ao ol co, .slice At tn ct, .bool cc.m.left]) (by simp [results, Try.f35, go_sem, d0, d1, d2, d3]) rfl ?_
                  refine ⟨rA, rc, _, _, rfl, fun wz hz => ?_, hbw9, fun A' n' c' e => by cases e; exact row_cap hsta⟩
                  have hm9 := hm9.same_up hz
                  have hsta := own_up hsta fun b hb hl => hz b (by omega) hl
                  have hrow := own_up hrow fun b hb hl => hz b (by omega) hl
                  refine ⟨rtr_ord hm9, ?_, fun i hi => ?_⟩
                  · rw [← HIC.out.i_size]
                    have hl := HTN.out
                    exact ⟨IntsAt.of_own hsta, by simp [rowN]; omega⟩
                  · obtain ⟨g, hg, _, _⟩ := row_addr hrow (by omega)
                    subst hg
                    have hc := hrow.cellAt (g := g) i (by omega)
                    obtain ⟨x1, x2⟩ := rtr_ans hm9 (i := i) (by rw [HIC.out.i_n]; exact hi)
                    exact ⟨g, 0, V (.ans i), rfl, by rw [Nat.zero_add, hc]; simp [hi], x1, x2⟩
end
end Go.Proofs.Yteainbnoemkfcaa
namespace Go.Proofs.Yteainbnoemkfcaa
open Go.RowKit Go.Turn Go.Tame Go.Conc
def R64 (x : Int) : Prop := -9223372036854775808 ≤ x ∧ x < 9223372036854775808
theorem wrap_r64 {x : Int} (h : R64 x) : wrap64 (0 + x) = x := by
  obtain ⟨h1, h2⟩ := h
  unfold wrap64
  omega
def toS (r : RM) : RSt2 := ((r.S, r.V), r.ans)
def finQ (doT : DoQ RSt) (i : Nat) (rest : List OpI) (own : List Ans) (a : Ans) (st : RSt2) : Tree RSt2 RSt2 := if st.2 i = own then thrQ doT i rest (own ++ [a]) (pushQ i a st) else .cut
def getQ (rn : Nat) (q x v : Int) (p : Nat) (K : Int → Int → RSt2 → Tree RSt2 RSt2) : RSt2 → Tree RSt2 RSt2 :=
  if p = 1 then fun s1 => if s1.1.1 (q % rn).toNat < 2 * (q / rn) then K 0 6 s1 else if 2 * (q / rn) < s1.1.1 (q % rn).toNat then K 0 10 s1 else
    .yield s1 fun s2 => .yield s2 fun s3 => if s3.1.1 (q % rn).toNat = s1.1.1 (q % rn).toNat then K (s2.1.2 (q % rn).toNat) 0 s3 else K 0 10 s3
  else if p = 2 then fun s2 => .yield s2 fun s3 => if s3.1.1 (q % rn).toNat = x then K (s2.1.2 (q % rn).toNat) 0 s3 else K 0 10 s3
  else fun s3 => if s3.1.1 (q % rn).toNat = x then K v 0 s3 else K 0 10 s3
def gathQ (rn : Nat) (o : OpI) (q : Int) (seen : List Int) (k : Ans → RSt2 → Tree RSt2 RSt2) (v e : Int) (st : RSt2) : Tree RSt2 RSt2 :=
  if e = 0 then gathT idL rn (min o.b.toNat rn - seen.length - 1) (q + 1) (seen ++ [v]) st (fun ls e st => k ⟨e == 0, e, ls⟩ st) else if seen = [] then k ⟨e == 0, e, []⟩ st else k ⟨(0 : Int) == 0, 0, seen⟩ st
def contQ (rn : Nat) (k : Ans → RSt2 → Tree RSt2 RSt2) (o : OpI) (q x v : Int) (seen : List Int) (p : Nat) : RSt2 → Tree RSt2 RSt2 :=
  if o.kind = 1 then
    if p = 1 then fun s1 => .yield (idL.st s1 (q % rn).toNat (2 * (q / rn) - 1)) fun s2 => .yield (idL.va s2 (q % rn).toNat o.b) fun s3 => k ⟨(0 : Int) == 0, 0, []⟩ (idL.st s3 (q % rn).toNat (2 * (q / rn)))
    else if p = 2 then fun s2 => .yield (idL.va s2 (q % rn).toNat o.b) fun s3 => k ⟨(0 : Int) == 0, 0, []⟩ (idL.st s3 (q % rn).toNat (2 * (q / rn)))
    else fun s3 => k ⟨(0 : Int) == 0, 0, []⟩ (idL.st s3 (q % rn).toNat (2 * (q / rn)))
  else if o.kind = 2 then getQ rn q x v p fun v e st => k ⟨e == 0, wrap64 (e + v), []⟩ st
  else if o.kind = 3 then fun s1 => k ⟨s1.1.1 (q % rn).toNat == 2 * (q / rn), 0, []⟩ s1
  else if o.kind = 4 then fun s1 => if (s1.1.1 (q % rn).toNat == 2 * (q / rn)) = true then highT idL rn (highN rn o.a o.b - (q - o.a).toNat - 1) (q + 1) s1 (fun x st => k ⟨true, x, []⟩ st) else k ⟨true, q - 1, []⟩ s1
  else getQ rn q x v p (gathQ rn o q seen k)
def restOf (r : RM) (i : Nat) : List OpI := (r.ops i).drop (r.at_ i + 1)
def contOf (r : RM) (i : Nat) (o : OpI) : RSt2 → Tree RSt2 RSt2 := contQ r.size (finQ (doA r.size) i (restOf r i) (r.ans i)) o (r.q i) (r.x i) (r.v i) (r.seen i) (r.pc i)
def treeOf (r : RM) (i : Nat) : Tree RSt2 RSt2 :=
  if r.pc i = 0 then thrQ (doA r.size) i ((r.ops i).drop (r.at_ i)) (r.ans i) (toS r)
  else match (r.ops i)[r.at_ i]? with
    | some o => .yield (toS r) (contOf r i o)
    | none => .ret (toS r)
theorem high_succ (rn j : Nat) (q : Int) (s : RSt2) (k : Int → RSt2 → Tree RSt2 RSt2) : highT idL rn (j + 1) q s k = .yield s fun s1 => if (s1.1.1 (q % rn).toNat == 2 * (q / rn)) = true then highT idL rn j (q + 1) s1 k else k (q - 1) s1 := rfl
theorem fin_end {r r' : RM} {i : Nat} (a : Ans) (hans : r'.ans = r.ans) (h1 : r'.ops = r.ops) (h2 : r'.at_ i = r.at_ i) (h3 : r'.size = r.size) : finQ (doA r.size) i (restOf r i) (r.ans i) a (toS r') = treeOf (r'.end_ i a) i := by
  unfold finQ treeOf
  rw [if_pos (show (toS r').2 i = r.ans i by show r'.ans i = _; rw [hans]), if_pos (show (r'.end_ i a).pc i = 0 from Go.ConcN.upd_same _ _ _)]
  have e1 : (r'.end_ i a).at_ i = r.at_ i + 1 := by
    show Go.ConcN.upd r'.at_ i (r'.at_ i + 1) i = _
    rw [Go.ConcN.upd_same, h2]
  have e2 : (r'.end_ i a).ans i = r.ans i ++ [a] := by
    show Go.ConcN.upd r'.ans i (r'.ans i ++ [a]) i = _
    rw [Go.ConcN.upd_same, hans]
  have e3 : toS (r'.end_ i a) = pushQ i a (toS r') := by
    unfold toS pushQ
    refine Prod.ext rfl ?_
    funext j
    show Go.ConcN.upd r'.ans i (r'.ans i ++ [a]) j = if j = i then r'.ans j ++ [a] else r'.ans j
    by_cases e : j = i
    · subst e; rw [Go.ConcN.upd_same, if_pos rfl]
    · rw [Go.ConcN.upd_ne _ _ e, if_neg e]
  rw [e1, e2, e3]
  show _ = thrQ (doA r'.size) i (List.drop (r.at_ i + 1) (r'.ops i)) _ _
  rw [h3, h1]
  rfl
theorem tree_begin {r : RM} {i : Nat} {o : OpI} (hp : r.pc i = 0) (ho : (r.ops i)[r.at_ i]? = some o) (hok : o.Ok) : treeOf r i = treeOf (r.begin_ i o) i := by
  have hd : (r.ops i).drop (r.at_ i) = o :: restOf r i := by
    obtain ⟨hlt, he⟩ := List.getElem?_eq_some_iff.1 ho
    rw [List.drop_eq_getElem_cons hlt, he]; rfl
  have hE : ∀ a, finQ (doA r.size) i (restOf r i) (r.ans i) a (toS r) = treeOf ((r.enter i o.a).end_ i a) i := fun a => fin_end (r' := r.enter i o.a) a rfl rfl rfl rfl
  have hSt : treeOf ((r.enter i o.a).stand i 1) i = .yield (toS r) (contQ r.size (finQ (doA r.size) i (restOf r i) (r.ans i)) o o.a (r.x i) (r.v i) [] 1) := by
    unfold treeOf
    rw [if_neg (show ¬ ((r.enter i o.a).stand i 1).pc i = 0 by show ¬ Go.ConcN.upd r.pc i 1 i = 0; rw [Go.ConcN.upd_same]; omega)]
    show (match (r.ops i)[r.at_ i]? with | some o_1 => Tree.yield _ (contOf ((r.enter i o.a).stand i 1) i o_1) | none => _) = _
    rw [ho]
    show Tree.yield _ (contOf ((r.enter i o.a).stand i 1) i o) = _
    unfold contOf
    show Tree.yield (toS r) (contQ r.size (finQ (doA r.size) i (restOf r i) (r.ans i)) o (Go.ConcN.upd r.q i o.a i) (r.x i) (r.v i) (Go.ConcN.upd r.seen i [] i) (Go.ConcN.upd r.pc i 1 i)) = _
    rw [Go.ConcN.upd_same, Go.ConcN.upd_same, Go.ConcN.upd_same]
  have hL : treeOf r i = doA r.size o (toS r) (finQ (doA r.size) i (restOf r i) (r.ans i)) := by
    unfold treeOf
    rw [if_pos hp, hd]
    rfl
  rw [hL]
  by_cases h0 : r.size = 0
  · have e : r.begin_ i o = (r.enter i o.a).end_ i ⟨false, 0, []⟩ := by simp [RM.begin_, h0]
    rw [e, ← hE]
    unfold doA
    rw [if_pos h0]
    rfl
  have hgood : ∀ q, InB q ↔ GoodI q := fun q => Iff.rfl
  have hdo : doA r.size = doG r.size := if_neg h0
  generalize hF : finQ (doA r.size) i (restOf r i) (r.ans i) = F at hE hSt ⊢
  rw [hdo]
  unfold doG
  by_cases k1 : o.kind = 1
  · rw [if_pos k1]
    unfold putG
    by_cases g : GoodI o.a
    · rw [if_pos (show InB o.a from g), show r.begin_ i o = (r.enter i o.a).stand i 1 by simp [RM.begin_, h0, k1, g], hSt]
      unfold contQ putT
      rw [if_pos k1, if_pos rfl]
    · rw [if_neg (show ¬ InB o.a from g), show r.begin_ i o = (r.enter i o.a).end_ i ⟨false, 1, []⟩ by simp [RM.begin_, h0, k1, g], ← hE]
      rfl
  rw [if_neg k1]
  by_cases k2 : o.kind = 2
  · rw [if_pos k2]
    unfold getG
    by_cases g : GoodI o.a
    · rw [if_pos (show InB o.a from g), show r.begin_ i o = (r.enter i o.a).stand i 1 by simp [RM.begin_, h0, k2, g], hSt]
      unfold contQ getT getQ
      rw [if_neg k1, if_pos k2, if_pos rfl]
      rfl
    · rw [if_neg (show ¬ InB o.a from g), show r.begin_ i o = (r.enter i o.a).end_ i ⟨false, 1, []⟩ by simp [RM.begin_, h0, k2, g], ← hE]
      show F ⟨(1 : Int) == 0, wrap64 (1 + 0), []⟩ (toS r) = _
      rw [show wrap64 (1 + 0) = 1 from by unfold wrap64; omega]
      rfl
  rw [if_neg k2]
  by_cases k3 : o.kind = 3
  · rw [if_pos k3]
    unfold thereG
    by_cases g : GoodI o.a
    · rw [if_pos (show InB o.a from g), show r.begin_ i o = (r.enter i o.a).stand i 1 by simp [RM.begin_, h0, k3, g], hSt]
      unfold contQ thereT
      rw [if_neg k1, if_neg k2, if_pos k3]
      rfl
    · rw [if_neg (show ¬ InB o.a from g), show r.begin_ i o = (r.enter i o.a).end_ i ⟨false, 0, []⟩ by simp [RM.begin_, h0, k3, g], ← hE]
  rw [if_neg k3]
  by_cases k4 : o.kind = 4
  · rw [if_pos k4]
    unfold highG
    by_cases g : GoodI o.a ∧ o.a ≤ o.b
    · obtain ⟨g1, g2⟩ := g
      have g3 : ¬ o.b < o.a := by omega
      rw [if_pos (show InB o.a ∧ o.a ≤ o.b from ⟨g1, g2⟩), show r.begin_ i o = (r.enter i o.a).stand i 1 by simp [RM.begin_, h0, k4, g1, g3], hSt]
      obtain ⟨j, hj⟩ : ∃ j, highN r.size o.a o.b = j + 1 := ⟨highN r.size o.a o.b - 1, by
        have : 0 < highN r.size o.a o.b := by unfold highN; have := g1.2; omega
        omega⟩
      unfold contQ
      rw [if_neg k1, if_neg k2, if_neg k3, if_pos k4, hj]
      rw [high_succ, show j + 1 - (o.a - o.a).toNat - 1 = j from by omega]
    · have hb : ¬ GoodI o.a ∨ o.b < o.a := by
        by_cases g1 : GoodI o.a
        · right; have : ¬ o.a ≤ o.b := fun h => g ⟨g1, h⟩; omega
        · exact .inl g1
      rw [if_neg (show ¬ (InB o.a ∧ o.a ≤ o.b) from g), show r.begin_ i o = (r.enter i o.a).end_ i ⟨true, if -9223372036854775808 < o.a then o.a - 1 else o.a, []⟩ by simp [RM.begin_, h0, k4, hb], ← hE]
      have : pre64 o.a = if -9223372036854775808 < o.a then o.a - 1 else o.a := by
        unfold pre64
        have := hok.1
        by_cases e : o.a = -9223372036854775808
        · rw [if_pos e, if_neg (by omega)]
        · rw [if_neg e, if_pos (by omega)]
      rw [this]
  rw [if_neg k4]
  by_cases k5 : o.kind = 5
  · rw [if_pos k5]
    unfold gathG
    by_cases g : GoodI o.a
    · rw [if_pos (show InB o.a from g)]
      by_cases hb : o.b < 1
      · rw [show r.begin_ i o = (r.enter i o.a).end_ i ⟨true, 0, []⟩ by simp [RM.begin_, h0, k5, g, hb], ← hE, show min o.b.toNat r.size = 0 from by omega]
        rfl
      · rw [show r.begin_ i o = (r.enter i o.a).stand i 1 by simp [RM.begin_, h0, k5, g, hb], hSt]
        obtain ⟨j, hj⟩ : ∃ j, min o.b.toNat r.size = j + 1 := ⟨min o.b.toNat r.size - 1, by omega⟩
        unfold contQ getQ
        rw [if_neg k1, if_neg k2, if_neg k3, if_neg k4, if_pos rfl, hj]
        unfold gathT getT gathQ
        rw [if_neg (by have := g.2; omega), hj]
        rfl
    · rw [if_neg (show ¬ InB o.a from g), show r.begin_ i o = (r.enter i o.a).end_ i ⟨false, 1, []⟩ by simp [RM.begin_, h0, k5, g], ← hE]
      rfl
  rw [if_neg k5]
  by_cases kk : o.kind < 1 ∨ 5 < o.kind
  · rw [show r.begin_ i o = (r.enter i o.a).end_ i ⟨false, 0, []⟩ by simp [RM.begin_, kk], ← hE]
  · exfalso; omega
theorem tree_stand {r : RM} {i : Nat} {o : OpI} (hp : r.pc i ≠ 0) (ho : (r.ops i)[r.at_ i]? = some o) : treeOf r i = .yield (toS r) (contOf r i o) := by
  unfold treeOf
  rw [if_neg hp, ho]
theorem tree_settle {i : Nat} : ∀ (f : Nat) (r : RM), (∀ o ∈ r.ops i, o.Ok) → treeOf r i = treeOf (r.settle i f) i
  | 0, r, _ => rfl
  | f + 1, r, h => by
    unfold RM.settle
    split
    · rename_i hp
      split
      · rename_i o ho
        rw [tree_begin hp ho (h o (List.mem_of_getElem? ho))]
        exact tree_settle f _ (by rw [(RM.same_begin r i o).ops]; exact h)
      · rfl
    · rfl
theorem settled_done {i : Nat} : ∀ (m : Nat) (r : RM), (r.ops i).length - r.at_ i ≤ m → (r.settled i).pc i = 0 → (r.ops i).length ≤ (r.settled i).at_ i := by
  intro m
  induction m with
  | zero =>
    intro r hm hp
    by_cases h0 : r.pc i = 0
    · have hn : (r.ops i)[r.at_ i]? = none := List.getElem?_eq_none (by omega)
      rw [RM.settled_end hn]; omega
    · rw [RM.settled_pc h0] at hp; exact absurd hp h0
  | succ m ih =>
    intro r hm hp
    by_cases h0 : r.pc i = 0
    · cases ho : (r.ops i)[r.at_ i]? with
      | none => rw [RM.settled_end ho]; exact List.getElem?_eq_none_iff.1 ho
      | some o =>
        have hlt := (List.getElem?_eq_some_iff.1 ho).1
        rw [RM.settled_begin h0 ho] at hp ⊢
        rcases RM.begin_is r i o with ⟨a, e⟩ | ⟨e, _⟩
        · rw [e] at hp ⊢
          have e1 : ((r.enter i o.a).end_ i a).at_ i = r.at_ i + 1 := Go.ConcN.upd_same _ _ _
          exact ih ((r.enter i o.a).end_ i a) (by rw [e1]; show (r.ops i).length - _ ≤ m; omega) hp
        · rw [e] at hp
          have e1 : ((r.enter i o.a).stand i 1).pc i = 1 := Go.ConcN.upd_same _ _ _
          rw [RM.settled_pc (by rw [e1]; omega), e1] at hp
          omega
    · rw [RM.settled_pc h0] at hp; exact absurd hp h0
theorem get1 (m : RM) (i : Nat) : m.get i 1 = ({ m with x := Go.ConcN.upd m.x i (m.S (m.slot (m.q i))) }, 0, if m.S (m.slot (m.q i)) < 2 * m.lap (m.q i) then 6 else if 2 * m.lap (m.q i) < m.S (m.slot (m.q i)) then 10 else 0, decide (m.S (m.slot (m.q i)) < 2 * m.lap (m.q i)) || decide (2 * m.lap (m.q i) < m.S (m.slot (m.q i)))) := by simp [RM.get]
theorem get2 (m : RM) (i : Nat) : m.get i 2 = ({ m with v := Go.ConcN.upd m.v i (m.V (m.slot (m.q i))) }, 0, 0, false) := by simp [RM.get]
theorem get3 (m : RM) (i : Nat) : m.get i 3 = if m.S (m.slot (m.q i)) = m.x i then (m, m.v i, 0, true) else (m, 0, 10, true) := by simp [RM.get]
theorem getQ_1 (rn : Nat) (q x v : Int) (K : Int → Int → RSt2 → Tree RSt2 RSt2) : getQ rn q x v 1 K = fun s1 => if s1.1.1 (q % rn).toNat < 2 * (q / rn) then K 0 6 s1 else if 2 * (q / rn) < s1.1.1 (q % rn).toNat then K 0 10 s1 else
    .yield s1 fun s2 => .yield s2 fun s3 => if s3.1.1 (q % rn).toNat = s1.1.1 (q % rn).toNat then K (s2.1.2 (q % rn).toNat) 0 s3 else K 0 10 s3 := if_pos rfl
theorem getQ_2 (rn : Nat) (q x v : Int) (K : Int → Int → RSt2 → Tree RSt2 RSt2) : getQ rn q x v 2 K = fun s2 => .yield s2 fun s3 => if s3.1.1 (q % rn).toNat = x then K (s2.1.2 (q % rn).toNat) 0 s3 else K 0 10 s3 := by
  unfold getQ
  rw [if_neg (by omega), if_pos rfl]
theorem getQ_3 (rn : Nat) (q x v : Int) (K : Int → Int → RSt2 → Tree RSt2 RSt2) : getQ rn q x v 3 K = fun s3 => if s3.1.1 (q % rn).toNat = x then K v 0 s3 else K 0 10 s3 := by
  unfold getQ
  rw [if_neg (by omega), if_neg (by omega)]
theorem get_step {r : RM} {i p : Nat} (hp : p = 1 ∨ p = 2 ∨ p = 3) (K : Int → Int → RSt2 → Tree RSt2 RSt2) :
    (((r.stand i (p + 1)).get i p).2.2.2 = true ∧ getQ r.size (r.q i) (r.x i) (r.v i) p K (toS r) = K ((r.stand i (p + 1)).get i p).2.1 ((r.stand i (p + 1)).get i p).2.2.1 (toS r)) ∨
    (((r.stand i (p + 1)).get i p).2.2.2 = false ∧ (p = 1 ∨ p = 2) ∧ getQ r.size (r.q i) (r.x i) (r.v i) p K (toS r) = .yield (toS r) (getQ r.size (r.q i) (((r.stand i (p + 1)).get i p).1.x i) (((r.stand i (p + 1)).get i p).1.v i) (p + 1) K)) := by
  rcases hp with rfl | rfl | rfl
  · rw [get1]
    by_cases c1 : r.S (r.slot (r.q i)) < 2 * r.lap (r.q i)
    · left
      refine ⟨by show (decide (r.S (r.slot (r.q i)) < 2 * r.lap (r.q i)) || _) = true; simp [c1], ?_⟩
      rw [getQ_1]
      show (if r.S (r.slot (r.q i)) < 2 * r.lap (r.q i) then K 0 6 (toS r) else _) = K 0 (if r.S (r.slot (r.q i)) < 2 * r.lap (r.q i) then 6 else _) (toS r)
      rw [if_pos c1, if_pos c1]
    · by_cases c2 : 2 * r.lap (r.q i) < r.S (r.slot (r.q i))
      · left
        refine ⟨by show (decide (r.S (r.slot (r.q i)) < 2 * r.lap (r.q i)) || decide (2 * r.lap (r.q i) < r.S (r.slot (r.q i)))) = true; simp [c2], ?_⟩
        rw [getQ_1]
        show (if r.S (r.slot (r.q i)) < 2 * r.lap (r.q i) then K 0 6 (toS r) else if 2 * r.lap (r.q i) < r.S (r.slot (r.q i)) then K 0 10 (toS r) else _) = K 0 (if r.S (r.slot (r.q i)) < 2 * r.lap (r.q i) then 6 else if 2 * r.lap (r.q i) < r.S (r.slot (r.q i)) then 10 else 0) (toS r)
        rw [if_neg c1, if_neg c1, if_pos c2, if_pos c2]
      · right
        refine ⟨by show (decide (r.S (r.slot (r.q i)) < 2 * r.lap (r.q i)) || decide (2 * r.lap (r.q i) < r.S (r.slot (r.q i)))) = false; simp [c1, c2], .inl rfl, ?_⟩
        show getQ r.size (r.q i) (r.x i) (r.v i) 1 K (toS r) = Tree.yield (toS r) (getQ r.size (r.q i) (Go.ConcN.upd r.x i (r.S (r.slot (r.q i))) i) (r.v i) 2 K)
        rw [getQ_1, getQ_2, Go.ConcN.upd_same]
        show (if r.S (r.slot (r.q i)) < 2 * r.lap (r.q i) then K 0 6 (toS r) else if 2 * r.lap (r.q i) < r.S (r.slot (r.q i)) then K 0 10 (toS r) else _) = _
        rw [if_neg c1, if_neg c2]
        rfl
  · right
    rw [get2]
    refine ⟨rfl, .inr rfl, ?_⟩
    show getQ r.size (r.q i) (r.x i) (r.v i) 2 K (toS r) = Tree.yield (toS r) (getQ r.size (r.q i) (r.x i) (Go.ConcN.upd r.v i (r.V (r.slot (r.q i))) i) 3 K)
    rw [getQ_2, getQ_3, Go.ConcN.upd_same]
    rfl
  · left
    rw [get3, getQ_3]
    by_cases c : r.S (r.slot (r.q i)) = r.x i
    · rw [if_pos (show (r.stand i (3 + 1)).S ((r.stand i (3 + 1)).slot ((r.stand i (3 + 1)).q i)) = (r.stand i (3 + 1)).x i from c)]
      refine ⟨rfl, ?_⟩
      show (if r.S (r.slot (r.q i)) = r.x i then K (r.v i) 0 (toS r) else _) = K (r.v i) 0 (toS r)
      rw [if_pos c]
    · rw [if_neg (show ¬ (r.stand i (3 + 1)).S ((r.stand i (3 + 1)).slot ((r.stand i (3 + 1)).q i)) = (r.stand i (3 + 1)).x i from c)]
      refine ⟨rfl, ?_⟩
      show (if r.S (r.slot (r.q i)) = r.x i then _ else K 0 10 (toS r)) = K 0 10 (toS r)
      rw [if_neg c]
end Go.Proofs.Yteainbnoemkfcaa
namespace Go.Proofs.Yteainbnoemkfcaa
open Go.RowKit Go.Turn Go.Tame Go.Conc
structure SameOp (i : Nat) (r r' : RM) : Prop where
  ans : r'.ans = r.ans
  ops : r'.ops = r.ops
  at_ : r'.at_ i = r.at_ i
  size : r'.size = r.size
theorem end_same {r r' : RM} {i : Nat} (h : SameOp i r r') (a : Ans) : finQ (doA r.size) i (restOf r i) (r.ans i) a (toS r') = treeOf (r'.end_ i a) i := fin_end a h.ans h.ops h.at_ h.size
theorem stand_same {r r' : RM} {i : Nat} {o : OpI} (h : SameOp i r r') (ho : (r.ops i)[r.at_ i]? = some o) (hp : r'.pc i ≠ 0) :
    treeOf r' i = .yield (toS r') (contQ r.size (finQ (doA r.size) i (restOf r i) (r.ans i)) o (r'.q i) (r'.x i) (r'.v i) (r'.seen i) (r'.pc i)) := by
  rw [tree_stand hp (by rw [h.ops, h.at_]; exact ho)]
  unfold contOf restOf
  rw [h.size, h.ops, h.at_, h.ans]
theorem gath_step {r r' : RM} {i : Nat} {o : OpI} (h : SameOp i r r') (ho : (r.ops i)[r.at_ i]? = some o) (k5 : o.kind = 5) (hq : r'.q i = r.q i) (hse : r'.seen i = r.seen i) (g : GoodI (r.q i)) (hb : (r.seen i).length < o.b.toNat) (hs : (r.seen i).length < r.size) (v e : Int) :
    gathQ r.size o (r.q i) (r.seen i) (finQ (doA r.size) i (restOf r i) (r.ans i)) v e (toS r') = treeOf (r'.gathered i o v e) i := by
  unfold gathQ RM.gathered
  by_cases he : e = 0
  · subst he
    rw [if_pos rfl, if_neg (fun z => z.1 rfl), if_pos rfl]
    dsimp only
    have e1 : (r'.see i v).seen i = r.seen i ++ [v] := by
      show Go.ConcN.upd r'.seen i (r'.seen i ++ [v]) i = _
      rw [Go.ConcN.upd_same, hse]
    have hsz : (r'.see i v).size = r.size := h.size
    by_cases c : ((r.seen i).length : Int) + 1 = o.b ∨ (r.seen i).length + 1 = r.size
    · rw [if_pos (show (0 : Int) ≠ 0 ∨ (((r'.see i v).seen i).length : Int) = o.b ∨ ((r'.see i v).seen i).length = (r'.see i v).size by
        rw [e1, hsz, List.length_append]
        rcases c with c | c
        · right; left; simp; exact c
        · right; right; simp; exact c)]
      rw [show min o.b.toNat r.size - (r.seen i).length - 1 = 0 from by omega]
      show finQ (doA r.size) i (restOf r i) (r.ans i) ⟨(0 : Int) == 0, 0, r.seen i ++ [v]⟩ (toS r') = _
      rw [e1]
      exact end_same (r' := r'.see i v) ⟨h.ans, h.ops, h.at_, h.size⟩ ⟨true, 0, r.seen i ++ [v]⟩
    · rw [if_neg (show ¬ ((0 : Int) ≠ 0 ∨ (((r'.see i v).seen i).length : Int) = o.b ∨ ((r'.see i v).seen i).length = (r'.see i v).size) by
        rw [e1, hsz, List.length_append]
        rintro (z | z | z)
        · exact z rfl
        · exact c (.inl (by simpa using z))
        · exact c (.inr (by simpa using z)))]
      obtain ⟨j, hj⟩ : ∃ j, min o.b.toNat r.size - (r.seen i).length - 1 = j + 1 := ⟨min o.b.toNat r.size - (r.seen i).length - 2, by omega⟩
      have e2 : Go.ConcN.upd (r'.see i v).q i ((r'.see i v).q i + 1) i = r.q i + 1 := by rw [Go.ConcN.upd_same]; show r'.q i + 1 = _; rw [hq]
      rw [hj]
      unfold gathT
      have hso : SameOp i r { r'.see i v with q := Go.ConcN.upd (r'.see i v).q i ((r'.see i v).q i + 1), pc := Go.ConcN.upd (r'.see i v).pc i 1 } := ⟨h.ans, h.ops, h.at_, h.size⟩
      by_cases cg : GoodI (r.q i + 1)
      · rw [if_neg (show ¬ 4611686018427387904 ≤ r.q i + 1 by have := cg.2; omega), if_pos (show GoodI (Go.ConcN.upd (r'.see i v).q i ((r'.see i v).q i + 1) i) by rw [e2]; exact cg)]
        rw [stand_same hso ho (show Go.ConcN.upd (r'.see i v).pc i 1 i ≠ 0 by rw [Go.ConcN.upd_same]; omega)]
        show _ = Tree.yield (toS r') (contQ r.size (finQ (doA r.size) i (restOf r i) (r.ans i)) o (Go.ConcN.upd (r'.see i v).q i ((r'.see i v).q i + 1) i) (r'.x i) (r'.v i) ((r'.see i v).seen i) (Go.ConcN.upd (r'.see i v).pc i 1 i))
        rw [e2, e1, Go.ConcN.upd_same]
        unfold contQ
        rw [if_neg (by omega), if_neg (by omega), if_neg (by omega), if_neg (by omega), getQ_1]
        unfold getT gathQ
        rw [show min o.b.toNat r.size - (r.seen i ++ [v]).length - 1 = j from by simp; omega]
        rfl
      · rw [if_pos (show 4611686018427387904 ≤ r.q i + 1 by
          have h0 := g.1
          rcases Int.lt_or_le (r.q i + 1) 4611686018427387904 with h1 | h1
          · exact absurd ⟨by omega, h1⟩ cg
          · exact h1), if_neg (show ¬ GoodI (Go.ConcN.upd (r'.see i v).q i ((r'.see i v).q i + 1) i) by rw [e2]; exact cg)]
        show finQ (doA r.size) i (restOf r i) (r.ans i) ⟨(0 : Int) == 0, 0, r.seen i ++ [v]⟩ (toS r') = treeOf (RM.end_ _ i ⟨true, 0, (r'.see i v).seen i⟩) i
        rw [e1]
        exact end_same hso ⟨true, 0, r.seen i ++ [v]⟩
  · rw [if_neg he]
    by_cases hn : r.seen i = []
    · rw [if_pos hn, if_pos (show e ≠ 0 ∧ r'.seen i = [] from ⟨he, by rw [hse]; exact hn⟩), show (e == 0) = false from by simpa using he]
      exact end_same h _
    · rw [if_neg hn, if_neg (show ¬ (e ≠ 0 ∧ r'.seen i = []) from fun z => hn (by rw [← hse]; exact z.2)), if_neg he]
      dsimp only
      rw [if_pos (.inl he), hse]
      exact end_same h ⟨true, 0, r.seen i⟩
theorem tree_step {r : RM} {i : Nat} {o : OpI} (hok : r.Ok) (hi : i < r.n) (hpc : r.pc i ≠ 0) (ho : (r.ops i)[r.at_ i]? = some o) (hvv : R64 (r.v i))
    (h4 : o.kind = 4 → o.a ≤ r.q i ∧ r.q i ≤ min (min o.b (o.a + r.size - 1)) 4611686018427387903) (h5 : o.kind = 5 → (r.seen i).length < o.b.toNat) : contOf r i o (toS r) = treeOf (r.step i o) i := by
  obtain ⟨o', ho', ga, hk1, hk5, h0, g, hp3, hsl⟩ := hok.live i hi hpc
  obtain rfl : o' = o := by rw [ho] at ho'; cases ho'; rfl
  have hm0 : SameOp i r (r.stand i (r.pc i + 1)) := ⟨rfl, rfl, rfl, rfl⟩
  have hp : r.pc i = 1 ∨ r.pc i = 2 ∨ r.pc i = 3 := by omega
  have hpn : (r.stand i (r.pc i + 1)).pc i = r.pc i + 1 := Go.ConcN.upd_same _ _ _
  unfold contOf contQ RM.step
  dsimp only
  by_cases k1 : o'.kind = 1
  · rw [if_pos k1, if_pos k1]
    rcases hp with hp | hp | hp
    · rw [if_pos hp, if_pos hp]
      rw [stand_same (r' := { r.stand i (r.pc i + 1) with S := Go.ConcN.upd (r.stand i (r.pc i + 1)).S (r.slot (r.q i)) (2 * r.lap (r.q i) - 1) }) ⟨rfl, rfl, rfl, rfl⟩ ho (show (r.stand i (r.pc i + 1)).pc i ≠ 0 by rw [hpn]; omega)]
      show _ = Tree.yield _ (contQ r.size _ o' (r.q i) (r.x i) (r.v i) (r.seen i) ((r.stand i (r.pc i + 1)).pc i))
      rw [hpn, hp]
      unfold contQ
      rw [if_pos k1, if_neg (by omega), if_pos rfl]
      rfl
    · rw [if_neg (show ¬ r.pc i = 1 by omega), if_neg (show ¬ r.pc i = 1 by omega), if_pos hp, if_pos hp]
      rw [stand_same (r' := { r.stand i (r.pc i + 1) with V := Go.ConcN.upd (r.stand i (r.pc i + 1)).V (r.slot (r.q i)) o'.b }) ⟨rfl, rfl, rfl, rfl⟩ ho (show (r.stand i (r.pc i + 1)).pc i ≠ 0 by rw [hpn]; omega)]
      show _ = Tree.yield _ (contQ r.size _ o' (r.q i) (r.x i) (r.v i) (r.seen i) ((r.stand i (r.pc i + 1)).pc i))
      rw [hpn, hp]
      unfold contQ
      rw [if_pos k1, if_neg (by omega), if_neg (by omega)]
      rfl
    · rw [if_neg (show ¬ r.pc i = 1 by omega), if_neg (show ¬ r.pc i = 1 by omega), if_neg (show ¬ r.pc i = 2 by omega), if_neg (show ¬ r.pc i = 2 by omega), if_pos hp]
      exact end_same (r' := { r.stand i (r.pc i + 1) with S := Go.ConcN.upd (r.stand i (r.pc i + 1)).S (r.slot (r.q i)) (2 * r.lap (r.q i)) }) ⟨rfl, rfl, rfl, rfl⟩ ⟨true, 0, []⟩
  rw [if_neg k1, if_neg k1]
  have hgs := get_same (r.stand i (r.pc i + 1)) i (r.pc i)
  obtain ⟨g1, g2, g3, g4, g5, g6, g7, g8, g9, g10⟩ := hgs
  have hgo : SameOp i r ((r.stand i (r.pc i + 1)).get i (r.pc i)).1 := ⟨g3, g10, by rw [g2]; rfl, g5⟩
  have hgt : toS ((r.stand i (r.pc i + 1)).get i (r.pc i)).1 = toS r := by unfold toS; rw [g8, g9, g3]; rfl
  have hgp : ((r.stand i (r.pc i + 1)).get i (r.pc i)).1.pc i = r.pc i + 1 := by rw [g4]; exact hpn
  have hgq : ((r.stand i (r.pc i + 1)).get i (r.pc i)).1.q i = r.q i := by rw [g7]; rfl
  have hge : ((r.stand i (r.pc i + 1)).get i (r.pc i)).1.seen i = r.seen i := by rw [g6]; rfl
  clear g1 g2 g3 g4 g5 g6 g7 g8 g9 g10
  by_cases k2 : o'.kind = 2
  · rw [if_pos k2, if_pos k2]
    rcases get_step (r := r) (i := i) hp (fun v e st => finQ (doA r.size) i (restOf r i) (r.ans i) ⟨e == 0, wrap64 (e + v), []⟩ st) with ⟨c, e⟩ | ⟨c, hp2, e⟩
    · rw [e, if_pos c]
      have hr3 : ((r.stand i (r.pc i + 1)).get i (r.pc i)).2.2.1 = 0 → ((r.stand i (r.pc i + 1)).get i (r.pc i)).2.1 = r.v i ∨ ((r.stand i (r.pc i + 1)).get i (r.pc i)).2.1 = 0 := fun _ => by
        rcases hp with hp | hp | hp
        · right; rw [hp, get1]
        · right; rw [hp, get2]
        · rw [hp, get3]; split
          · left; rfl
          · right; rfl
      have he9 : ((r.stand i (r.pc i + 1)).get i (r.pc i)).2.2.1 ≠ 0 → ((r.stand i (r.pc i + 1)).get i (r.pc i)).2.1 = 0 ∧ 0 ≤ ((r.stand i (r.pc i + 1)).get i (r.pc i)).2.2.1 ∧ ((r.stand i (r.pc i + 1)).get i (r.pc i)).2.2.1 ≤ 10 := fun hne => by
        rcases hp with hp | hp | hp
        · rw [hp, get1]; refine ⟨rfl, ?_, ?_⟩ <;> (dsimp only; split; omega; split <;> omega)
        · rw [hp, get2]; exact ⟨rfl, by dsimp only; omega, by dsimp only; omega⟩
        · rw [hp, get3] at hne ⊢
          by_cases z2 : (r.stand i (3 + 1)).S ((r.stand i (3 + 1)).slot ((r.stand i (3 + 1)).q i)) = (r.stand i (3 + 1)).x i
          · rw [if_pos z2] at hne; exact absurd rfl hne
          · rw [if_neg z2]; exact ⟨rfl, by dsimp only; omega, by dsimp only; omega⟩
      rw [← hgt]
      generalize (r.stand i (r.pc i + 1)).get i (r.pc i) = rr at *
      by_cases ce : rr.2.2.1 = 0
      · rw [if_pos ce, ce]
        have hw : wrap64 (0 + rr.2.1) = rr.2.1 := by
          rcases hr3 ce with z | z
          · rw [z]; exact wrap_r64 hvv
          · rw [z]; unfold wrap64; omega
        show finQ _ i _ _ ⟨(0 : Int) == 0, wrap64 (0 + rr.2.1), []⟩ _ = _
        rw [hw]
        exact end_same hgo _
      · rw [if_neg ce]
        obtain ⟨z1, z2, z3⟩ := he9 ce
        rw [show (rr.2.2.1 == 0) = false from by simpa using ce, z1, show wrap64 (rr.2.2.1 + 0) = rr.2.2.1 from by unfold wrap64; omega]
        exact end_same hgo _
    · rw [e, if_neg (by rw [c]; simp)]
      rw [stand_same hgo ho (by rw [hgp]; omega), hgt, hgp, hgq, hge]
      unfold contQ
      rw [if_neg k1, if_pos k2]
  rw [if_neg k2, if_neg k2]
  by_cases k5 : o'.kind = 5
  · rw [if_neg (by omega), if_neg (by omega), if_pos k5]
    rcases get_step (r := r) (i := i) hp (gathQ r.size o' (r.q i) (r.seen i) (finQ (doA r.size) i (restOf r i) (r.ans i))) with ⟨c, e⟩ | ⟨c, hp2, e⟩
    · rw [e, if_pos c, ← hgt]
      exact gath_step hgo ho k5 hgq hge g (h5 k5) hsl _ _
    · rw [e, if_neg (by rw [c]; simp)]
      rw [stand_same hgo ho (by rw [hgp]; omega), hgt, hgp, hgq, hge]
      unfold contQ
      rw [if_neg k1, if_neg k2, if_neg (by omega), if_neg (by omega)]
  rw [if_neg k5]
  by_cases k3 : o'.kind = 3
  · rw [if_pos k3, if_pos k3]
    exact end_same hm0 _
  rw [if_neg k3, if_neg k3]
  have k4 : o'.kind = 4 := by omega
  obtain ⟨q1, q2⟩ := h4 k4
  rw [if_pos k4, if_pos k4]
  have hso : SameOp i r ((r.stand i (r.pc i + 1)).stand i 1) := ⟨rfl, rfl, rfl, rfl⟩
  show (if (r.S (r.slot (r.q i)) == 2 * r.lap (r.q i)) = true then _ else _) = treeOf (if r.S (r.slot (r.q i)) ≠ 2 * r.lap (r.q i) then _ else _) i
  by_cases c1 : r.S (r.slot (r.q i)) = 2 * r.lap (r.q i)
  · rw [if_pos (by simpa using c1), if_neg (by simpa using c1)]
    have hso2 : SameOp i r { (r.stand i (r.pc i + 1)).stand i 1 with q := Go.ConcN.upd ((r.stand i (r.pc i + 1)).stand i 1).q i (r.q i + 1) } := ⟨rfl, rfl, rfl, rfl⟩
    by_cases c2 : r.q i = o'.b ∨ ¬ GoodI (r.q i + 1) ∨ o'.a + r.size ≤ r.q i + 1
    · rw [if_pos (show r.q i = o'.b ∨ ¬ GoodI (r.q i + 1) ∨ o'.a + ((r.stand i (r.pc i + 1)).stand i 1).size ≤ r.q i + 1 from c2)]
      have hz : highN r.size o'.a o'.b - (r.q i - o'.a).toNat - 1 = 0 := by
        unfold highN
        have hg0 := g.1
        rcases c2 with c2 | c2 | c2
        · omega
        · have : ¬ r.q i + 1 < 4611686018427387904 := fun z => c2 ⟨by omega, z⟩
          omega
        · omega
      rw [hz]
      show finQ _ i _ _ ⟨true, r.q i + 1 - 1, []⟩ (toS r) = _
      rw [show r.q i + 1 - 1 = r.q i from by omega]
      exact end_same hso2 ⟨true, r.q i, []⟩
    · rw [if_neg (show ¬ (r.q i = o'.b ∨ ¬ GoodI (r.q i + 1) ∨ o'.a + ((r.stand i (r.pc i + 1)).stand i 1).size ≤ r.q i + 1) from c2)]
      have cg : GoodI (r.q i + 1) := Classical.byContradiction fun z => c2 (.inr (.inl z))
      have cb : r.q i ≠ o'.b := fun z => c2 (.inl z)
      have cs : ¬ o'.a + r.size ≤ r.q i + 1 := fun z => c2 (.inr (.inr z))
      obtain ⟨j, hj⟩ : ∃ j, highN r.size o'.a o'.b - (r.q i - o'.a).toNat - 1 = j + 1 := ⟨highN r.size o'.a o'.b - (r.q i - o'.a).toNat - 2, by
        unfold highN
        have := cg.2
        omega⟩
      rw [hj, high_succ]
      rw [stand_same hso2 ho (show ((r.stand i (r.pc i + 1)).stand i 1).pc i ≠ 0 by show Go.ConcN.upd _ i 1 i ≠ 0; rw [Go.ConcN.upd_same]; omega)]
      show _ = Tree.yield (toS r) (contQ r.size _ o' (Go.ConcN.upd r.q i (r.q i + 1) i) (r.x i) (r.v i) (r.seen i) _)
      rw [Go.ConcN.upd_same]
      unfold contQ
      rw [if_neg k1, if_neg k2, if_neg k3, if_pos k4, show highN r.size o'.a o'.b - (r.q i + 1 - o'.a).toNat - 1 = j from by omega]
  · rw [if_neg (by simpa using c1), if_pos c1]
    exact end_same hso ⟨true, r.q i - 1, []⟩
end Go.Proofs.Yteainbnoemkfcaa
namespace Go.Proofs.Yteainbnoemkfcaa
open Go.RowKit Go.Turn Go.Tame Go.Conc
namespace RM
structure Ok2 (m : RM) : Prop where
  vr : ∀ k, R64 (m.V k)
  vv : ∀ i, R64 (m.v i)
  br : ∀ i, i < m.n → ∀ o ∈ m.ops i, R64 o.b
  lv : ∀ i, i < m.n → m.pc i ≠ 0 → ∀ o, (m.ops i)[m.at_ i]? = some o → (o.kind = 4 → o.a ≤ m.q i ∧ m.q i ≤ min (min o.b (o.a + m.size - 1)) 4611686018427387903) ∧ (o.kind = 5 → (m.seen i).length < o.b.toNat)
theorem Ok2.turn {m m' : RM} {i : Nat} (h : m.Ok2) (hs : Same i m m') (hV : ∀ k, R64 (m'.V k)) (hv : ∀ j, R64 (m'.v j))
    (hl : m'.pc i ≠ 0 → ∀ o, (m.ops i)[m'.at_ i]? = some o → (o.kind = 4 → o.a ≤ m'.q i ∧ m'.q i ≤ min (min o.b (o.a + m.size - 1)) 4611686018427387903) ∧ (o.kind = 5 → (m'.seen i).length < o.b.toNat)) : m'.Ok2 where
  vr := hV
  vv := hv
  br j hj := by rw [hs.ops]; exact h.br j (hs.n ▸ hj)
  lv j hj hp o ho := by
    rw [hs.ops] at ho
    rw [hs.size]
    by_cases e : j = i
    · subst e; exact hl hp o ho
    · obtain ⟨e1, e2, e3, e4, e5⟩ := hs.o j e
      rw [e4, e5]
      rw [e3] at hp
      rw [e1] at ho
      exact h.lv j (hs.n ▸ hj) hp o ho
theorem Ok2.ended {m m' : RM} {i : Nat} (h : m.Ok2) (hs : Same i m m') (hV : m'.V = m.V) (hv : ∀ j, R64 (m'.v j)) (a : Ans) : (m'.end_ i a).Ok2 :=
  h.turn (hs.trans (same_end _ _ _)) (by show ∀ k, R64 (m'.V k); rw [hV]; exact h.vr) hv fun hp => absurd (show Go.ConcN.upd m'.pc i 0 i = 0 from Go.ConcN.upd_same _ _ _) hp
theorem begin_is2 (m : RM) (i : Nat) (o : OpI) : (∃ a, m.begin_ i o = (m.enter i o.a).end_ i a) ∨ (m.begin_ i o = (m.enter i o.a).stand i 1 ∧ GoodI o.a ∧ 0 < m.size ∧ (o.kind = 4 → o.a ≤ o.b) ∧ (o.kind = 5 → 1 ≤ o.b)) := by
  unfold RM.begin_
  by_cases c1 : m.size = 0 ∨ o.kind < 1 ∨ 5 < o.kind
  · rw [if_pos c1]; exact .inl ⟨_, rfl⟩
  rw [if_neg c1]
  by_cases c2 : o.kind = 4 ∧ (¬ GoodI o.a ∨ o.b < o.a)
  · rw [if_pos c2]; exact .inl ⟨_, rfl⟩
  rw [if_neg c2]
  by_cases c3 : o.kind = 4
  · rw [if_pos c3]
    have hg : GoodI o.a := Classical.byContradiction fun hg => c2 ⟨c3, .inl hg⟩
    have hl : ¬ o.b < o.a := fun hl => c2 ⟨c3, .inr hl⟩
    exact .inr ⟨rfl, hg, by omega, fun _ => by omega, fun h => by omega⟩
  rw [if_neg c3]
  by_cases c4 : ¬ GoodI o.a ∧ o.kind = 3
  · rw [if_pos c4]; exact .inl ⟨_, rfl⟩
  rw [if_neg c4]
  by_cases c5 : ¬ GoodI o.a
  · rw [if_pos c5]; exact .inl ⟨_, rfl⟩
  rw [if_neg c5]
  by_cases c6 : o.kind = 5 ∧ o.b < 1
  · rw [if_pos c6]; exact .inl ⟨_, rfl⟩
  rw [if_neg c6]
  exact .inr ⟨rfl, Classical.not_not.1 c5, by omega, fun h => absurd h c3, fun h => by
    have : ¬ o.b < 1 := fun z => c6 ⟨h, z⟩
    omega⟩
theorem Ok2.begin {m : RM} {i : Nat} {o : OpI} (h : m.Ok2) (ho : (m.ops i)[m.at_ i]? = some o) : (m.begin_ i o).Ok2 := by
  rcases begin_is2 m i o with ⟨a, e⟩ | ⟨e, hg, h0, k4, k5⟩
  · rw [e]; exact h.ended (same_enter _ _ _) rfl h.vv a
  · rw [e]
    refine h.turn ((same_enter _ _ _).trans (same_stand _ _ _)) h.vr h.vv fun _ o' ho' => ?_
    have : o' = o := by
      have : (m.ops i)[m.at_ i]? = some o' := ho'
      rw [ho] at this; cases this; rfl
    subst this
    refine ⟨fun k => ?_, fun k => ?_⟩
    · show o'.a ≤ Go.ConcN.upd m.q i o'.a i ∧ Go.ConcN.upd m.q i o'.a i ≤ _
      rw [Go.ConcN.upd_same]
      have := k4 k
      have := hg.2
      omega
    · show (Go.ConcN.upd m.seen i [] i).length < _
      rw [Go.ConcN.upd_same]
      have := k5 k
      simp; omega
theorem Ok2.settle {i : Nat} : ∀ (f : Nat) {m : RM}, m.Ok2 → (m.settle i f).Ok2
  | 0, m, h => h
  | f + 1, m, h => by
    unfold RM.settle
    split
    · split
      · rename_i o ho
        exact Ok2.settle f (h.begin ho)
      · exact h
    · exact h
theorem get_V (m : RM) (i p : Nat) : (m.get i p).1.V = m.V := (get_same m i p).2.2.2.2.2.2.2.2.1
theorem get_vv {m : RM} (h : ∀ k, R64 (m.V k)) (hv : ∀ j, R64 (m.v j)) (i p : Nat) : ∀ j, R64 ((m.get i p).1.v j) := by
  intro j
  unfold RM.get
  dsimp only
  split
  · exact hv j
  · split
    · show R64 (Go.ConcN.upd m.v i _ j)
      by_cases e : j = i
      · subst e; rw [Go.ConcN.upd_same]; exact h _
      · rw [Go.ConcN.upd_ne _ _ e]; exact hv j
    · split <;> exact hv j
theorem Ok2.gathered {m m' : RM} {i : Nat} {o : OpI} (h : m.Ok2) (hs : Same i m m') (hV : m'.V = m.V) (hv : ∀ j, R64 (m'.v j)) (hat : m'.at_ i = m.at_ i) (ho : (m.ops i)[m.at_ i]? = some o) (k5 : o.kind = 5) (hb : (m'.seen i).length < o.b.toNat) (v e : Int) : (m'.gathered i o v e).Ok2 := by
  unfold RM.gathered
  split
  · exact h.ended hs hV hv _
  · have hs1 : Same i m (if e = 0 then m'.see i v else m') := by split; exact hs.trans (same_see _ _ _); exact hs
    have hV1 : (if e = 0 then m'.see i v else m').V = m.V := by split <;> exact hV
    have hv1 : ∀ j, R64 ((if e = 0 then m'.see i v else m').v j) := by split <;> exact hv
    have hat1 : (if e = 0 then m'.see i v else m').at_ i = m.at_ i := by split <;> exact hat
    have hl1 : ((if e = 0 then m'.see i v else m').seen i).length ≤ (m'.seen i).length + 1 := by
      split
      · show (Go.ConcN.upd m'.seen i (m'.seen i ++ [v]) i).length ≤ _
        rw [Go.ConcN.upd_same]; simp
      · omega
    generalize (if e = 0 then m'.see i v else m') = m1 at hs1 hV1 hv1 hat1 hl1 ⊢
    dsimp only
    split
    · exact h.ended hs1 hV1 hv1 _
    · rename_i c1
      have h2' : Same i m1 { m1 with q := Go.ConcN.upd m1.q i (m1.q i + 1), pc := Go.ConcN.upd m1.pc i 1 } := ⟨rfl, rfl, rfl, rfl, fun j hj => by simp [Go.ConcN.upd_ne _ _ hj]⟩
      split
      · refine h.turn (hs1.trans h2') (by show ∀ k, R64 (m1.V k); rw [hV1]; exact h.vr) hv1 fun _ o' ho' => ?_
        have : o' = o := by
          have z : (m.ops i)[m1.at_ i]? = some o' := ho'
          rw [hat1, ho] at z; cases z; rfl
        subst this
        refine ⟨fun k => by omega, fun _ => ?_⟩
        show (m1.seen i).length < _
        have : ((m1.seen i).length : Int) ≠ o'.b := fun z => c1 (.inr (.inl z))
        omega
      · exact h.ended (hs1.trans h2') hV1 hv1 _
theorem Ok2.step {m : RM} {i : Nat} {o : OpI} (h : m.Ok2) (hok : m.Ok) (hi : i < m.n) (hpc : m.pc i ≠ 0) (ho : (m.ops i)[m.at_ i]? = some o) : (m.step i o).Ok2 := by
  obtain ⟨o', ho', ga, k1, k5, h0, gq, hp3, hsl⟩ := hok.live i hi hpc
  obtain rfl : o' = o := by rw [ho] at ho'; cases ho'; rfl
  obtain ⟨l4, l5⟩ := h.lv i hi hpc o' ho
  have hbr := h.br i hi o' (List.mem_of_getElem? ho)
  have hs := same_stand m i (m.pc i + 1)
  have sameO : ∀ o2, (m.ops i)[m.at_ i]? = some o2 → o2 = o' := fun o2 z => by rw [ho] at z; cases z; rfl
  have hgo : ∀ m' : RM, Same i m m' → m'.at_ i = m.at_ i → m'.q i = m.q i → m'.seen i = m.seen i → (∀ k, R64 (m'.V k)) → (∀ j, R64 (m'.v j)) → m'.Ok2 := fun m' hs e1 e2 e3 hV hv => by
    refine h.turn hs hV hv fun _ o2 ho2 => ?_
    rw [e1] at ho2
    rw [sameO o2 ho2, e2, e3]
    exact ⟨l4, l5⟩
  have hgv := get_vv (m := m.stand i (m.pc i + 1)) h.vr h.vv i (m.pc i)
  have hgV : ((m.stand i (m.pc i + 1)).get i (m.pc i)).1.V = m.V := get_V _ _ _
  have hsg := hs.trans (same_get (m.stand i (m.pc i + 1)) i (m.pc i))
  obtain ⟨e1, e2, e3, e4, e5, e6, e7, -, -, -⟩ := get_same (m.stand i (m.pc i + 1)) i (m.pc i)
  have hgg : ((m.stand i (m.pc i + 1)).get i (m.pc i)).1.Ok2 := hgo _ hsg (by rw [e2]; rfl) (by rw [e7]; rfl) (by rw [e6]; rfl) (by rw [hgV]; exact h.vr) hgv
  unfold RM.step
  dsimp only
  split
  · split
    · exact hgo _ ⟨rfl, rfl, rfl, rfl, hs.o⟩ rfl rfl rfl h.vr h.vv
    · split
      · refine hgo _ ⟨rfl, rfl, rfl, rfl, hs.o⟩ rfl rfl rfl (fun k => ?_) h.vv
        show R64 (Go.ConcN.upd m.V _ o'.b k)
        by_cases e : k = (m.slot (m.q i))
        · subst e; rw [Go.ConcN.upd_same]; exact hbr
        · rw [Go.ConcN.upd_ne _ _ e]; exact h.vr k
      · split
        · refine h.ended (m' := { m.stand i (m.pc i + 1) with S := Go.ConcN.upd (m.stand i (m.pc i + 1)).S (m.slot (m.q i)) (2 * m.lap (m.q i)) }) ⟨rfl, rfl, rfl, rfl, hs.o⟩ rfl h.vv _
        · exact hgo _ hs rfl rfl rfl h.vr h.vv
  · split
    · split
      · split
        · exact h.ended hsg hgV hgv _
        · exact h.ended hsg hgV hgv _
      · exact hgg
    · split
      · rename_i _ _ k5'
        split
        · exact h.gathered hsg hgV hgv (by rw [e2]; rfl) ho k5' (by rw [e6]; exact l5 k5') _ _
        · exact hgg
      · split
        · exact h.ended hs rfl h.vv _
        · split
          · rename_i k4
            have hs1 := hs.trans (same_stand (m.stand i (m.pc i + 1)) i 1)
            split
            · exact h.ended hs1 rfl h.vv _
            · have h2 : Same i ((m.stand i (m.pc i + 1)).stand i 1) { (m.stand i (m.pc i + 1)).stand i 1 with q := Go.ConcN.upd ((m.stand i (m.pc i + 1)).stand i 1).q i (m.q i + 1) } := ⟨rfl, rfl, rfl, rfl, fun j hj => by simp [Go.ConcN.upd_ne _ _ hj]⟩
              split
              · exact h.ended (hs1.trans h2) rfl h.vv _
              · rename_i hc
                refine h.turn (hs1.trans h2) h.vr h.vv fun _ o2 ho2 => ?_
                have : o2 = o' := sameO o2 ho2
                subst this
                refine ⟨fun _ => ?_, fun z => by omega⟩
                show o2.a ≤ Go.ConcN.upd m.q i (m.q i + 1) i ∧ Go.ConcN.upd m.q i (m.q i + 1) i ≤ _
                rw [Go.ConcN.upd_same]
                obtain ⟨q1, q2⟩ := l4 k4
                have cb : m.q i ≠ o2.b := fun z => hc (.inl z)
                have cg : GoodI (m.q i + 1) := Classical.byContradiction fun z => hc (.inr (.inl z))
                have cs : ¬ o2.a + (m.size : Int) ≤ m.q i + 1 := fun z => hc (.inr (.inr z))
                have := cg.2
                omega
          · exact hgo _ hs rfl rfl rfl h.vr h.vv
theorem begin_xv (m : RM) (i : Nat) (o : OpI) : (m.begin_ i o).x = m.x ∧ (m.begin_ i o).v = m.v := by
  rcases begin_is m i o with ⟨a, e⟩ | ⟨e, _⟩ <;> rw [e] <;> exact ⟨rfl, rfl⟩
theorem settle_xv (i : Nat) : ∀ (f : Nat) (m : RM), (m.settle i f).x = m.x ∧ (m.settle i f).v = m.v
  | 0, m => ⟨rfl, rfl⟩
  | f + 1, m => by
    unfold RM.settle
    split
    · split
      · obtain ⟨h1, h2⟩ := settle_xv i f (m.begin_ i _)
        obtain ⟨k1, k2⟩ := begin_xv m i _
        exact ⟨h1.trans k1, h2.trans k2⟩
      · exact ⟨rfl, rfl⟩
    · exact ⟨rfl, rfl⟩
theorem get_xv (m : RM) (i p j : Nat) (hj : j ≠ i) : (m.get i p).1.x j = m.x j ∧ (m.get i p).1.v j = m.v j := by
  unfold RM.get
  dsimp only
  split
  · exact ⟨Go.ConcN.upd_ne _ _ hj, rfl⟩
  · split
    · exact ⟨rfl, Go.ConcN.upd_ne _ _ hj⟩
    · split <;> exact ⟨rfl, rfl⟩
theorem gathered_xv (m : RM) (i : Nat) (o : OpI) (v e : Int) : (m.gathered i o v e).x = m.x ∧ (m.gathered i o v e).v = m.v := by
  unfold RM.gathered
  split
  · exact ⟨rfl, rfl⟩
  · have h1 : (if e = 0 then m.see i v else m).x = m.x ∧ (if e = 0 then m.see i v else m).v = m.v := by split <;> exact ⟨rfl, rfl⟩
    generalize (if e = 0 then m.see i v else m) = m1 at h1 ⊢
    dsimp only
    split
    · exact h1
    · split <;> exact h1
theorem step_xv (m : RM) (i : Nat) (o : OpI) (j : Nat) (hj : j ≠ i) : (m.step i o).x j = m.x j ∧ (m.step i o).v j = m.v j := by
  have hg := get_xv (m.stand i (m.pc i + 1)) i (m.pc i) j hj
  unfold RM.step
  dsimp only
  split
  · split
    · exact ⟨rfl, rfl⟩
    · split
      · exact ⟨rfl, rfl⟩
      · split <;> exact ⟨rfl, rfl⟩
  · split
    · split
      · split <;> exact hg
      · exact hg
    · split
      · split
        · obtain ⟨h1, h2⟩ := gathered_xv ((m.stand i (m.pc i + 1)).get i (m.pc i)).1 i o ((m.stand i (m.pc i + 1)).get i (m.pc i)).2.1 ((m.stand i (m.pc i + 1)).get i (m.pc i)).2.2.1
          exact ⟨by rw [h1]; exact hg.1, by rw [h2]; exact hg.2⟩
        · exact hg
      · split
        · exact ⟨rfl, rfl⟩
        · split
          · split
            · exact ⟨rfl, rfl⟩
            · split <;> exact ⟨rfl, rfl⟩
          · exact ⟨rfl, rfl⟩
end RM
end Go.Proofs.Yteainbnoemkfcaa
namespace Go.Proofs.Yteainbnoemkfcaa
open Go.RowKit Go.Turn Go.Tame Go.Conc
def stgOf (r : RM) (i : Nat) : Stg RSt2 := if r.pc i = 0 then .over else match (r.ops i)[r.at_ i]? with
  | some o => .wait (contOf r i o)
  | none => .over
theorem did_tree {m : Mach RSt2} {r : RM} {i : Nat} (hd : r.pc i = 0 → (r.ops i).length ≤ r.at_ i) : m.did i (treeOf r i) = ⟨toS r, Go.ConcN.upd m.th i (stgOf r i)⟩ := by
  unfold treeOf stgOf
  by_cases hp : r.pc i = 0
  · rw [if_pos hp, if_pos hp, List.drop_of_length_le (hd hp)]
    rfl
  · rw [if_neg hp, if_neg hp]
    cases (r.ops i)[r.at_ i]? with
    | some o => rfl
    | none => rfl
theorem stg_other {r r' : RM} {i j : Nat} (hs : RM.Same i r r') (hx : r'.x j = r.x j ∧ r'.v j = r.v j) (hj : j ≠ i) : stgOf r' j = stgOf r j := by
  obtain ⟨e1, e2, e3, e4, e5⟩ := hs.o j hj
  unfold stgOf contOf restOf
  rw [hs.ops, hs.size, e1, e2, e3, e4, e5, hx.1, hx.2]
structure TwinM (n : Nat) (m : Mach RSt2) (r : RM) : Prop where
  a_s : m.s = toS r
  a_th : ∀ i, i < n → m.th i = stgOf r i
  a_n : r.n = n
  a_ok : r.Ok
  a_ok2 : r.Ok2
  a_done : ∀ i, i < n → r.pc i = 0 → (r.ops i).length ≤ r.at_ i
theorem TwinM.over {n : Nat} {m : Mach RSt2} {r : RM} (h : TwinM n m r) {i : Nat} (hi : i < n) : (m.th i).isOver = decide (r.pc i = 0) := by
  rw [h.a_th i hi]
  unfold stgOf
  by_cases hp : r.pc i = 0
  · rw [if_pos hp]; simp [Stg.isOver, hp]
  · rw [if_neg hp]
    obtain ⟨o, ho, _⟩ := h.a_ok.live i (by rw [h.a_n]; exact hi) hp
    rw [ho]
    simp [Stg.isOver, hp]
theorem TwinM.left {n : Nat} {m : Mach RSt2} {r : RM} (h : TwinM n m r) : decide (0 < m.left n) = r.left := by
  have key : ∀ k, k ≤ n → decide (0 < m.left k) = (List.range k).any fun i => decide (r.pc i ≠ 0) := by
    intro k
    induction k with
    | zero => intro _; rfl
    | succ k ih =>
      intro hk
      have h1 := ih (by omega)
      rw [List.range_succ, List.any_append, ← h1]
      simp only [Mach.left, h.over (show k < n by omega)]
      by_cases hp : r.pc k = 0
      · simp [hp]
      · simp [hp]
  unfold RM.left
  rw [h.a_n]
  exact key n (Nat.le_refl _)
theorem TwinM.go {n : Nat} {m : Mach RSt2} {r : RM} (h : TwinM n m r) {i : Nat} (hi : i < n) (hp : r.pc i ≠ 0) : TwinM n (m.go i) (r.does i) := by
  have hi' : i < r.n := by rw [h.a_n]; exact hi
  obtain ⟨o, ho, hlive⟩ := h.a_ok.live i hi' hp
  obtain ⟨l4, l5⟩ := h.a_ok2.lv i hi' hp o ho
  have hst : m.th i = .wait (contOf r i o) := by rw [h.a_th i hi]; unfold stgOf; rw [if_neg hp, ho]
  have hss := RM.same_step r i o
  have hse := RM.same_settled (r.step i o) i
  have hsame := hss.trans hse
  have hdo : r.does i = (r.step i o).settled i := by unfold RM.does; rw [ho]
  have hops : ∀ o' ∈ (r.step i o).ops i, o'.Ok := by rw [hss.ops]; exact h.a_ok.op i hi'
  have hlen : ((r.step i o).settled i).pc i = 0 → (((r.step i o).settled i).ops i).length ≤ ((r.step i o).settled i).at_ i := fun hz => by
    rw [hse.ops]
    exact settled_done _ _ (Nat.le_refl _) hz
  have hgo : m.go i = ⟨toS ((r.step i o).settled i), Go.ConcN.upd m.th i (stgOf ((r.step i o).settled i) i)⟩ := by
    unfold Mach.go
    rw [hst]
    show m.did i (contOf r i o m.s) = _
    rw [h.a_s, tree_step h.a_ok hi' hp ho (h.a_ok2.vv i) l4 l5, tree_settle _ _ hops]
    exact did_tree hlen
  rw [hdo, hgo]
  refine ⟨rfl, fun j hj => ?_, by rw [hsame.n]; exact h.a_n, RM.Ok.settle _ (h.a_ok.step hi' hp ho) (by rw [hss.n]; exact hi'), RM.Ok2.settle _ (h.a_ok2.step h.a_ok hi' hp ho), fun j hj hz => ?_⟩
  · by_cases e : j = i
    · subst e; exact Go.ConcN.upd_same _ _ _
    · show Go.ConcN.upd m.th i _ j = _
      rw [Go.ConcN.upd_ne _ _ e, h.a_th j hj]
      refine (stg_other hsame ?_ e).symm
      obtain ⟨x1, x2⟩ := RM.step_xv r i o j e
      obtain ⟨y1, y2⟩ := RM.settle_xv i (((r.step i o).ops i).length + 1 - (r.step i o).at_ i) (r.step i o)
      exact ⟨(congrFun y1 j).trans x1, (congrFun y2 j).trans x2⟩
  · by_cases e : j = i
    · subst e; exact hlen hz
    · obtain ⟨e1, e2, e3, e4, e5⟩ := hsame.o j e
      rw [hsame.ops, e1]
      rw [e3] at hz
      exact h.a_done j hj hz
theorem born_alike {ss : List Int} {ops : Nat → List OpI} {n : Nat} (hn : n ≤ 64) (hl : ∀ i, i < n → (ops i).length ≤ 65536) (ho : ∀ i, i < n → ∀ o ∈ ops i, o.Ok ∧ R64 o.b) (hb : (newM ss).Ok ∧ (newM ss).Ok2) : ∀ k, k ≤ n →
    TwinM k (Mach.born (brQ (fun _ => doA (rnOf ss)) ops) ⟨(s0Of ss, fun _ => []), fun _ => .unborn⟩ k) ((newM ss).born ops k) ∧ ∀ j, k ≤ j → ((newM ss).born ops k).ans j = []
  | 0, _ => ⟨⟨rfl, fun i hi => by omega, rfl, hb.1, hb.2, fun i hi => by omega⟩, fun j _ => rfl⟩
  | k + 1, hk => by
    obtain ⟨h, ha⟩ := born_alike hn hl ho hb k (by omega)
    have hrn : ((newM ss).born ops k).n = k := h.a_n
    have hsz : ((newM ss).born ops k).size = rnOf ss := RM.born_size _ _ _
    show TwinM (k + 1) ((Mach.born _ _ k).did k (brQ _ ops k (Mach.born _ _ k).s)) ((((newM ss).born ops k).hire (ops k)).settled ((newM ss).born ops k).n) ∧ _
    generalize Mach.born (brQ (fun _ => doA (rnOf ss)) ops) ⟨(s0Of ss, fun _ => []), fun _ => .unborn⟩ k = m at h ⊢
    rw [hrn]
    have hbn : ((newM ss).born ops (k + 1)) = (((newM ss).born ops k).hire (ops k)).settled k := by
      show (((newM ss).born ops k).hire (ops k)).settled ((newM ss).born ops k).n = _
      rw [hrn]
    rw [hbn]
    clear hbn
    generalize (newM ss).born ops k = r at h ha hrn hsz ⊢
    have hS : toS (r.hire (ops k)) = toS r := by
      unfold toS
      refine Prod.ext rfl ?_
      funext j
      show Go.ConcN.upd r.ans r.n [] j = r.ans j
      by_cases e : j = r.n
      · subst e; rw [Go.ConcN.upd_same, ha _ (by omega)]
      · rw [Go.ConcN.upd_ne _ _ e]
    have hoh : (r.hire (ops k)).ops k = ops k := by show Go.ConcN.upd r.ops r.n (ops k) k = _; rw [hrn, Go.ConcN.upd_same]
    have hpc : (r.hire (ops k)).pc k = 0 := by show Go.ConcN.upd r.pc r.n 0 k = _; rw [hrn, Go.ConcN.upd_same]
    have hat : (r.hire (ops k)).at_ k = 0 := by show Go.ConcN.upd r.at_ r.n 0 k = _; rw [hrn, Go.ConcN.upd_same]
    have hah : (r.hire (ops k)).ans k = [] := by show Go.ConcN.upd r.ans r.n [] k = _; rw [hrn, Go.ConcN.upd_same]
    have htree : brQ (fun _ => doA (rnOf ss)) ops k m.s = treeOf (r.hire (ops k)) k := by
      unfold brQ treeOf
      rw [h.a_s, if_pos (show (toS r).2 k = [] from ha k (Nat.le_refl _)), if_pos hpc, hoh, hat, hah, hS]
      show _ = thrQ (doA r.size) k _ _ _
      rw [hsz]
      rfl
    have hse := RM.same_settled (r.hire (ops k)) k
    have hok1 : (r.hire (ops k)).Ok := h.a_ok.hire (by rw [hrn]; omega) (hl k (by omega)) fun o z => (ho k (by omega) o z).1
    have hok2 : (r.hire (ops k)).Ok2 := by
      refine ⟨h.a_ok2.vr, fun j => ?_, fun j hj => ?_, fun j hj hp => ?_⟩
      · show R64 (Go.ConcN.upd r.v r.n 0 j)
        by_cases e : j = r.n
        · subst e; rw [Go.ConcN.upd_same]; unfold R64; omega
        · rw [Go.ConcN.upd_ne _ _ e]; exact h.a_ok2.vv j
      · show ∀ o ∈ Go.ConcN.upd r.ops r.n (ops k) j, _
        by_cases e : j = r.n
        · subst e; rw [Go.ConcN.upd_same]; exact fun o z => (ho k (by omega) o z).2
        · rw [Go.ConcN.upd_ne _ _ e]; exact h.a_ok2.br j (by have : j < r.n + 1 := hj; omega)
      · by_cases e : j = r.n
        · subst e; exact absurd (show Go.ConcN.upd r.pc _ 0 _ = 0 from Go.ConcN.upd_same _ _ _) hp
        · have hp' : r.pc j ≠ 0 := by rw [← Go.ConcN.upd_ne r.pc 0 e]; exact hp
          show ∀ o, (Go.ConcN.upd r.ops r.n (ops k) j)[Go.ConcN.upd r.at_ r.n 0 j]? = some o → (o.kind = 4 → o.a ≤ Go.ConcN.upd r.q r.n 0 j ∧ Go.ConcN.upd r.q r.n 0 j ≤ min (min o.b (o.a + r.size - 1)) 4611686018427387903) ∧ (o.kind = 5 → (Go.ConcN.upd r.seen r.n [] j).length < o.b.toNat)
          rw [Go.ConcN.upd_ne _ _ e, Go.ConcN.upd_ne _ _ e, Go.ConcN.upd_ne _ _ e, Go.ConcN.upd_ne _ _ e]
          exact h.a_ok2.lv j (by have : j < r.n + 1 := hj; omega) hp'
    have hlen : ((r.hire (ops k)).settled k).pc k = 0 → (((r.hire (ops k)).settled k).ops k).length ≤ ((r.hire (ops k)).settled k).at_ k := fun hz => by
      rw [hse.ops]
      exact settled_done _ _ (Nat.le_refl _) hz
    have hdid : m.did k (brQ (fun _ => doA (rnOf ss)) ops k m.s) = ⟨toS ((r.hire (ops k)).settled k), Go.ConcN.upd m.th k (stgOf ((r.hire (ops k)).settled k) k)⟩ := by
      rw [htree, tree_settle _ _ (by rw [hoh]; exact fun o z => (ho k (by omega) o z).1)]
      exact did_tree hlen
    rw [hdid]
    have hother : ∀ j, j ≠ k → stgOf ((r.hire (ops k)).settled k) j = stgOf r j ∧ ((r.hire (ops k)).settled k).pc j = r.pc j ∧ ((r.hire (ops k)).settled k).at_ j = r.at_ j ∧ ((r.hire (ops k)).settled k).ops j = r.ops j ∧ ((r.hire (ops k)).settled k).ans j = r.ans j := fun j e => by
      have hjr : j ≠ r.n := by rw [hrn]; exact e
      obtain ⟨e1, e2, e3, e4, e5⟩ := hse.o j e
      obtain ⟨y1, y2⟩ := RM.settle_xv k (((r.hire (ops k)).ops k).length + 1 - (r.hire (ops k)).at_ k) (r.hire (ops k))
      have z1 : (r.hire (ops k)).at_ j = r.at_ j := Go.ConcN.upd_ne _ _ hjr
      have z2 : (r.hire (ops k)).ans j = r.ans j := Go.ConcN.upd_ne _ _ hjr
      have z3 : (r.hire (ops k)).pc j = r.pc j := Go.ConcN.upd_ne _ _ hjr
      have z4 : (r.hire (ops k)).q j = r.q j := Go.ConcN.upd_ne _ _ hjr
      have z5 : (r.hire (ops k)).seen j = r.seen j := Go.ConcN.upd_ne _ _ hjr
      have z6 : (r.hire (ops k)).ops j = r.ops j := Go.ConcN.upd_ne _ _ hjr
      have z7 : (r.hire (ops k)).x j = r.x j := Go.ConcN.upd_ne _ _ hjr
      have z8 : (r.hire (ops k)).v j = r.v j := Go.ConcN.upd_ne _ _ hjr
      refine ⟨?_, e3.trans z3, e1.trans z1, (by rw [hse.ops, z6]), e2.trans z2⟩
      rw [stg_other hse ⟨congrFun y1 j, congrFun y2 j⟩ e]
      unfold stgOf contOf restOf
      rw [z1, z2, z3, z4, z5, z6, z7, z8]
      rfl
    refine ⟨⟨rfl, fun j hj => ?_, by rw [hse.n]; show r.n + 1 = _; rw [hrn], RM.Ok.settle _ hok1 (by show k < r.n + 1; omega), RM.Ok2.settle _ hok2, fun j hj hz => ?_⟩, fun j hj => ?_⟩
    · by_cases e : j = k
      · subst e; exact Go.ConcN.upd_same _ _ _
      · show Go.ConcN.upd m.th k _ j = _
        rw [Go.ConcN.upd_ne _ _ e, h.a_th j (by omega), (hother j e).1]
    · by_cases e : j = k
      · subst e; exact hlen hz
      · obtain ⟨_, w1, w2, w3, _⟩ := hother j e
        rw [w3, w2]
        exact h.a_done j (by omega) (by rw [← w1]; exact hz)
    · have e : j ≠ k := by omega
      rw [(hother j e).2.2.2.2]
      exact ha j (by omega)
structure TwinR (n most : Nat) (c : Run RSt2) (d : RRun) : Prop where
  r_m : TwinM n c.m d.m
  r_order : c.order = d.order
  r_most : c.order.length ≤ most
theorem TwinR.turn {n most : Nat} {c : Run RSt2} {d : RRun} (h : TwinR n most c d) (x : Int) : TwinR n most (c.turn n most x) (d.turn most x) := by
  unfold Run.turn RRun.turn
  by_cases hd : d.may most x
  · obtain ⟨h0, h1, h2, h3⟩ := hd
    rw [h.r_m.a_n] at h1
    have hi : x.toNat < n := by omega
    have hc : c.may n most x = true := by
      unfold Run.may
      rw [h.r_m.over hi, h.r_order]
      simp [h0, h1, h2]
      omega
    rw [if_pos hc, if_pos (show d.may most x from ⟨h0, by rw [h.r_m.a_n]; exact h1, h2, h3⟩)]
    refine ⟨h.r_m.go hi h2, by rw [h.r_order], ?_⟩
    show (c.order ++ [x]).length ≤ most
    rw [h.r_order, List.length_append]
    simp; omega
  · have hc : ¬ c.may n most x = true := fun hc => by
      unfold Run.may at hc
      simp only [Bool.and_eq_true, decide_eq_true_eq, Bool.not_eq_true', beq_eq_false_iff_ne, ne_eq] at hc
      obtain ⟨⟨⟨h0, h1⟩, h2⟩, h3⟩ := hc
      have hi : x.toNat < n := by omega
      rw [h.r_m.over hi] at h2
      refine hd ⟨h0, by rw [h.r_m.a_n]; exact h1, by simpa using h2, ?_⟩
      rw [← h.r_order]
      have := h.r_most
      omega
    rw [if_neg hc, if_neg hd]
    exact h
theorem TwinR.turns {n most : Nat} : ∀ (l : List Int) {c : Run RSt2} {d : RRun}, TwinR n most c d → TwinR n most (c.turns n most l) (d.turns most l)
  | [], _, _, h => h
  | x :: l, _, _, h => TwinR.turns l (h.turn x)
theorem TwinR.rounds {n most : Nat} : ∀ (f : Nat) {c : Run RSt2} {d : RRun}, TwinR n most c d → TwinR n most (Run.rounds n most f c) (RRun.rounds most f d)
  | 0, _, _, h => h
  | f + 1, c, d, h => by
    have hl := h.r_m.left
    unfold Run.rounds RRun.rounds
    by_cases hc : 0 < c.m.left n ∧ c.order.length < most
    · rw [if_pos hc, if_pos (show d.m.left = true ∧ d.order.length < most from ⟨by rw [← hl, decide_eq_true hc.1], by rw [← h.r_order]; exact hc.2⟩), h.r_m.a_n]
      exact TwinR.rounds f (h.turns _)
    · rw [if_neg hc, if_neg (show ¬ (d.m.left = true ∧ d.order.length < most) from fun z => hc ⟨of_decide_eq_true (hl.trans z.1), by rw [h.r_order]; exact z.2⟩)]
      exact h
theorem newM_ok (ss : List Int) (hs : ∀ x ∈ ss, R64 x) : (newM ss).Ok ∧ (newM ss).Ok2 := by
  have hrn : rnOf ss ≤ 65536 := by
    cases ss with
    | nil => exact Nat.zero_le _
    | cons n vs =>
      by_cases hR : RightI n
      · rw [show rnOf (n :: vs) = n.toNat from if_pos hR]; have := hR.2.1; omega
      · rw [show rnOf (n :: vs) = 0 from if_neg hR]; omega
  have hbeg : ∀ (k : Nat) (vs : List Int), (∀ x ∈ vs, R64 x) → ∀ (j : Nat), j ≤ vs.length → ∀ y, R64 ((begS k vs j).2 y) := by
    intro k vs hv j
    induction j with
    | zero => intro _ y; show R64 0; unfold R64; omega
    | succ j ih =>
      intro hj y
      simp only [begS, upd]
      split
      · rw [List.getD_eq_getElem?_getD, List.getElem?_eq_getElem (by omega)]
        exact hv _ (List.getElem_mem _)
      · exact ih (by omega) y
  refine ⟨⟨Nat.zero_le _, hrn, fun i hi => absurd hi (Nat.not_lt_zero _), fun i hi => absurd hi (Nat.not_lt_zero _), fun i hi => absurd hi (Nat.not_lt_zero _), fun i hi => absurd hi (Nat.not_lt_zero _), fun i hi => absurd hi (Nat.not_lt_zero _)⟩, ⟨fun k => ?_, fun i => by show R64 0; unfold R64; omega, fun i hi => absurd hi (Nat.not_lt_zero _), fun i hi => absurd hi (Nat.not_lt_zero _)⟩⟩
  show R64 ((s0Of ss).2 k)
  cases ss with
  | nil => show R64 0; unfold R64; omega
  | cons n vs =>
    by_cases hR : RightI n
    · rw [show s0Of (n :: vs) = begS n.toNat vs vs.length from if_pos hR]
      exact hbeg _ vs (fun x hx => hs x (by simp [hx])) _ (Nat.le_refl _) k
    · rw [show s0Of (n :: vs) = (fun _ => 0, fun _ => 0) from if_neg hR]
      show R64 0; unfold R64; omega
theorem runs_alike (ss : List Int) (ops : Nat → List OpI) (nt : Nat) (xs : List Int) (most : Int) (hs : ∀ x ∈ ss, R64 x) (hl : ∀ i, i < min nt 64 → (ops i).length ≤ 65536) (ho : ∀ i, i < min nt 64 → ∀ o ∈ ops i, o.Ok ∧ R64 o.b) :
    TwinR (min nt 64) (heldI most 1048576).toNat (playS ss ops nt xs most) (refRun (newM ss) ops (min nt 64) (heldI most 1048576).toNat xs) := by
  have h := (born_alike (by omega) hl ho (newM_ok ss hs) (min nt 64) (Nat.le_refl _)).1
  unfold playS playRun refRun
  exact TwinR.rounds _ (TwinR.turns _ ⟨h, rfl, Nat.zero_le _⟩)
end Go.Proofs.Yteainbnoemkfcaa
namespace Go.Proofs.Yteainbnoemkfcaa
open Go.RowKit Go.Turn
section
variable {ops : Nat → List OpI} {A : Nat → Option Addr} {len cap : Nat → Nat}
theorem RunIn.below {w0 w1 : World} {oV : Nat → Value} {nt : Nat} {tA : Option Addr} {Tb To : Nat} {sA : Option Addr} {sc : Nat} {xs : List Int} (h : RunIn w0 oV ops nt tA Tb To A len cap sA sc xs) (hb : Below w0.heap.size w0 w1) : RunIn w1 oV ops nt tA Tb To A len cap sA sc xs :=
  ⟨h.h_max, h.h_tA, ⟨fun i hi => below_cell hb (h.h_rows.row i hi), h.h_rows.le, h.h_rows.max, h.h_rows.nil⟩, h.h_oV,
    ⟨h.h_ops.row, fun i hi j o ho => by
      obtain ⟨b, f, c, h1, h2, h3, h4, h5, h6⟩ := h.h_ops.cells i hi j o ho
      exact ⟨b, f, c, h1, Nat.lt_of_lt_of_le h2 hb.size, below_cell hb h3, below_cell hb h4, below_cell hb h5, below_cell hb h6⟩⟩,
    h.h_olen, h.h_good, fun i hi => by
      obtain ⟨b, o, h1, h2⟩ := h.h_sch i hi
      exact ⟨b, o, h1, below_cell hb h2⟩, h.h_smax⟩
set_option maxHeartbeats 4000000 in
set_option maxRecDepth 100000 in
theorem refplay_new (w : World) (oV : Nat → Value) (ss : List Int) (qA : Option Addr) (qc : Nat) (hst : NumsIn w qA qc ss) (hr : ∀ x ∈ ss, R64 x) (hlen : ss.length ≤ 4611686018427387903) (nt : Nat) (tA : Option Addr) (cp Tb To : Nat) (sA : Option Addr) (sc : Nat) (xs : List Int) (most : Int) (hin : RunIn w oV ops nt tA Tb To A len cap sA sc xs)
    (hb64 : ∀ i, i < min nt 64 → ∀ o ∈ ops i, R64 o.b) :
    Calls Try.prog 11 #[.slice qA ss.length qc, .slice tA nt cp, .slice sA xs.length sc, .int .i64 most] w fun e w' => ∃ Aa ca ov tv, e = .returned (.agg #[.slice Aa (min nt 64) ca, ov, tv, .bool (decide (0 < (playS ss ops nt xs most).m.left (min nt 64)))]) ∧
      (∀ wz : World, (∀ b, w.heap.size ≤ b → b < w'.heap.size → wz.heap[b]? = w'.heap[b]?) → TraceAt wz (min nt 64) (playS ss ops nt xs most).m.s.2 (playS ss ops nt xs most).order (rowN (playS ss ops nt xs most).m.s.1.1 (rnOf ss) ++ rowN (playS ss ops nt xs most).m.s.1.2 (rnOf ss)) Aa ca ov tv) ∧ Below w.heap.size w w' ∧ ∀ A n c, tv = .slice A n c → n ≤ c := by
  have hol := hin.h_olen
  have hal := runs_alike ss ops nt xs most hr (fun i hi => by rw [hol i hi]; omega) (fun i hi o ho => ⟨hin.h_good i hi o ho, hb64 i hi o ho⟩)
  have e1 := hal.r_m.left
  have e2 : (playS ss ops nt xs most).m.s = toS (refRun (newM ss) ops (min nt 64) (heldI most 1048576).toNat xs).m := hal.r_m.a_s
  rw [e1, e2, hal.r_order]
  show Calls _ _ _ _ fun e w' => ∃ Aa ca ov tv, e = .returned (.agg #[.slice Aa (min nt 64) ca, ov, tv, .bool (refRun (newM ss) ops (min nt 64) (heldI most 1048576).toNat xs).m.left]) ∧
      (∀ wz : World, (∀ b, w.heap.size ≤ b → b < w'.heap.size → wz.heap[b]? = w'.heap[b]?) → TraceAt wz (min nt 64) (refRun (newM ss) ops (min nt 64) (heldI most 1048576).toNat xs).m.ans (refRun (newM ss) ops (min nt 64) (heldI most 1048576).toNat xs).order (rowN (refRun (newM ss) ops (min nt 64) (heldI most 1048576).toNat xs).m.S (newM ss).size ++ rowN (refRun (newM ss) ops (min nt 64) (heldI most 1048576).toNat xs).m.V (newM ss).size) Aa ca ov tv) ∧ Below w.heap.size w w' ∧ ∀ A n c, tv = .slice A n c → n ≤ c
  generalize hR : refRun (newM ss) ops (min nt 64) (heldI most 1048576).toNat xs = R
  have HR := Lib.hid hR
  clear hal e1 e2 hol hR
  have hok := (newM_ok ss hr).1
  have bw : Below w.heap.size w (w.alloc (.cells #[.slice none 0 0, .slice none 0 0, .slice none 0 0, .bool false] 31)) := (Below.refl _ _).alloc (Nat.le_refl _) _
  have hb8 := Blk.new w 31 #[.slice none 0 0, .slice none 0 0, .slice none 0 0, .bool false]
  have hin1 := hin.below bw
  have hst1 : NumsIn (w.alloc (.cells #[.slice none 0 0, .slice none 0 0, .slice none 0 0, .bool false] 31)) qA qc ss := hst.blocks fun b hb => bw.block b hb
  obtain ⟨b8, h8⟩ : ∃ b8, b8 = w.heap.size := ⟨_, rfl⟩
  have HI := Lib.hid hin1
  have HN := Lib.hid hst1
  have HB := Lib.hid bw
  have HB8 : Hid (Blk (w.alloc (.cells #[.slice none 0 0, .slice none 0 0, .slice none 0 0, .bool false] 31)) b8 31 #[.slice none 0 0, .slice none 0 0, .slice none 0 0, .bool false]) := Lib.hid (h8 ▸ hb8)
  have HH := Lib.hid h8
  clear hin hst bw hb8 hin1 hst1
  obtain ⟨L, hL⟩ : ∃ L, L = ss.length := ⟨_, rfl⟩
  obtain ⟨LX, hLX⟩ : ∃ LX, LX = xs.length := ⟨_, rfl⟩
  rw [← hL, ← hLX]
  have HL := Lib.hid hL
  have HLX := Lib.hid hLX
  go_enter Try.func11, Try.ntmps11
  refine wp_cut fun K hK => ?_
  go_wp2
  refine hK.out _ _ ?_
  clear hK K
  rw [← h8]
  generalize World.alloc _ _ = w1 at *
  have hnew := refnew_ok oV w1 ss qA qc HN.out (fun x hx => (hr x hx).1) hlen
  rw [← hL] at hnew
  have HNEW := Lib.hid hnew
  clear hnew hL h8
  refine wp_cut fun K hK => ?_
  go_wp2_with fail
  refine HNEW.out.mono ?_
  rintro e w2 ⟨rfl, hm2, hb2⟩
  have hrun := refrun_ok w1 w2 hb2 (newM ss) ⟨rfl, rfl, hok⟩ hm2 nt tA cp Tb To sA sc xs most HI.out
  rw [HR.out, ← hLX] at hrun
  have HRUN := Lib.hid hrun
  clear hrun hm2 hb2 HNEW hLX
  go_wp2_with fail
  refine HRUN.out.mono ?_
  rintro e w3 ⟨Aa, ca, ov, tv, rfl, htr, hb3, hcap⟩
  obtain ⟨oA, oc, hov, -⟩ := (htr w3 fun _ _ _ => rfl).ord.1
  obtain ⟨sA2, sc2, htv, -⟩ := (htr w3 fun _ _ _ => rfl).sta.1
  obtain ⟨tl, htl⟩ : ∃ tl, tl = (rowN R.m.S (newM ss).size ++ rowN R.m.V (newM ss).size).length := ⟨_, rfl⟩
  rw [← htl] at htv
  clear htl
  subst hov htv
  have hb4 : Blk w3 b8 _ _ := HB8.out.below hb3 HB8.out.lt
  have l8 := HB8.out.lt
  have o0 := hb4.cell 0
  have o1 := hb4.cell 1
  have o2 := hb4.cell 2
  have o3 := hb4.cell 3
  have oz0 := hb4.frozen 0
  have oz1 := hb4.frozen 1
  have oz2 := hb4.frozen 2
  have oz3 := hb4.frozen 3
  simp at o0 o1 o2 o3
  have HCAP := Lib.hid hcap
  clear hcap
  have HT := Lib.hid htr
  have HB4 := Lib.hid hb4
  have HB3 := Lib.hid hb3
  clear htr hb4 hb3 HRUN
  go_wp2
  refine hK.out _ _ ?_
  clear hK K o0 o1 o2 o3 oz0 oz1 oz2 oz3
  have hb5 := (((HB4.out.set_ 0 (.slice Aa (min nt 64) ca)).set_ 1 (.slice oA R.order.length oc)).set_ 2 (.slice sA2 tl sc2)).set_ 3 (.bool R.m.left)
  simp only [List.setIfInBounds_toArray, List.set_cons_zero, List.set_cons_succ] at hb5
  have h8 := HH.out
  have hge : b8 < w1.heap.size := l8
  have hTT : ∀ wz : World, (∀ b, w.heap.size ≤ b → b < w3.heap.size → wz.heap[b]? = ((((w3.setCell ⟨b8, 0, none⟩ (.slice Aa (min nt 64) ca)).setCell ⟨b8, 1, none⟩ (.slice oA R.order.length oc)).setCell ⟨b8, 2, none⟩ (.slice sA2 tl sc2)).setCell ⟨b8, 3, none⟩ (.bool R.m.left)).heap[b]?) → TraceAt wz _ _ _ _ _ _ _ _ := fun wz hz => HT.out wz fun b hb hb2 => by
    have hne : b ≠ b8 := by omega
    rw [hz b (by omega) hb2, Below.heap_setCell _ _ _ _ hne, Below.heap_setCell _ _ _ _ hne, Below.heap_setCell _ _ _ _ hne, Below.heap_setCell _ _ _ _ hne]
  have hsz3 : ((((w3.setCell ⟨b8, 0, none⟩ (.slice Aa (min nt 64) ca)).setCell ⟨b8, 1, none⟩ (.slice oA R.order.length oc)).setCell ⟨b8, 2, none⟩ (.slice sA2 tl sc2)).setCell ⟨b8, 3, none⟩ (.bool R.m.left)).heap.size = w3.heap.size := by simp [World.setCell]
  have hT := fun wz (hz : ∀ b, w.heap.size ≤ b → b < ((((w3.setCell ⟨b8, 0, none⟩ (.slice Aa (min nt 64) ca)).setCell ⟨b8, 1, none⟩ (.slice oA R.order.length oc)).setCell ⟨b8, 2, none⟩ (.slice sA2 tl sc2)).setCell ⟨b8, 3, none⟩ (.bool R.m.left)).heap.size → wz.heap[b]? = ((((w3.setCell ⟨b8, 0, none⟩ (.slice Aa (min nt 64) ca)).setCell ⟨b8, 1, none⟩ (.slice oA R.order.length oc)).setCell ⟨b8, 2, none⟩ (.slice sA2 tl sc2)).setCell ⟨b8, 3, none⟩ (.bool R.m.left)).heap[b]?) => hTT wz fun b hb hb2 => hz b hb (by rw [hsz3]; exact hb2)
  clear hTT hsz3
  have hB3 : Below b8 w w3 := (HB.out.mono (by omega)).trans (HB3.out.mono (by omega))
  have hbw := (((hB3.setCell (p := ⟨b8, 0, none⟩) (Nat.le_refl _) (.slice Aa (min nt 64) ca)).setCell (p := ⟨b8, 1, none⟩) (Nat.le_refl _) (.slice oA R.order.length oc)).setCell (p := ⟨b8, 2, none⟩) (Nat.le_refl _) (.slice sA2 tl sc2)).setCell (p := ⟨b8, 3, none⟩) (Nat.le_refl _) (.bool R.m.left)
  generalize World.setCell _ _ _ = wf at *
  have d0 := hb5.cell 0
  have d1 := hb5.cell 1
  have d2 := hb5.cell 2
  have d3 := hb5.cell 3
  simp at d0 d1 d2 d3
  refine wp_ret ?_
  try simp only [Exit.inBlock, Exit.then]
  refine bodyPost_ret (v := .agg #[.slice Aa (min nt 64) ca, .slice oA R.order.length oc, .slice sA2 tl sc2, .bool R.m.left]) (by simp [results, Try.f11, go_sem, d0, d1, d2, d3]) rfl ?_
  exact ⟨Aa, ca, _, _, rfl, fun wz hz => hT wz fun b hb hb2 => hz b (by omega) hb2, hbw, HCAP.out⟩
end
end Go.Proofs.Yteainbnoemkfcaa
