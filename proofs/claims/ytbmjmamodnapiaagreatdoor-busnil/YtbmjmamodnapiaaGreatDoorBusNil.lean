/- DERIVED. The law BusNil, walked (package carillonlaw19). -/
import Derived.Test.YtbmjmamodnapiaaGreatDoorBusZ
namespace Go.Proofs.YtbmjmamodnapiaaGreatDoor
open Go.RowKit
set_option linter.unusedVariables false
/-- No bus, whatever size is asked for. -/
theorem open_nil_any (S : Value) (name n : Int) (w : World) (hr : -9223372036854775808 ≤ n) : Calls Tryz.prog 15 #[.pointer none, S, .int .i64 name, .int .i64 n] w fun e w' => e = .returned (.int .i64 (if RightI n then 6 else 1)) ∧ Kept (fun _ => False) w w' := by
  by_cases h : RightI n
  · rw [if_pos h]
    obtain ⟨m, rfl⟩ : ∃ m : Nat, n = m := ⟨n.toNat, by have := h.1; omega⟩
    exact open_nil S name m w (by have := h.1; omega) (by have := h.2.1; omega) (by have := h.2.2; simpa using this)
  · rw [if_neg h]
    exact (open_bad none S name n w h hr).mono fun e w' ⟨h1, h2⟩ => ⟨h1, h2 ▸ Kept.refl _ _⟩
/-- A new bus, whatever size is asked for: what its names are then. -/
theorem open_new_any (b : Nat) (name n : Int) (w : World) (hr : -9223372036854775808 ≤ n) (hB : Blk w b 72 #[.pointer none]) : Calls Tryz.prog 15 #[.pointer (some ⟨b, 0, none⟩), .nilIface, .int .i64 name, .int .i64 n] w fun e w' => e = .returned (.int .i64 (if RightI n then 0 else 1)) ∧ Kept (fun x => x = b) w w' ∧ ∃ ls : List (Int × Nat), BusAt w' b ls ∧ ls.length = if RightI n then 1 else 0 := by
  by_cases h : RightI n
  · simp only [if_pos h]
    obtain ⟨m, rfl⟩ : ∃ m : Nat, n = m := ⟨n.toNat, by have := h.1; omega⟩
    exact (bus_open b name m w (by have := h.1; omega) (by have := h.2.1; omega) (by have := h.2.2; simpa using this) hB).mono fun e w' ⟨h1, h2, h3, h4⟩ => ⟨h1, h2, _, h4.at_, rfl⟩
  · simp only [if_neg h]
    exact (open_bad (some ⟨b, 0, none⟩) .nilIface name n w h hr).mono fun e w' ⟨h1, h2⟩ => ⟨h1, h2 ▸ Kept.refl _ _, [], h2 ▸ ⟨none, .slice none 0 0, hB, .inl ⟨rfl, rfl⟩, none, 0, rfl, by simp, by simp, fun _ => rfl, fun i hi => by simp at hi⟩, rfl⟩
set_option maxHeartbeats 8000000 in
set_option maxRecDepth 100000 in
theorem busNil_good (name n : Int) (w : World) (hT : TabAt w) (hr : -9223372036854775808 ≤ n) (hR : RightI n) :
    Calls Tryz.prog 6 #[.int .i64 name, .int .i64 n] w fun e w' => e = .returned (.bool true) ∧ Kept (fun _ => False) w w' := by
  have r1 := hR.1
  have r2 := hR.2.1
  have d1 : decide (1 ≤ n) = true := decide_eq_true r1
  have d2 : decide (n ≤ 65536) = true := decide_eq_true r2
  have d3 : (bits BinOp.and IntKind.i64 n (n - 1) == 0) = true := by have := hR.2.2; simpa using this
  have e1 : (if RightI n then (6 : Int) else 1) = 6 := if_pos hR
  have e2 : (if RightI n then (0 : Int) else 1) = 0 := if_pos hR
  have e3 : (if RightI n then 1 else 0) = 1 := if_pos hR
  clear hR
  have HT := Lib.hid hT
  clear hT
  go_enter Tryz.func6, Tryz.ntmps6
  go_wp2_with fail
  refine (awake_true w HT.out).mono ?_
  rintro e w1 ⟨rfl, k1⟩
  have HK1 := Lib.hid k1
  clear k1
  go_wp2_with fail
  have kx : Kept (fun _ => False) w1 (w1.alloc (.cells #[.int .i64 0] 56)) := Kept.alloc _ _
  have bx := Blk.new w1 56 #[.int .i64 0]
  obtain ⟨xs, hxs⟩ : ∃ x, x = w1.heap.size := ⟨_, rfl⟩
  rw [← hxs] at bx ⊢
  generalize w1.alloc (.cells #[.int .i64 0] 56) = w2 at bx kx ⊢
  have HK2 := Lib.hid (HK1.out.trans kx)
  have HB2 := Lib.hid bx
  clear kx bx hxs HK1
  refine (open_nil_any _ name n w2 hr).mono ?_
  rintro e w3 ⟨rfl, k3⟩
  rw [e1]
  have HK3 := Lib.hid (HK2.out.trans k3)
  have HB3 := Lib.hid (HB2.out.kept k3 id)
  clear k3 HK2 HB2
  go_wp2_with (go_at_call 22; refine (close_nil _ name _).mono ?_; rintro e w' ⟨rfl, rfl⟩)
  go_wp2_with fail
  have kv : Kept (fun _ => False) w3 (w3.alloc (.cells #[.int .i64 1] 2)) := Kept.alloc _ _
  generalize w3.alloc (.cells #[.int .i64 1] 2) = w4 at kv ⊢
  have HK4 := Lib.hid (HK3.out.trans kv)
  have HB4 := Lib.hid (HB3.out.kept kv id)
  clear kv HK3 HB3
  refine (publish_nil _ name _ w4).mono ?_
  rintro e w' ⟨rfl, hw'⟩
  subst hw'
  go_wp2_with fail
  refine (subscribe_nil _ name 0 0 0 w4).mono ?_
  rintro e w5 ⟨rfl, k5⟩
  have HK5 := Lib.hid (HK4.out.trans k5)
  have HB5 := Lib.hid (HB4.out.kept k5 id)
  clear k5 HK4 HB4
  go_wp2_with fail
  refine (follow_nil _ name 0 0 0 0 w5).mono ?_
  rintro e w6 ⟨rfl, k6⟩
  have HK6 := Lib.hid (HK5.out.trans k6)
  have HB6 := Lib.hid (HB5.out.kept k6 id)
  have hs : w6.cell? ⟨xs, 0, none⟩ = some (.int .i64 0) := HB6.out.cell 0
  clear k6 HK5 HB5
  go_wp2_with (go_at_call 24; refine (names_nil _).mono ?_; rintro e w' ⟨rfl, hw'⟩; subst hw')
  have kz : Kept (fun _ => False) w6 (w6.alloc (.cells #[.pointer none] 72)) := Kept.alloc _ _
  have bz := Blk.new w6 72 #[.pointer none]
  obtain ⟨zb, hzb⟩ : ∃ x, x = w6.heap.size := ⟨_, rfl⟩
  have hlt6 := HB6.out.lt
  rw [← hzb] at bz hlt6 ⊢
  generalize w6.alloc (.cells #[.pointer none] 72) = w7 at kz bz ⊢
  have HK7 := Lib.hid (HK6.out.trans kz)
  have HB7 := Lib.hid (HB6.out.kept kz id)
  have HN7 := Lib.hid (And.intro bz (And.intro hzb hlt6))
  have hz0 := HK6.out.size
  have HZ0 := Lib.hid hz0
  clear kz bz hzb hlt6 HK6 HB6 hs hz0
  refine (open_new_any zb name n w7 hr HN7.out.1).mono ?_
  rintro e w8 ⟨rfl, k8, ls, l8, n8⟩
  rw [e2]
  rw [e3] at n8
  have HK8 := Lib.hid (show Kept (fun _ => False) w w8 from HK7.out.later k8 (by rintro b rfl; have := HN7.out.2.1; have := HZ0.out; omega))
  have HB8 := Lib.hid (HB7.out.kept k8 (by have := HN7.out.2.2; omega))
  have HL := Lib.hid (And.intro l8 n8)
  clear k8 l8 n8 HK7 HB7
  go_wp2_with fail
  refine (names_ok zb ls w8 HL.out.1 (by have := HL.out.2; omega)).mono ?_
  rintro e w9 ⟨v9, rfl, o9, k9⟩
  obtain ⟨A9, c9, rfl⟩ := own_slice o9
  rw [HL.out.2] at *
  have HK9 := Lib.hid (HK8.out.trans k9)
  have HB9 := Lib.hid (HB8.out.kept k9 id)
  have hs : w9.cell? ⟨xs, 0, none⟩ = some (.int .i64 0) := HB9.out.cell 0
  clear k9 HK8 HB8 o9
  go_wp2_with (first | (go_at_call 21; refine (poll_nil _ _ _).mono ?_; rintro e w' ⟨rfl, hw'⟩; subst hw') | (go_at_call 18; refine (end_nil _ _).mono ?_; rintro e w' ⟨rfl, hw'⟩; subst hw') | (go_at_call 19; refine (next_nil _).mono ?_; rintro e w' ⟨rfl, hw'⟩; subst hw') | (go_at_call 17; refine (place_nil _).mono ?_; rintro e w' ⟨rfl, hw'⟩; subst hw'))
  go_ret
  exact ⟨rfl, HK9.out⟩
set_option maxHeartbeats 8000000 in
set_option maxRecDepth 100000 in
theorem busNil_low (name n : Int) (w : World) (hT : TabAt w) (hr : -9223372036854775808 ≤ n) (h : n < 1) :
    Calls Tryz.prog 6 #[.int .i64 name, .int .i64 n] w fun e w' => e = .returned (.bool true) ∧ Kept (fun _ => False) w w' := by
  have hR : ¬ RightI n := fun z => by have := z.1; omega
  have d1 : decide (1 ≤ n) = false := decide_eq_false (by omega)
  have e1 : (if RightI n then (6 : Int) else 1) = 1 := if_neg hR
  have e2 : (if RightI n then (0 : Int) else 1) = 1 := if_neg hR
  have e3 : (if RightI n then 1 else 0) = 0 := if_neg hR
  clear hR
  have HT := Lib.hid hT
  clear hT
  go_enter Tryz.func6, Tryz.ntmps6
  go_wp2_with fail
  refine (awake_true w HT.out).mono ?_
  rintro e w1 ⟨rfl, k1⟩
  have HK1 := Lib.hid k1
  clear k1
  go_wp2_with fail
  have kx : Kept (fun _ => False) w1 (w1.alloc (.cells #[.int .i64 0] 56)) := Kept.alloc _ _
  have bx := Blk.new w1 56 #[.int .i64 0]
  obtain ⟨xs, hxs⟩ : ∃ x, x = w1.heap.size := ⟨_, rfl⟩
  rw [← hxs] at bx ⊢
  generalize w1.alloc (.cells #[.int .i64 0] 56) = w2 at bx kx ⊢
  have HK2 := Lib.hid (HK1.out.trans kx)
  have HB2 := Lib.hid bx
  clear kx bx hxs HK1
  refine (open_nil_any _ name n w2 hr).mono ?_
  rintro e w3 ⟨rfl, k3⟩
  rw [e1]
  have HK3 := Lib.hid (HK2.out.trans k3)
  have HB3 := Lib.hid (HB2.out.kept k3 id)
  clear k3 HK2 HB2
  go_wp2_with (go_at_call 22; refine (close_nil _ name _).mono ?_; rintro e w' ⟨rfl, rfl⟩)
  go_wp2_with fail
  have kv : Kept (fun _ => False) w3 (w3.alloc (.cells #[.int .i64 1] 2)) := Kept.alloc _ _
  generalize w3.alloc (.cells #[.int .i64 1] 2) = w4 at kv ⊢
  have HK4 := Lib.hid (HK3.out.trans kv)
  have HB4 := Lib.hid (HB3.out.kept kv id)
  clear kv HK3 HB3
  refine (publish_nil _ name _ w4).mono ?_
  rintro e w' ⟨rfl, hw'⟩
  subst hw'
  go_wp2_with fail
  refine (subscribe_nil _ name 0 0 0 w4).mono ?_
  rintro e w5 ⟨rfl, k5⟩
  have HK5 := Lib.hid (HK4.out.trans k5)
  have HB5 := Lib.hid (HB4.out.kept k5 id)
  clear k5 HK4 HB4
  go_wp2_with fail
  refine (follow_nil _ name 0 0 0 0 w5).mono ?_
  rintro e w6 ⟨rfl, k6⟩
  have HK6 := Lib.hid (HK5.out.trans k6)
  have HB6 := Lib.hid (HB5.out.kept k6 id)
  have hs : w6.cell? ⟨xs, 0, none⟩ = some (.int .i64 0) := HB6.out.cell 0
  clear k6 HK5 HB5
  go_wp2_with (go_at_call 24; refine (names_nil _).mono ?_; rintro e w' ⟨rfl, hw'⟩; subst hw')
  have kz : Kept (fun _ => False) w6 (w6.alloc (.cells #[.pointer none] 72)) := Kept.alloc _ _
  have bz := Blk.new w6 72 #[.pointer none]
  obtain ⟨zb, hzb⟩ : ∃ x, x = w6.heap.size := ⟨_, rfl⟩
  have hlt6 := HB6.out.lt
  rw [← hzb] at bz hlt6 ⊢
  generalize w6.alloc (.cells #[.pointer none] 72) = w7 at kz bz ⊢
  have HK7 := Lib.hid (HK6.out.trans kz)
  have HB7 := Lib.hid (HB6.out.kept kz id)
  have HN7 := Lib.hid (And.intro bz (And.intro hzb hlt6))
  have hz0 := HK6.out.size
  have HZ0 := Lib.hid hz0
  clear kz bz hzb hlt6 HK6 HB6 hs hz0
  refine (open_new_any zb name n w7 hr HN7.out.1).mono ?_
  rintro e w8 ⟨rfl, k8, ls, l8, n8⟩
  rw [e2]
  rw [e3] at n8
  have HK8 := Lib.hid (show Kept (fun _ => False) w w8 from HK7.out.later k8 (by rintro b rfl; have := HN7.out.2.1; have := HZ0.out; omega))
  have HB8 := Lib.hid (HB7.out.kept k8 (by have := HN7.out.2.2; omega))
  have HL := Lib.hid (And.intro l8 n8)
  clear k8 l8 n8 HK7 HB7
  go_wp2_with fail
  refine (names_ok zb ls w8 HL.out.1 (by have := HL.out.2; omega)).mono ?_
  rintro e w9 ⟨v9, rfl, o9, k9⟩
  obtain ⟨A9, c9, rfl⟩ := own_slice o9
  rw [HL.out.2] at *
  have HK9 := Lib.hid (HK8.out.trans k9)
  have HB9 := Lib.hid (HB8.out.kept k9 id)
  have hs : w9.cell? ⟨xs, 0, none⟩ = some (.int .i64 0) := HB9.out.cell 0
  clear k9 HK8 HB8 o9
  go_wp2_with (first | (go_at_call 21; refine (poll_nil _ _ _).mono ?_; rintro e w' ⟨rfl, hw'⟩; subst hw') | (go_at_call 18; refine (end_nil _ _).mono ?_; rintro e w' ⟨rfl, hw'⟩; subst hw') | (go_at_call 19; refine (next_nil _).mono ?_; rintro e w' ⟨rfl, hw'⟩; subst hw') | (go_at_call 17; refine (place_nil _).mono ?_; rintro e w' ⟨rfl, hw'⟩; subst hw'))
  go_ret
  exact ⟨rfl, HK9.out⟩
set_option maxHeartbeats 8000000 in
set_option maxRecDepth 100000 in
theorem busNil_high (name n : Int) (w : World) (hT : TabAt w) (hr : -9223372036854775808 ≤ n) (h : 65536 < n) :
    Calls Tryz.prog 6 #[.int .i64 name, .int .i64 n] w fun e w' => e = .returned (.bool true) ∧ Kept (fun _ => False) w w' := by
  have hR : ¬ RightI n := fun z => by have := z.2.1; omega
  have d1 : decide (1 ≤ n) = true := decide_eq_true (by omega)
  have d2 : decide (n ≤ 65536) = false := decide_eq_false (by omega)
  have e1 : (if RightI n then (6 : Int) else 1) = 1 := if_neg hR
  have e2 : (if RightI n then (0 : Int) else 1) = 1 := if_neg hR
  have e3 : (if RightI n then 1 else 0) = 0 := if_neg hR
  clear hR
  have HT := Lib.hid hT
  clear hT
  go_enter Tryz.func6, Tryz.ntmps6
  go_wp2_with fail
  refine (awake_true w HT.out).mono ?_
  rintro e w1 ⟨rfl, k1⟩
  have HK1 := Lib.hid k1
  clear k1
  go_wp2_with fail
  have kx : Kept (fun _ => False) w1 (w1.alloc (.cells #[.int .i64 0] 56)) := Kept.alloc _ _
  have bx := Blk.new w1 56 #[.int .i64 0]
  obtain ⟨xs, hxs⟩ : ∃ x, x = w1.heap.size := ⟨_, rfl⟩
  rw [← hxs] at bx ⊢
  generalize w1.alloc (.cells #[.int .i64 0] 56) = w2 at bx kx ⊢
  have HK2 := Lib.hid (HK1.out.trans kx)
  have HB2 := Lib.hid bx
  clear kx bx hxs HK1
  refine (open_nil_any _ name n w2 hr).mono ?_
  rintro e w3 ⟨rfl, k3⟩
  rw [e1]
  have HK3 := Lib.hid (HK2.out.trans k3)
  have HB3 := Lib.hid (HB2.out.kept k3 id)
  clear k3 HK2 HB2
  go_wp2_with (go_at_call 22; refine (close_nil _ name _).mono ?_; rintro e w' ⟨rfl, rfl⟩)
  go_wp2_with fail
  have kv : Kept (fun _ => False) w3 (w3.alloc (.cells #[.int .i64 1] 2)) := Kept.alloc _ _
  generalize w3.alloc (.cells #[.int .i64 1] 2) = w4 at kv ⊢
  have HK4 := Lib.hid (HK3.out.trans kv)
  have HB4 := Lib.hid (HB3.out.kept kv id)
  clear kv HK3 HB3
  refine (publish_nil _ name _ w4).mono ?_
  rintro e w' ⟨rfl, hw'⟩
  subst hw'
  go_wp2_with fail
  refine (subscribe_nil _ name 0 0 0 w4).mono ?_
  rintro e w5 ⟨rfl, k5⟩
  have HK5 := Lib.hid (HK4.out.trans k5)
  have HB5 := Lib.hid (HB4.out.kept k5 id)
  clear k5 HK4 HB4
  go_wp2_with fail
  refine (follow_nil _ name 0 0 0 0 w5).mono ?_
  rintro e w6 ⟨rfl, k6⟩
  have HK6 := Lib.hid (HK5.out.trans k6)
  have HB6 := Lib.hid (HB5.out.kept k6 id)
  have hs : w6.cell? ⟨xs, 0, none⟩ = some (.int .i64 0) := HB6.out.cell 0
  clear k6 HK5 HB5
  go_wp2_with (go_at_call 24; refine (names_nil _).mono ?_; rintro e w' ⟨rfl, hw'⟩; subst hw')
  have kz : Kept (fun _ => False) w6 (w6.alloc (.cells #[.pointer none] 72)) := Kept.alloc _ _
  have bz := Blk.new w6 72 #[.pointer none]
  obtain ⟨zb, hzb⟩ : ∃ x, x = w6.heap.size := ⟨_, rfl⟩
  have hlt6 := HB6.out.lt
  rw [← hzb] at bz hlt6 ⊢
  generalize w6.alloc (.cells #[.pointer none] 72) = w7 at kz bz ⊢
  have HK7 := Lib.hid (HK6.out.trans kz)
  have HB7 := Lib.hid (HB6.out.kept kz id)
  have HN7 := Lib.hid (And.intro bz (And.intro hzb hlt6))
  have hz0 := HK6.out.size
  have HZ0 := Lib.hid hz0
  clear kz bz hzb hlt6 HK6 HB6 hs hz0
  refine (open_new_any zb name n w7 hr HN7.out.1).mono ?_
  rintro e w8 ⟨rfl, k8, ls, l8, n8⟩
  rw [e2]
  rw [e3] at n8
  have HK8 := Lib.hid (show Kept (fun _ => False) w w8 from HK7.out.later k8 (by rintro b rfl; have := HN7.out.2.1; have := HZ0.out; omega))
  have HB8 := Lib.hid (HB7.out.kept k8 (by have := HN7.out.2.2; omega))
  have HL := Lib.hid (And.intro l8 n8)
  clear k8 l8 n8 HK7 HB7
  go_wp2_with fail
  refine (names_ok zb ls w8 HL.out.1 (by have := HL.out.2; omega)).mono ?_
  rintro e w9 ⟨v9, rfl, o9, k9⟩
  obtain ⟨A9, c9, rfl⟩ := own_slice o9
  rw [HL.out.2] at *
  have HK9 := Lib.hid (HK8.out.trans k9)
  have HB9 := Lib.hid (HB8.out.kept k9 id)
  have hs : w9.cell? ⟨xs, 0, none⟩ = some (.int .i64 0) := HB9.out.cell 0
  clear k9 HK8 HB8 o9
  go_wp2_with (first | (go_at_call 21; refine (poll_nil _ _ _).mono ?_; rintro e w' ⟨rfl, hw'⟩; subst hw') | (go_at_call 18; refine (end_nil _ _).mono ?_; rintro e w' ⟨rfl, hw'⟩; subst hw') | (go_at_call 19; refine (next_nil _).mono ?_; rintro e w' ⟨rfl, hw'⟩; subst hw') | (go_at_call 17; refine (place_nil _).mono ?_; rintro e w' ⟨rfl, hw'⟩; subst hw'))
  go_ret
  exact ⟨rfl, HK9.out⟩
set_option maxHeartbeats 8000000 in
set_option maxRecDepth 100000 in
theorem busNil_odd (name n : Int) (w : World) (hT : TabAt w) (hr : -9223372036854775808 ≤ n) (r1 : 1 ≤ n) (r2 : n ≤ 65536) (hR : ¬ RightI n) :
    Calls Tryz.prog 6 #[.int .i64 name, .int .i64 n] w fun e w' => e = .returned (.bool true) ∧ Kept (fun _ => False) w w' := by
  have d1 : decide (1 ≤ n) = true := decide_eq_true r1
  have d2 : decide (n ≤ 65536) = true := decide_eq_true r2
  have d3 : (bits BinOp.and IntKind.i64 n (n - 1) == 0) = false := by
    cases hb : (bits BinOp.and IntKind.i64 n (n - 1) == 0) with
    | false => rfl
    | true => exact absurd ⟨r1, r2, by simpa using hb⟩ hR
  have e1 : (if RightI n then (6 : Int) else 1) = 1 := if_neg hR
  have e2 : (if RightI n then (0 : Int) else 1) = 1 := if_neg hR
  have e3 : (if RightI n then 1 else 0) = 0 := if_neg hR
  clear hR
  have HT := Lib.hid hT
  clear hT
  go_enter Tryz.func6, Tryz.ntmps6
  go_wp2_with fail
  refine (awake_true w HT.out).mono ?_
  rintro e w1 ⟨rfl, k1⟩
  have HK1 := Lib.hid k1
  clear k1
  go_wp2_with fail
  have kx : Kept (fun _ => False) w1 (w1.alloc (.cells #[.int .i64 0] 56)) := Kept.alloc _ _
  have bx := Blk.new w1 56 #[.int .i64 0]
  obtain ⟨xs, hxs⟩ : ∃ x, x = w1.heap.size := ⟨_, rfl⟩
  rw [← hxs] at bx ⊢
  generalize w1.alloc (.cells #[.int .i64 0] 56) = w2 at bx kx ⊢
  have HK2 := Lib.hid (HK1.out.trans kx)
  have HB2 := Lib.hid bx
  clear kx bx hxs HK1
  refine (open_nil_any _ name n w2 hr).mono ?_
  rintro e w3 ⟨rfl, k3⟩
  rw [e1]
  have HK3 := Lib.hid (HK2.out.trans k3)
  have HB3 := Lib.hid (HB2.out.kept k3 id)
  clear k3 HK2 HB2
  go_wp2_with (go_at_call 22; refine (close_nil _ name _).mono ?_; rintro e w' ⟨rfl, rfl⟩)
  go_wp2_with fail
  have kv : Kept (fun _ => False) w3 (w3.alloc (.cells #[.int .i64 1] 2)) := Kept.alloc _ _
  generalize w3.alloc (.cells #[.int .i64 1] 2) = w4 at kv ⊢
  have HK4 := Lib.hid (HK3.out.trans kv)
  have HB4 := Lib.hid (HB3.out.kept kv id)
  clear kv HK3 HB3
  refine (publish_nil _ name _ w4).mono ?_
  rintro e w' ⟨rfl, hw'⟩
  subst hw'
  go_wp2_with fail
  refine (subscribe_nil _ name 0 0 0 w4).mono ?_
  rintro e w5 ⟨rfl, k5⟩
  have HK5 := Lib.hid (HK4.out.trans k5)
  have HB5 := Lib.hid (HB4.out.kept k5 id)
  clear k5 HK4 HB4
  go_wp2_with fail
  refine (follow_nil _ name 0 0 0 0 w5).mono ?_
  rintro e w6 ⟨rfl, k6⟩
  have HK6 := Lib.hid (HK5.out.trans k6)
  have HB6 := Lib.hid (HB5.out.kept k6 id)
  have hs : w6.cell? ⟨xs, 0, none⟩ = some (.int .i64 0) := HB6.out.cell 0
  clear k6 HK5 HB5
  go_wp2_with (go_at_call 24; refine (names_nil _).mono ?_; rintro e w' ⟨rfl, hw'⟩; subst hw')
  have kz : Kept (fun _ => False) w6 (w6.alloc (.cells #[.pointer none] 72)) := Kept.alloc _ _
  have bz := Blk.new w6 72 #[.pointer none]
  obtain ⟨zb, hzb⟩ : ∃ x, x = w6.heap.size := ⟨_, rfl⟩
  have hlt6 := HB6.out.lt
  rw [← hzb] at bz hlt6 ⊢
  generalize w6.alloc (.cells #[.pointer none] 72) = w7 at kz bz ⊢
  have HK7 := Lib.hid (HK6.out.trans kz)
  have HB7 := Lib.hid (HB6.out.kept kz id)
  have HN7 := Lib.hid (And.intro bz (And.intro hzb hlt6))
  have hz0 := HK6.out.size
  have HZ0 := Lib.hid hz0
  clear kz bz hzb hlt6 HK6 HB6 hs hz0
  refine (open_new_any zb name n w7 hr HN7.out.1).mono ?_
  rintro e w8 ⟨rfl, k8, ls, l8, n8⟩
  rw [e2]
  rw [e3] at n8
  have HK8 := Lib.hid (show Kept (fun _ => False) w w8 from HK7.out.later k8 (by rintro b rfl; have := HN7.out.2.1; have := HZ0.out; omega))
  have HB8 := Lib.hid (HB7.out.kept k8 (by have := HN7.out.2.2; omega))
  have HL := Lib.hid (And.intro l8 n8)
  clear k8 l8 n8 HK7 HB7
  go_wp2_with fail
  refine (names_ok zb ls w8 HL.out.1 (by have := HL.out.2; omega)).mono ?_
  rintro e w9 ⟨v9, rfl, o9, k9⟩
  obtain ⟨A9, c9, rfl⟩ := own_slice o9
  rw [HL.out.2] at *
  have HK9 := Lib.hid (HK8.out.trans k9)
  have HB9 := Lib.hid (HB8.out.kept k9 id)
  have hs : w9.cell? ⟨xs, 0, none⟩ = some (.int .i64 0) := HB9.out.cell 0
  clear k9 HK8 HB8 o9
  go_wp2_with (first | (go_at_call 21; refine (poll_nil _ _ _).mono ?_; rintro e w' ⟨rfl, hw'⟩; subst hw') | (go_at_call 18; refine (end_nil _ _).mono ?_; rintro e w' ⟨rfl, hw'⟩; subst hw') | (go_at_call 19; refine (next_nil _).mono ?_; rintro e w' ⟨rfl, hw'⟩; subst hw') | (go_at_call 17; refine (place_nil _).mono ?_; rintro e w' ⟨rfl, hw'⟩; subst hw'))
  go_ret
  exact ⟨rfl, HK9.out⟩
theorem busNil_true (name n : Int) (w : World) (hT : TabAt w) (hr : -9223372036854775808 ≤ n) :
    Calls Tryz.prog 6 #[.int .i64 name, .int .i64 n] w fun e w' => e = .returned (.bool true) ∧ Kept (fun _ => False) w w' := by
  by_cases hR : RightI n
  · exact busNil_good name n w hT hr hR
  by_cases h1 : n < 1
  · exact busNil_low name n w hT hr h1
  by_cases h2 : 65536 < n
  · exact busNil_high name n w hT hr h2
  exact busNil_odd name n w hT hr (by omega) (by omega) hR
end Go.Proofs.YtbmjmamodnapiaaGreatDoor
