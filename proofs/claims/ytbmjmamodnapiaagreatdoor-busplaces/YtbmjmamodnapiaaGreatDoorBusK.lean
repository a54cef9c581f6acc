/- DERIVED. A topic not opened (package bus: Open), lone. -/
import Derived.Test.YtbmjmamodnapiaaGreatDoorBusJ
namespace Go.Proofs.YtbmjmamodnapiaaGreatDoor
open Go.RowKit
set_option linter.unusedVariables false
/-- A ring's size. -/
def RightI (n : Int) : Prop := 1 ≤ n ∧ n ≤ 65536 ∧ (bits BinOp.and IntKind.i64 n (n - 1) != 0) = false
instance (n : Int) : Decidable (RightI n) := by unfold RightI; exact inferInstance
theorem new_bad (n : Int) (w : World) (h : ¬ RightI n) (hr : -9223372036854775808 ≤ n) : Calls Tryz.prog 48 #[.int .i64 n] w fun e w' => e = .returned (.tuple #[.pointer none, .int .i64 1]) ∧ w = w' := by
  by_cases h1 : n < 1
  · have d1 : decide (n < 1) = true := by simpa using h1
    clear h
    go_enter Tryz.func48, Tryz.ntmps48
    go_wp2
    go_ret2
    exact ⟨rfl, rfl⟩
  · have d1 : decide (n < 1) = false := by simpa using h1
    by_cases h2 : 65536 < n
    · have d2 : decide (65536 < n) = true := by simpa using h2
      clear h
      go_enter Tryz.func48, Tryz.ntmps48
      go_wp2
      go_ret2
      exact ⟨rfl, rfl⟩
    · have d2 : decide (65536 < n) = false := by simpa using h2
      have d3 : (bits BinOp.and IntKind.i64 n (n - 1) != 0) = true := by
        cases hb : (bits BinOp.and IntKind.i64 n (n - 1) != 0) with
        | true => rfl
        | false => exact absurd ⟨by omega, by omega, hb⟩ h
      clear h
      go_enter Tryz.func48, Tryz.ntmps48
      go_wp2
      go_ret2
      exact ⟨rfl, rfl⟩
theorem multi_bad (n : Int) (w : World) (h : ¬ RightI n) (hr : -9223372036854775808 ≤ n) : Calls Tryz.prog 26 #[.int .i64 n, .int .i64 0] w fun e w' => e = .returned (.tuple #[.pointer none, .int .i64 1]) ∧ w = w' := by
  have HH := Lib.hid (And.intro h hr)
  clear h hr
  go_enter Tryz.func26, Tryz.ntmps26
  go_wp2_with (go_at_call 48; refine (new_bad n _ HH.out.1 HH.out.2).mono ?_; rintro e w' ⟨rfl, rfl⟩)
  go_ret2
  exact ⟨rfl, rfl⟩
/-- A topic of no right size: whatever the bus. -/
theorem open_bad (p : Option Addr) (s : Value) (name n : Int) (w : World) (h : ¬ RightI n) (hr : -9223372036854775808 ≤ n) : Calls Tryz.prog 15 #[.pointer p, s, .int .i64 name, .int .i64 n] w fun e w' => e = .returned (.int .i64 1) ∧ w = w' := by
  have HH := Lib.hid (And.intro h hr)
  clear h hr
  go_enter Tryz.func15, Tryz.ntmps15
  go_wp2_with (go_at_call 26; refine (multi_bad n _ HH.out.1 HH.out.2).mono ?_; rintro e w' ⟨rfl, rfl⟩)
  go_ret
  exact ⟨rfl, rfl⟩
/-- No bus. -/
theorem open_nil (s : Value) (name : Int) (n : Nat) (w : World) (hn : 0 < n) (h2 : n ≤ 65536) (hb : (bits BinOp.and IntKind.i64 (n : Int) ((n : Int) - 1) != 0) = false) : Calls Tryz.prog 15 #[.pointer none, s, .int .i64 name, .int .i64 n] w fun e w' => e = .returned (.int .i64 6) ∧ Kept (fun _ => False) w w' := by
  have HB := Lib.hid hb
  clear hb
  go_enter Tryz.func15, Tryz.ntmps15
  go_wp2_with fail
  refine (multi_new n w hn h2 HB.out).mono ?_
  rintro e w1 ⟨rfl, m1, m2, m3, m4, m5, m6⟩
  have HM := Lib.hid m5
  clear m1 m2 m3 m4 m5 m6
  go_wp2
  go_ret
  exact ⟨rfl, HM.out⟩
set_option maxHeartbeats 4000000 in
set_option maxRecDepth 100000 in
/-- A name that there is already. -/
theorem open_there (b : Nat) (ls : List (Int × Nat)) (name : Int) (n T : Nat) (w : World) (hn : 0 < n) (h2 : n ≤ 65536) (hb : (bits BinOp.and IntKind.i64 (n : Int) ((n : Int) - 1) != 0) = false) (hB : BusAt w b ls) (hl : lookT ls name = some ⟨T, 0, none⟩) :
    Calls Tryz.prog 15 #[.pointer (some ⟨b, 0, none⟩), .nilIface, .int .i64 name, .int .i64 n] w fun e w' => e = .returned (.int .i64 7) ∧ Kept (fun _ => False) w w' := by
  have HB := Lib.hid (And.intro hb (And.intro hB hl))
  clear hb hB hl
  go_enter Tryz.func15, Tryz.ntmps15
  go_wp2_with fail
  refine (multi_new n w hn h2 HB.out.1).mono ?_
  rintro e w1 ⟨rfl, m1, m2, m3, m4, m5, m6⟩
  have HM := Lib.hid m5
  clear m1 m2 m3 m4 m5 m6
  go_wp2_with fail
  refine (bits_new64 w1).mono ?_
  rintro e w2 ⟨rfl, p1, p2, p3, p4⟩
  have HP := Lib.hid (HM.out.trans p3)
  clear p1 p2 p3 p4
  go_wp2_with fail
  refine (gate_new w2).mono ?_
  rintro e w3 ⟨rfl, g1, g2, g3⟩
  have HG := Lib.hid (HP.out.trans g2)
  clear g1 g2 g3
  go_wp2_with fail
  have hal := HG.out.trans (Kept.alloc (S := fun _ => False) w3 (.cells #[.int .i64 name, .pointer (some ⟨w.heap.size + 4, 0, none⟩), .pointer (some ⟨w2.heap.size, 0, none⟩), .pointer (some ⟨w1.heap.size + 1, 0, none⟩), .int .u32 0] 93))
  generalize w3.alloc (.cells #[.int .i64 name, .pointer (some ⟨w.heap.size + 4, 0, none⟩), .pointer (some ⟨w2.heap.size, 0, none⟩), .pointer (some ⟨w1.heap.size + 1, 0, none⟩), .int .u32 0] 93) = w4 at hal ⊢
  have HA := Lib.hid hal
  clear hal
  go_loopw [14] (fun _ wr => wr = w4) (fun _ _ => 0)
  case atStart => trivial
  case round =>
    subst hrel
    obtain ⟨p, v, hb1, hb2, hb3⟩ := HB.out.2.1.keep HA.out
    have c0 : wr.cell? ⟨b, 0, none⟩ = some (.pointer p) := hb1.cell 0
    have HV := Lib.hid (And.intro hb2 hb3)
    clear hb1 hb2 hb3
    go_wp2_with fail
    refine (box_load_tp _ p _ c0 HV.out.1.held).mono ?_
    rintro e w5 ⟨rfl, k5⟩
    have H5 := Lib.hid k5
    clear k5 c0
    go_wp2_with fail
    have ha : Kept (fun _ => False) w5 (w5.alloc (.cells #[.pointer p, .pointer (some ⟨b, 0, none⟩)] 96)) := Kept.alloc _ _
    generalize w5.alloc (.cells #[.pointer p, .pointer (some ⟨b, 0, none⟩)] 96) = w6 at *
    have H6 := Lib.hid (H5.out.trans ha)
    clear ha H5
    refine (held_value_tp (some ⟨b, 0, none⟩) p v _ (HV.out.1.kept H6.out)).mono ?_
    rintro e w7 ⟨rfl, k7⟩
    have H7 := Lib.hid (H6.out.trans k7)
    clear k7 H6
    go_wp2_with fail
    refine (among_ok v ls name _ (HV.out.2.keep H7.out)).mono ?_
    rintro e w8 ⟨rfl, rfl⟩
    rw [HB.out.2.2]
    go_wp2
    go_ret
    exact ⟨rfl, HA.out.trans H7.out⟩
end Go.Proofs.YtbmjmamodnapiaaGreatDoor
