/- DERIVED. The law BusPacks, walked (package carillonlaw19). -/
import Derived.Test.YtbmjmamodnapiaaGreatDoorBusPack
namespace Go.Proofs.YtbmjmamodnapiaaGreatDoor
open Go.RowKit
set_option linter.unusedVariables false
set_option maxHeartbeats 8000000 in
set_option maxRecDepth 100000 in
theorem packs_true (W N X v : Int) (w : World) (hT : TabAt w) (hX : -9223372036854775808 ≤ X ∧ X ≤ 9223372036854775807) :
    Calls Tryz.prog 4 #[.agg #[.int .i64 W, .int .i64 N, .int .i64 X], .int .i64 v] w fun e w' => e = .returned (.bool true) ∧ Kept (fun _ => False) w w' := by
  have HT := Lib.hid hT
  have HX := Lib.hid hX
  clear hT hX
  go_enter Tryz.func4, Tryz.ntmps4
  go_wp2_with fail
  have bx := Blk.new w 30 #[.int .i64 W, .int .i64 N, .int .i64 X]
  have kx : Kept (fun _ => False) w (w.alloc (.cells #[.int .i64 W, .int .i64 N, .int .i64 X] 30)) := Kept.alloc _ _
  obtain ⟨xi, hxf⟩ : ∃ x, x = w.heap.size := ⟨_, rfl⟩
  rw [← hxf] at bx ⊢
  generalize w.alloc (.cells #[.int .i64 W, .int .i64 N, .int .i64 X] 30) = wa at bx kx ⊢
  clear hxf
  have HI := Lib.hid bx
  have HK := Lib.hid kx
  clear bx kx
  refine (awake_true wa (HT.out.kept HK.out id)).mono ?_
  rintro e w1 ⟨rfl, k1⟩
  have HI1 := Lib.hid (HI.out.kept k1 id)
  have HK1 := Lib.hid (HK.out.trans k1)
  clear k1 HI HK
  have c0 := HI1.out.cell 0
  have c1 := HI1.out.cell 1
  have c2 := HI1.out.cell 2
  simp only [List.getElem?_toArray, List.getElem?_cons_zero, List.getElem?_cons_succ] at c0 c1 c2
  go_wp2_with fail
  refine (pack_bus W N X w1 HX.out).mono ?_
  rintro e w2 ⟨rfl, k2⟩
  have HI2 := Lib.hid (HI1.out.kept k2 id)
  have HK2 := Lib.hid (HK1.out.trans k2)
  clear k2 HI1 HK1 c0 c1 c2
  have c0 := HI2.out.cell 0
  have c1 := HI2.out.cell 1
  have c2 := HI2.out.cell 2
  simp only [List.getElem?_toArray, List.getElem?_cons_zero, List.getElem?_cons_succ] at c0 c1 c2
  go_wp2_with fail
  refine (pack_ref W N X w2 HX.out).mono ?_
  rintro e w3 ⟨rfl, k3⟩
  have HI3 := Lib.hid (HI2.out.kept k3 id)
  have HK3 := Lib.hid (HK2.out.trans k3)
  clear k3 HI2 HK2 c0 c1 c2
  go_wp2_with fail
  refine (unpack_bus v w3).mono ?_
  rintro e w4 ⟨rfl, k4⟩
  have HI4 := Lib.hid (HI3.out.kept k4 id)
  have HK4 := Lib.hid (HK3.out.trans k4)
  clear k4 HI3 HK3
  go_wp2_with fail
  have bx := Blk.new w4 30 #[.int .i64 (itW v), .int .i64 (itN v), .int .i64 (itX v)]
  have kx : Kept (fun _ => False) w4 (w4.alloc (.cells #[.int .i64 (itW v), .int .i64 (itN v), .int .i64 (itX v)] 30)) := Kept.alloc _ _
  obtain ⟨xa, hxf⟩ : ∃ x, x = w4.heap.size := ⟨_, rfl⟩
  rw [← hxf] at bx ⊢
  generalize w4.alloc (.cells #[.int .i64 (itW v), .int .i64 (itN v), .int .i64 (itX v)] 30) = wb at bx kx ⊢
  clear hxf
  have HI5 := Lib.hid (HI4.out.kept kx id)
  have HK5 := Lib.hid (HK4.out.trans kx)
  have HA := Lib.hid bx
  clear kx bx HI4 HK4
  refine (unpack_ref v wb).mono ?_
  rintro e w6 ⟨rfl, k6⟩
  have HI6 := Lib.hid (HI5.out.kept k6 id)
  have HK6 := Lib.hid (HK5.out.trans k6)
  have HA6 := Lib.hid (HA.out.kept k6 id)
  clear k6 HI5 HK5 HA
  have kx : Kept (fun _ => False) w6 (w6.alloc (.cells #[.int .i64 (itW v), .int .i64 (itN v), .int .i64 (itX v)] 30)) := Kept.alloc _ _
  have bx := Blk.new w6 30 #[.int .i64 (itW v), .int .i64 (itN v), .int .i64 (itX v)]
  have a0 := (HA6.out.kept kx id).cell 0
  have a1 := (HA6.out.kept kx id).cell 1
  have a2 := (HA6.out.kept kx id).cell 2
  have b0 := bx.cell 0
  have b1 := bx.cell 1
  have b2 := bx.cell 2
  simp only [List.getElem?_toArray, List.getElem?_cons_zero, List.getElem?_cons_succ] at a0 a1 a2 b0 b1 b2
  have HI7 := Lib.hid (HI6.out.kept kx id)
  have HK7 := Lib.hid (HK6.out.trans kx)
  have HA7 := Lib.hid (HA6.out.kept kx id)
  clear kx bx HI6 HK6 HA6
  have kx : Kept (fun _ => False) w6 (w6.alloc (.cells #[.int .i64 (itW v), .int .i64 (itN v), .int .i64 (itX v)] 30)) := Kept.alloc _ _
  cases hP : okP W N X with
  | true =>
    have hpE : pkE W N X = 0 := by simp [pkE, hP]
    rw [hpE]
    clear hpE
    obtain ⟨u1, u2, u3, u4, u5⟩ := unpack_pack hP
    have hun := unpack_bus (pkV W N X) (w6.alloc (.cells #[.int .i64 (itW v), .int .i64 (itN v), .int .i64 (itX v)] 30))
    rw [u1, u2, u3, u4] at hun
    have hd : decide (pkV W N X < 0) = false := decide_eq_false (by omega)
    clear u1 u2 u3 u4 u5 hP
    have HU := Lib.hid hun
    clear hun
    generalize pkV W N X = pv at *
    cases hv : okI v with
    | true =>
      have hvE : unE v = 0 := by simp [unE, hv]
      rw [hvE]
      go_wp2_with fail
      refine HU.out.mono ?_
      rintro e w8 ⟨rfl, k8⟩
      have ky : Kept (fun _ => False) w8 (w8.alloc (.cells #[.int .i64 W, .int .i64 N, .int .i64 X] 30)) := Kept.alloc _ _
      have by_ := Blk.new w8 30 #[.int .i64 W, .int .i64 N, .int .i64 X]
      have HI9 := Lib.hid ((HI7.out.kept k8 id).kept ky id)
      have HA9 := Lib.hid ((HA7.out.kept k8 id).kept ky id)
      have HK9 := Lib.hid ((HK7.out.trans k8).trans ky)
      clear a0 a1 a2 b0 b1 b2 kx
      have a0 := HA9.out.cell 0
      have a1 := HA9.out.cell 1
      have a2 := HA9.out.cell 2
      have b0 := by_.cell 0
      have b1 := by_.cell 1
      have b2 := by_.cell 2
      have i0 := HI9.out.cell 0
      have i1 := HI9.out.cell 1
      have i2 := HI9.out.cell 2
      simp only [List.getElem?_toArray, List.getElem?_cons_zero, List.getElem?_cons_succ] at a0 a1 a2 b0 b1 b2 i0 i1 i2
      clear k8 ky by_ HI7 HK7 HA7
      obtain ⟨p1, p2⟩ := pack_unpack hv
      have p3 := (okP_iff _ _ _).1 p1
      have hpk := pack_bus (itW v) (itN v) (itX v)
      rw [p2, show pkE (itW v) (itN v) (itX v) = 0 from by simp [pkE, p1]] at hpk
      have HP := Lib.hid (fun w => hpk w (by omega))
      clear p1 p2 p3 hpk hv hvE
      go_wp2_with fail
      refine (HP.out _).mono ?_
      rintro e wz ⟨rfl, kz⟩
      have HZ := Lib.hid (HK9.out.trans kz)
      clear kz
      go_wp2
      go_ret
      exact ⟨rfl, HZ.out⟩
    | false =>
      have hvE : unE v = 1 := by simp [unE, hv]
      rw [hvE]
      go_wp2_with fail
      refine HU.out.mono ?_
      rintro e w8 ⟨rfl, k8⟩
      have ky : Kept (fun _ => False) w8 (w8.alloc (.cells #[.int .i64 W, .int .i64 N, .int .i64 X] 30)) := Kept.alloc _ _
      have by_ := Blk.new w8 30 #[.int .i64 W, .int .i64 N, .int .i64 X]
      have HI9 := Lib.hid ((HI7.out.kept k8 id).kept ky id)
      have HA9 := Lib.hid ((HA7.out.kept k8 id).kept ky id)
      have HK9 := Lib.hid ((HK7.out.trans k8).trans ky)
      clear a0 a1 a2 b0 b1 b2 kx
      have a0 := HA9.out.cell 0
      have a1 := HA9.out.cell 1
      have a2 := HA9.out.cell 2
      have b0 := by_.cell 0
      have b1 := by_.cell 1
      have b2 := by_.cell 2
      have i0 := HI9.out.cell 0
      have i1 := HI9.out.cell 1
      have i2 := HI9.out.cell 2
      simp only [List.getElem?_toArray, List.getElem?_cons_zero, List.getElem?_cons_succ] at a0 a1 a2 b0 b1 b2 i0 i1 i2
      clear k8 ky by_ HI7 HK7 HA7
      by_cases h0 : v < 0
      · have d1 : decide (v < 0) = true := decide_eq_true h0
        clear hv hvE h0
        go_wp2
        go_ret
        exact ⟨rfl, HK9.out⟩
      · have d1 : decide (v < 0) = false := decide_eq_false h0
        have d2 : decide (4611686018427387904 ≤ v) = true := by
          simp only [okI, Bool.and_eq_false_iff, decide_eq_false_iff_not] at hv
          exact decide_eq_true (by omega)
        clear hv hvE h0
        go_wp2
        go_ret
        exact ⟨rfl, HK9.out⟩
  | false =>
    have hpE : pkE W N X = 1 := by simp [pkE, hP]
    rw [hpE]
    clear hpE hP
    generalize pkV W N X = pv at *
    cases hv : okI v with
    | true =>
      have hvE : unE v = 0 := by simp [unE, hv]
      rw [hvE]
      obtain ⟨p1, p2⟩ := pack_unpack hv
      have p3 := (okP_iff _ _ _).1 p1
      have hpk := pack_bus (itW v) (itN v) (itX v)
      rw [p2, show pkE (itW v) (itN v) (itX v) = 0 from by simp [pkE, p1]] at hpk
      have HP := Lib.hid (fun w => hpk w (by omega))
      clear p1 p2 p3 hpk hv hvE
      go_wp2_with fail
      refine (HP.out _).mono ?_
      rintro e wz ⟨rfl, kz⟩
      have HZ := Lib.hid (HK7.out.trans kz)
      clear kz
      go_wp2
      go_ret
      exact ⟨rfl, HZ.out⟩
    | false =>
      have hvE : unE v = 1 := by simp [unE, hv]
      rw [hvE]
      by_cases h0 : v < 0
      · have d1 : decide (v < 0) = true := decide_eq_true h0
        clear hv hvE h0
        go_wp2
        go_ret
        exact ⟨rfl, HK7.out⟩
      · have d1 : decide (v < 0) = false := decide_eq_false h0
        have d2 : decide (4611686018427387904 ≤ v) = true := by
          simp only [okI, Bool.and_eq_false_iff, decide_eq_false_iff_not] at hv
          exact decide_eq_true (by omega)
        clear hv hvE h0
        go_wp2
        go_ret
        exact ⟨rfl, HK7.out⟩
end Go.Proofs.YtbmjmamodnapiaaGreatDoor
