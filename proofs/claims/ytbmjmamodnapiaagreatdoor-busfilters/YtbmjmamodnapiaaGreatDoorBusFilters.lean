/- DERIVED. The law BusFilters, walked (package carillonlaw19). -/
import Derived.Test.YtbmjmamodnapiaaGreatDoorBusS
namespace Go.Proofs.YtbmjmamodnapiaaGreatDoor
open Go.RowKit
set_option linter.unusedVariables false
set_option maxHeartbeats 4000000 in
set_option maxRecDepth 100000 in
theorem filters_true (kd a b q v : Int) (w : World) (hT : TabAt w) (hq0 : -9223372036854775808 ≤ q) (hq1 : q ≤ 9223372036854775807) (ha1 : a ≤ 9223372036854775807) :
    Calls Tryz.prog 3 #[.agg #[.int .i64 kd, .int .i64 a, .int .i64 b], .int .i64 q, .int .i64 v] w fun e w' => e = .returned (.bool true) ∧ Kept (fun _ => False) w w' := by
  have HT := Lib.hid hT
  have HB := Lib.hid (And.intro hq0 (And.intro hq1 ha1))
  clear hT hq0 hq1 ha1
  go_enter Tryz.func3, Tryz.ntmps3
  go_wp2_with fail
  rename_i K0 hK0
  have hbf := Blk.new w 24 #[.int .i64 kd, .int .i64 a, .int .i64 b]
  have hkf : Kept (fun _ => False) w (w.alloc (.cells #[.int .i64 kd, .int .i64 a, .int .i64 b] 24)) := Kept.alloc _ _
  obtain ⟨xf, hxf⟩ : ∃ x, x = w.heap.size := ⟨_, rfl⟩
  rw [← hxf] at hbf ⊢
  generalize w.alloc (.cells #[.int .i64 kd, .int .i64 a, .int .i64 b] 24) = wa at hbf hkf ⊢
  clear hxf
  refine strictL ?_
  refine wp_region_held (S := Kept (fun _ => False) wa) (by kernel_rfl) ?_
  simp only [List.size_toArray, List.length_cons, List.length_nil, Nat.reduceAdd]
  have hkd : Kept (fun _ => False) wa { wa with drawn := wa.drawn + 1 } := Kept.drew wa
  generalize ({ wa with drawn := wa.drawn + 1 } : World) = wd at hkd ⊢
  have HA := Lib.hid (And.intro hbf (And.intro hkf hkd))
  clear hbf hkf hkd
  refine oneL (i := 0) (fuel := 17) (by kernel_rfl) rfl rfl fun K' hK' => ?_
  unfold Oper.wp
  go_simp
  refine (awake_true wd ((HT.out.kept HA.out.2.1 id).kept HA.out.2.2 id)).mono ?_
  rintro e w1 ⟨rfl, k1⟩
  dsimp only
  have HW1 := Lib.hid (HA.out.2.2.trans k1)
  clear k1
  refine hK' _ _ HW1.out ?_
  clear hK' K'
  iterate 12
    first
    | refine rdL 1 16 8 ?_
    | refine rdL 2 15 9 ?_
    | refine rdL 3 14 10 ?_
    | refine rdL 4 13 11 ?_
    | refine rdL 6 12 13 ?_
    | refine rdL 7 11 14 ?_
    | refine rdL 8 10 15 ?_
    | refine rdL 9 9 16 ?_
    | refine rdL 10 8 17 ?_
    | refine rdL 11 7 18 ?_
    | refine rdL 12 6 19 ?_
    | refine rdL 13 5 20 ?_
    refine ⟨_, rfl, rfl, by kernel_rfl, by kernel_rfl, by kernel_rfl, (fun c a w h => by cases h.1), rfl, HW1.out, ?_⟩
    apply Exists.intro
    refine ⟨fun wq hw => ?_, ?_⟩
    · have hb := HA.out.1.kept hw id
      have c0 : wq.cell? ⟨xf, 0, none⟩ = some (.int .i64 kd) := hb.cell 0
      have c1 : wq.cell? ⟨xf, 1, none⟩ = some (.int .i64 a) := hb.cell 1
      have c2 : wq.cell? ⟨xf, 2, none⟩ = some (.int .i64 b) := hb.cell 2
      clear hb
      go_simp
      rfl
    simp only [Act.put, List.setIfInBounds_toArray, List.set_cons_zero, List.set_cons_succ]
  refine oneL (i := 5) (fuel := 4) (by kernel_rfl) rfl rfl fun K' hK' => ?_
  unfold Oper.wp
  go_simp
  refine (lets_ok kd a b q v w1 HB.out.1 HB.out.2.1 HB.out.2.2).mono ?_
  rintro e w2 ⟨rfl, k2⟩
  dsimp only
  have HW2 := Lib.hid (HW1.out.trans k2)
  clear k2
  refine hK' _ _ HW2.out ?_
  clear hK' K'
  refine oneL (i := 14) (fuel := 3) (by kernel_rfl) rfl rfl fun K' hK' => ?_
  unfold Oper.wp
  go_simp
  refine (lets_ref kd a b q v w2 HB.out.1 HB.out.2.1 HB.out.2.2).mono ?_
  rintro e w3 ⟨rfl, k3⟩
  dsimp only
  have HW3 := Lib.hid (HW2.out.trans k3)
  clear k3
  refine hK' _ _ HW3.out ?_
  clear hK' K'
  generalize letsB kd a b q v = B
  iterate 2
    first
    | refine rdL 15 2 22 ?_
    | refine rdL 16 1 23 ?_
    refine ⟨_, rfl, rfl, by kernel_rfl, by kernel_rfl, by kernel_rfl, (fun c a w h => by cases h.1), rfl, HW3.out, ?_⟩
    apply Exists.intro
    refine ⟨fun wq hw => ?_, ?_⟩
    · go_simp
      rfl
    simp only [Act.put, List.setIfInBounds_toArray, List.set_cons_zero, List.set_cons_succ]
  refine oneL (i := 17) (fuel := 0) (by kernel_rfl) rfl rfl fun K' hK' => ?_
  unfold Oper.wp
  go_simp
  refine hK' _ _ HW3.out ?_
  clear hK' K'
  refine wpAnyH_done (by kernel_rfl) ⟨rfl, ?_⟩ _
  refine hK0 _ _ ?_
  go_wp2
  go_ret
  exact ⟨rfl, HA.out.2.1.trans HW3.out⟩
end Go.Proofs.YtbmjmamodnapiaaGreatDoor
