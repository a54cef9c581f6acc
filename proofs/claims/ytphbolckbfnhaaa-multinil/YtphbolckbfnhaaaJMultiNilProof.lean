/-
  The claim MultiNil: a nil ring of many writers and the zero one answer as the chapter says: for every two numbers; no condition.
-/
import Derived.Test.YtphbolckbfnhaaaGn
import Derived.Test.YtphbolckbfnhaaaGd
import Derived.Test.YtphbolckbfnhaaaGh
import Derived.Conc.LeavingOf
import Derived.Test.YtphbolckbfnhaaaRows
import Derived.ProofKit
import Derived.OpenShut
/- DERIVED. MultiNil, walked: goroutine 0 alone. -/
namespace Go.Proofs.Ytphbolckbfnhaaa
open Go.RowKit Go.Turn Go.Tame Go.Conc
set_option linter.unusedVariables false
set_option linter.unusedSectionVars false
set_option linter.unusedSimpArgs false
set_option maxHeartbeats 4000000 in
set_option maxRecDepth 100000 in
theorem nil_true (W : World) (n v : Int) (hn0 : -9223372036854775808 ≤ n) (hn1 : n < 9223372036854775808) : (lgA Try.tame (PostT (.bool true) W) W).T () (Frame.enter Try.prog 7 #[.int .i64 n, .int .i64 v] .normal) [] (seen0 W) := by
  have hs : ¬ (lgA Try.tame (PostT (.bool true) W) W).strict := fun h => h
  have hsz : (seen0 W).heap.size = W.heap.size := seen0_size W
  have hio : (seen0 W).os = W.os ∧ (seen0 W).output = W.output := seen0_io W
  generalize seen0 W = x at hsz hio ⊢
  rw [show Frame.enter Try.prog 7 #[.int .i64 n, .int .i64 v] .normal = Frame.at { (default : Frame) with fn := 7, kind := .normal } ⟨#[.int .i64 n, .int .i64 v] ++ Array.replicate (Try.f7.ntmps - 2) undef, []⟩ [.code (Try.f7.body.getD .skip)] from by simp [Frame.enter, Frame.at, Try.func7]; rfl]
  simp only [Try.f7, Option.getD_some, Nat.reduceSub, Array.replicate_succ, Array.replicate_zero, List.push_toArray, List.append_toArray, List.nil_append, List.cons_append]
  refine Lg.move _ (fun _ _ => step_seq) (fun h => h) ?_
  refine Lg.code fun K hK y τ n' hy => ?_
  subst hy
  go_wp2
  refine hK _ _ (fun h => absurd h hs) ?_
  clear hK K
  have hsz : y.heap.size = W.heap.size := hsz
  have hio : y.os = W.os ∧ y.output = W.output := hio
  refine Lg.move _ (fun _ _ => step_seq) (fun h => h) ?_
  refine Lg.move _ (fun _ _ => step_seq) (fun h => h) ?_
  refine Lg.move _ (fun _ _ => step_region) (fun h => h) ?_
  refine Lg.call (i := 0) (rest := [1]) (f := 8) (args := #[]) rfl rfl (fun y => by go_simp) (awake_true Try.tame (PostT (.bool true) W) W y (by omega)) ?_
  rintro vv t' w1 ⟨rfl, hk⟩
  have hio2 : w1.os = W.os ∧ w1.output = W.output := ⟨hk.io.1.trans hio.1, hk.io.2.trans hio.2⟩
  clear hk hio hsz
  rw [Frame.finish_at]
  walk_nrm
  refine (show (lgA Try.tame (PostT (.bool true) W) W).T _ (Frame.at _ ⟨_, []⟩ (.inRegion _ (List.range' 1 (1 + 0)) :: _)) [] w1 from ?_)
  refine Lg.pre 1 1 0 (by simp) fun K hK q τ n' hq => ?_
  subst hq
  simp only [List.drop_succ_cons, List.drop_zero, List.take_succ_cons, List.take_zero]
  go_wp2
  refine hK _ _ (fun h => absurd h hs) ?_
  clear hK K
  have hio3 : q.os = W.os ∧ q.output = W.output := hio2
  clear hio2
  refine Lg.move _ (fun _ _ => step_region_end) (fun h => h) ?_
  refine Lg.move _ (fun _ _ => step_cond (t := false) rfl) (fun h => h) ?_
  refine Lg.move _ (fun _ _ => step_skip) (fun h => h) ?_
  refine lgA_rest Try.tame rfl Try.func7 (by kernel_rfl) (fun tm w v h w' => ?_) fun u τ2 n2 hu => ?_
  · simp [results, Try.f7] at h ⊢
    exact h
  subst hu
  have hio4 : u.os = W.os ∧ u.output = W.output := hio3
  clear hio3
  have HI := Lib.hid hio4
  clear hio4
  go_wp2
  have b0 := (Blk.new u 81 #[.pointer none, .int .i64 0, .pointer none, .pointer none]).alloc (.cells #[.pointer none, .pointer (some ⟨u.heap.size, 0, none⟩)] 42)
  have b1 := Blk.new (u.alloc (.cells #[.pointer none, .int .i64 0, .pointer none, .pointer none] 81)) 42 #[.pointer none, .pointer (some ⟨u.heap.size, 0, none⟩)]
  rw [World.size_alloc] at b1
  have hi2 : ((u.alloc (.cells #[.pointer none, .int .i64 0, .pointer none, .pointer none] 81)).alloc (.cells #[.pointer none, .pointer (some ⟨u.heap.size, 0, none⟩)] 42)).os = W.os ∧ ((u.alloc (.cells #[.pointer none, .int .i64 0, .pointer none, .pointer none] 81)).alloc (.cells #[.pointer none, .pointer (some ⟨u.heap.size, 0, none⟩)] 42)).output = W.output := HI.out
  clear HI
  generalize (u.alloc (.cells #[.pointer none, .int .i64 0, .pointer none, .pointer none] 81)).alloc (.cells #[.pointer none, .pointer (some ⟨u.heap.size, 0, none⟩)] 42) = w2 at b0 b1 hi2 ⊢
  generalize u.heap.size + 1 = lb at b1 ⊢
  generalize u.heap.size = zb at b0 b1 ⊢
  have hz0 : w2.cell? ⟨zb, 0, none⟩ = some (.pointer none) := b0.cell 0
  have hl0 : w2.cell? ⟨lb, 0, none⟩ = some (.pointer none) := b1.cell 0
  have hl1 : w2.cell? ⟨lb, 1, none⟩ = some (.pointer (some ⟨zb, 0, none⟩)) := b1.cell 1
  clear b0 b1
  have HL := Lib.hid (And.intro hz0 (And.intro hl0 hl1))
  have HI := Lib.hid hi2
  clear hz0 hl0 hl1 hi2
  go_loopw [7] (fun i wr => ∃ j : Nat, j ≤ 2 ∧ i = .int .i64 j ∧ Kept (fun _ => False) w2 wr) (fun i _ => 2 - (intOf i).toNat)
  case atStart => exact ⟨0, by omega, rfl, Kept.refl _ _⟩
  case round =>
    obtain ⟨j, hj, rfl, hk⟩ := hrel
    by_cases hlt : j < 2
    · obtain ⟨p, hp, hc⟩ : ∃ p, (∀ w', Kept (fun _ => False) w2 w' → ZrM w' p) ∧ wr.cell? ⟨lb, 0 + j, none⟩ = some (.pointer p) := by
        obtain ⟨hz, h0, h1⟩ := HL.out
        rcases (show j = 0 ∨ j = 1 by omega) with rfl | rfl
        · exact ⟨none, fun _ _ => .inl rfl, (World.cell?_of_block (w := w2) (hk.block lb (lt_of_cell h0) id)).trans h0⟩
        · exact ⟨_, fun w' k => .inr ⟨_, rfl, (World.cell?_of_block (w := w2) (k.block zb (lt_of_cell hz) id)).trans hz⟩, (World.cell?_of_block (w := w2) (hk.block lb (lt_of_cell h1) id)).trans h1⟩
      have HP := Lib.hid hp
      have HK := Lib.hid hk
      clear hp hk
      simp only [Nat.zero_add] at hc
      have hst : ∀ o, ((wr.alloc (.cells #[.int .i64 0] 85)).alloc o).cell? ⟨wr.heap.size, 0, none⟩ = some (.int .i64 0) := fun o => ((Blk.new wr 85 #[.int .i64 0]).alloc o).cell 0
      by_cases hm : n = -9223372036854775808
      · have e1 : wrap64 (n - 1) = 9223372036854775807 := by unfold wrap64; omega
        have d1 : decide (n < 9223372036854775807) = true := decide_eq_true (by omega)
        have HM := Lib.hid hm
        clear hm
        go_wp2_with (first
          | (go_at_call 18; refine (claimM_zero (HP.out _ (HK.out.trans (Kept.alloc _ _))) _ _ _).mono ?_; rintro e w' ⟨rfl, rfl⟩)
          | (go_at_call 19; refine (offerM_zero (HP.out _ ((HK.out.trans (Kept.alloc _ _)).trans (Kept.alloc _ _))) _ _ _ _ _).mono ?_; rintro e w' ⟨rfl, rfl⟩)
          | (go_at_call 21; refine (writeM_zero (HP.out _ ((HK.out.trans (Kept.alloc _ _)).trans (Kept.alloc _ _))) _ _ _).mono ?_; rintro e w' ⟨rfl, rfl⟩)
          | (go_at_call 30; refine (cursorM_zero (HP.out _ ((HK.out.trans (Kept.alloc _ _)).trans (Kept.alloc _ _))) _).mono ?_; rintro e w' ⟨rfl, rfl⟩)
          | (go_at_call 20; refine (pubM_zero (HP.out _ ((HK.out.trans (Kept.alloc _ _)).trans (Kept.alloc _ _))) _ _ (by omega) (by omega)).mono ?_; rintro e w' ⟨rfl, rfl⟩; first | rw [if_pos HM.out] | rw [if_neg HM.out])
          | (go_at_call 23; refine (sizeM_zero (HP.out _ ((HK.out.trans (Kept.alloc _ _)).trans (Kept.alloc _ _)))).mono ?_; rintro e w' ⟨rfl, rfl⟩)
          | (go_at_call 24; refine (ringM_zero (HP.out _ ((HK.out.trans (Kept.alloc _ _)).trans (Kept.alloc _ _)))).mono ?_; rintro e w' ⟨rfl, rfl⟩))
        go_roundw
        case rel => exact ⟨j + 1, by omega, by go_num, (HK.out.trans (Kept.alloc _ _)).trans (Kept.alloc _ _)⟩
        case measure => simp [intOf]; omega
      · have hm' : -9223372036854775808 < n := by omega
        have HM := Lib.hid hm
        clear hm
        go_wp2_with (first
          | (go_at_call 18; refine (claimM_zero (HP.out _ (HK.out.trans (Kept.alloc _ _))) _ _ _).mono ?_; rintro e w' ⟨rfl, rfl⟩)
          | (go_at_call 19; refine (offerM_zero (HP.out _ ((HK.out.trans (Kept.alloc _ _)).trans (Kept.alloc _ _))) _ _ _ _ _).mono ?_; rintro e w' ⟨rfl, rfl⟩)
          | (go_at_call 21; refine (writeM_zero (HP.out _ ((HK.out.trans (Kept.alloc _ _)).trans (Kept.alloc _ _))) _ _ _).mono ?_; rintro e w' ⟨rfl, rfl⟩)
          | (go_at_call 30; refine (cursorM_zero (HP.out _ ((HK.out.trans (Kept.alloc _ _)).trans (Kept.alloc _ _))) _).mono ?_; rintro e w' ⟨rfl, rfl⟩)
          | (go_at_call 20; refine (pubM_zero (HP.out _ ((HK.out.trans (Kept.alloc _ _)).trans (Kept.alloc _ _))) _ _ (by omega) (by omega)).mono ?_; rintro e w' ⟨rfl, rfl⟩; first | rw [if_pos HM.out] | rw [if_neg HM.out])
          | (go_at_call 23; refine (sizeM_zero (HP.out _ ((HK.out.trans (Kept.alloc _ _)).trans (Kept.alloc _ _)))).mono ?_; rintro e w' ⟨rfl, rfl⟩)
          | (go_at_call 24; refine (ringM_zero (HP.out _ ((HK.out.trans (Kept.alloc _ _)).trans (Kept.alloc _ _)))).mono ?_; rintro e w' ⟨rfl, rfl⟩))
        go_roundw
        case rel => exact ⟨j + 1, by omega, by go_num, (HK.out.trans (Kept.alloc _ _)).trans (Kept.alloc _ _)⟩
        case measure => simp [intOf]; omega
    · have hio := hk.os
      have hou := hk.output
      go_wp2
      go_ret
      exact ⟨rfl, hio.trans HI.out.1, hou.trans HI.out.2⟩
end Go.Proofs.Ytphbolckbfnhaaa
namespace Go.Proofs.Ytphbolckbfnhaaa.multiNil
open Go.ChangeShapes Go.WideShapes Go.ChangeAt Go.RowKit Go.Turn
set_option linter.unusedVariables false
set_option linter.unusedSectionVars false
set_option linter.unusedSimpArgs false

theorem own : ownKnob Try.prog.godebug = none := by kernel_rfl
theorem laidOut : laidOutB Try.prog = true := by kernel_rfl

set_option maxRecDepth 100000 in
theorem lifted (os : Os) (started : os.Started) (H : Type) (enc : TypeId × Value → H) :
    ReturnsInLeavingWide {} Try.checked os 7 .any (Rows.multiNilSpec.pre6 enc Try.prog Try.f7 Rows.multiNilRow.domain false) (Rows.multiNilSpec.post enc Try.prog Try.f7 false true false false) := by
  refine returnsInLeavingWide_of_change_sized (C := Try.checked) own started Try.func7
    (ChangeSpec.witness6 (enc := enc) (C := Try.checked) false ⟨#[], #[.int .i64 0, .int .i64 0], []⟩ 8 (by kernel_rfl) (by kernel_rfl) (by kernel_rfl) (by kernel_rfl)) ?_
  intro W base args ds gs before hval0 hW _ _ _
  have hval : ∀ (j : Nat) t v, Try.f7.params[j]? = some t → args[j]? = some v → Value.okWide Try.prog W .any base t v := hval0
  have hW' := hW
  obtain ⟨p, q, hA0, hV, rfl, hfz, hnd⟩ := hW
  have hA : DataW.TrodAll enc Try.prog W 0 (fun _ => true) true Try.f7.params.toList args.toList ds p := hA0
  rw [Try.params7] at hA hval
  obtain ⟨v0, vs0, d0, ds0, p0, q0, hargs, rfl, rfl, h0, r0⟩ := trodAll_cons hA
  obtain ⟨v1, vs1, d1, ds1, p1, q1, rfl, rfl, rfl, h1, r1⟩ := trodAll_cons r0
  obtain ⟨rfl, rfl, rfl⟩ := trodAll_nil r1
  obtain rfl : args = #[v0, v1] := by cases args; simp_all
  obtain ⟨rfl, rfl⟩ := trodVars_none hV
  obtain ⟨a0, rfl, rfl, rfl, w0⟩ := open_int Try.underlying2 (hval 0 2 v0 rfl rfl) h0
  obtain ⟨a1, rfl, rfl, rfl, w1⟩ := open_int Try.underlying2 (hval 1 2 v1 rfl rfl) h1
  simp only [List.append_nil] at hW'
  have hb0 : -9223372036854775808 ≤ a0 ∧ a0 < 9223372036854775808 := by
    have h := w0
    simp [Lit.wf, IntKind.min, IntKind.max, IntKind.signed, IntKind.bits] at h; omega
  obtain ⟨M, last, o, w', t', r1, r2, r3, r4⟩ := run_good Try.tame (nil_true W a0 a1 hb0.1 hb0.2)
  refine ⟨M, last, o, w', t', r1, r2, r3, r4.mono fun v hF => ?_⟩
  have hb : Below W.heap.size W { w' with tape := W.tape } := ⟨hF.os, rfl, hF.output, hF.size, hF.old⟩
  obtain rfl := hF.val
  exact ⟨_, _, _, [], _, [], hW', trodAll_cons_mk (shut_bool Try.underlying4 _) trodAll_mk0,
    trodAll_cons_mk (shut_int Try.underlying2 w0) (trodAll_cons_mk (shut_int Try.underlying2 w1) trodAll_mk0), rfl, hF.frame _, fun h => by cases h⟩

theorem over : Rows.multiNilRow.holds Try.pinned (OpenSpec.ofChange Rows.multiNilSpec) :=
  OpenClaim.holds_of_wide_leaving 7 Try.f7 rfl rfl rfl rfl rfl rfl rfl ⟨rfl, rfl, rfl, rfl, rfl⟩ rfl rfl rfl rfl rfl (by kernel_rfl) Try.func7 (by kernel_rfl)
    (of_decide_eq_true (by kernel_rfl)) (by unfold Func.isWrapper; first | (rw [if_pos (by decide +kernel)]; kernel_rfl) | (rw [if_neg (by decide +kernel)]; exact ⟨rfl, rfl⟩))
    (fun os started H enc _ => lifted os started H enc)

/-- ████ THE STATEMENT ████ -/
theorem proved : Rows.MultiNilSaid := over
end Go.Proofs.Ytphbolckbfnhaaa.multiNil
