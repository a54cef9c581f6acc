/-
  The claim SoloRuns: under any schedule readers see a run of what was written without holes and doubles, and the writer overtakes none: for every small world; no condition.
-/
import Derived.Test.YtlcplealnbekeaaGm
import Derived.Conc.LeavingOf
/- DERIVED. SoloRuns, walked: goroutine 0 alone. -/
namespace Go.Proofs.Ytlcplealnbekeaa
open Go.RowKit Go.Turn Go.Tame Go.Conc
set_option linter.unusedVariables false
set_option linter.unusedSectionVars false
set_option linter.unusedSimpArgs false
set_option maxHeartbeats 4000000 in
set_option maxRecDepth 100000 in
theorem runs_true (W : World) (s : Sm) (hs : s.At W W) : (lgA Try.tame (PostT (.bool true) W) W).T () (Frame.enter Try.prog 4 #[.agg s.vals] .normal) [] (seen0 W) := by
  have hs0 : s.At W (seen0 W) := hs.keep fun b o v _ h => by rw [seen0_cell]; exact h
  have hst : ¬ (lgA Try.tame (PostT (.bool true) W) W).strict := fun h => h
  have hsz : (seen0 W).heap.size = W.heap.size := seen0_size W
  have hio : (seen0 W).os = W.os ∧ (seen0 W).output = W.output := seen0_io W
  have hz0 : 0 ≤ s.sz := hs.sz.1
  generalize seen0 W = x at hs0 hsz hio ⊢
  clear hs
  simp only [Sm.vals]
  rw [show Frame.enter Try.prog 4 #[.agg #[.int .u8 s.sz, .int .u8 s.rd, .slice s.wA s.ws.length s.wc, .slice s.rA s.rn s.rc, .slice s.sA s.xs.length s.sc]] .normal = Frame.at { (default : Frame) with fn := 4, kind := .normal } ⟨#[.agg #[.int .u8 s.sz, .int .u8 s.rd, .slice s.wA s.ws.length s.wc, .slice s.rA s.rn s.rc, .slice s.sA s.xs.length s.sc]] ++ Array.replicate (Try.f4.ntmps - 1) undef, []⟩ [.code (Try.f4.body.getD .skip)] from by simp [Frame.enter, Frame.at, Try.func4]; rfl]
  simp only [Try.f4, Option.getD_some, Nat.reduceSub, Array.replicate_succ, Array.replicate_zero, List.push_toArray, List.append_toArray, List.nil_append, List.cons_append]
  refine Lg.move _ (fun _ _ => step_seq) (fun h => h) ?_
  refine Lg.code fun K hK y τ n' hy => ?_
  subst hy
  have hs1 : s.At W y := hs0.keep fun _ _ _ _ h => h
  have hsz : y.heap.size = W.heap.size := hsz
  have hio : y.os = W.os ∧ y.output = W.output := hio
  have HS := Lib.hid hs1
  clear hs0 hs1
  go_wp2
  refine hK _ _ (fun h => absurd h hst) ?_
  clear hK K
  have hb : s.At W (y.alloc (.cells s.vals 37)) ∧ (y.alloc (.cells s.vals 37)).os = W.os ∧ (y.alloc (.cells s.vals 37)).output = W.output ∧ Blk (y.alloc (.cells s.vals 37)) W.heap.size 37 s.vals ∧ (y.alloc (.cells s.vals 37)).heap.size = W.heap.size + 1 :=
    ⟨HS.out.keep (cells_kept (by omega) (Kept.alloc _ _)), hio.1, hio.2, by rw [← hsz]; exact Blk.new _ _ _, by simp [hsz]⟩
  clear HS
  simp only [Sm.vals] at hb
  generalize y.alloc _ = z at hb ⊢
  refine Lg.move _ (fun _ _ => step_seq) (fun h => h) ?_
  refine Lg.code fun K hK y τ n' hy => ?_
  subst hy
  have hb : s.At W y ∧ y.os = W.os ∧ y.output = W.output ∧ Blk y W.heap.size 37 s.vals ∧ y.heap.size = W.heap.size + 1 := ⟨hb.1.keep fun _ _ _ _ h => h, hb.2⟩
  have HB := Lib.hid hb
  clear hb hsz hio
  go_wp2_with fail
  refine (writes_true y).mono ?_
  rintro e w1 ⟨rfl, hk1⟩
  have hk1 := Kept.of_below (S := fun _ => False) hk1
  have hb : s.At W w1 ∧ w1.os = W.os ∧ w1.output = W.output ∧ Blk w1 W.heap.size 37 s.vals ∧ W.heap.size + 1 ≤ w1.heap.size :=
    ⟨HB.out.1.keep (cells_kept (by have := HB.out.2.2.2.2; omega) hk1), hk1.os.trans HB.out.2.1, hk1.output.trans HB.out.2.2.1, HB.out.2.2.2.1.kept hk1 id, by have := hk1.size; have := HB.out.2.2.2.2; omega⟩
  clear hk1 HB
  have HB := Lib.hid hb
  clear hb
  go_wp2
  refine hK _ _ (fun h => absurd h hst) ?_
  clear hK K
  refine Lg.move _ (fun _ _ => step_seq) (fun h => h) ?_
  refine Lg.code fun K hK y τ n' hy => ?_
  subst hy
  have hb : s.At W y ∧ y.os = W.os ∧ y.output = W.output ∧ Blk y W.heap.size 37 s.vals ∧ W.heap.size + 1 ≤ y.heap.size := ⟨HB.out.1.keep fun _ _ _ _ h => h, HB.out.2⟩
  clear HB
  have HB := Lib.hid hb
  clear hb
  have c0 := HB.out.2.2.2.1.cell 0
  have c1 := HB.out.2.2.2.1.cell 1
  have c2 := HB.out.2.2.2.1.cell 2
  have c3 := HB.out.2.2.2.1.cell 3
  have c4 := HB.out.2.2.2.1.cell 4
  simp [Sm.vals] at c0 c1 c2 c3 c4
  go_wp2_with fail
  refine (laid_ok s W y (by have := HB.out.2.2.2.2; omega) HB.out.1).mono ?_
  rintro e w2 ⟨tA, tc, rows, rfl, hC, hk2⟩
  have hb2 : s.At W w2 ∧ w2.os = W.os ∧ w2.output = W.output ∧ Blk w2 W.heap.size 37 s.vals ∧ W.heap.size + 1 ≤ w2.heap.size ∧ LaidS s y.heap.size tA tc rows (1 + s.nr) w2 :=
    ⟨HB.out.1.keep (cells_kept (by have := HB.out.2.2.2.2; omega) hk2), hk2.os.trans HB.out.2.1, hk2.output.trans HB.out.2.2.1, HB.out.2.2.2.1.kept hk2 id, by have := hk2.size; have := HB.out.2.2.2.2; omega, hC⟩
  clear hk2 hC HB c0 c1 c2 c3 c4
  have HB := Lib.hid hb2
  clear hb2
  go_wp2
  refine hK _ _ (fun h => absurd h hst) ?_
  clear hK K
  refine Lg.move _ (fun _ _ => step_seq) (fun h => h) ?_
  refine Lg.move _ (fun _ _ => step_region) (fun h => h) ?_
  refine Lg.pre 0 8 3 (by simp) fun K hK q τ n' hq => ?_
  subst hq
  have hb2 : s.At W q ∧ q.os = W.os ∧ q.output = W.output ∧ Blk q W.heap.size 37 s.vals ∧ W.heap.size + 1 ≤ q.heap.size ∧ LaidS s y.heap.size tA tc rows (1 + s.nr) q := ⟨HB.out.1.keep fun _ _ _ _ h => h, HB.out.2.1, HB.out.2.2.1, HB.out.2.2.2.1, HB.out.2.2.2.2.1, HB.out.2.2.2.2.2.near fun _ _ _ h => h⟩
  clear HB
  have HB := Lib.hid hb2
  clear hb2
  have c4 := HB.out.2.2.2.1.cell 4
  simp [Sm.vals] at c4
  simp only [List.drop_zero, List.take_succ_cons, List.take_zero]
  go_wp2
  refine hK _ _ (fun h => absurd h hst) ?_
  clear hK K c4
  obtain ⟨Tb, rfl, hrows⟩ := HB.out.2.2.2.2.2.rowsAt (by omega)
  have hn64 : min (1 + s.nr) 64 = 1 + s.nr := by have := s.nr_le; omega
  have hmx : 1 + s.nr ≤ maxLen := by have := s.nr_le; unfold maxLen; omega
  have hsi := s.size_le hz0
  have hplay := solo_play Try.tame (PostT (.bool true) W) W s.size s.nr hsi.1 (by omega) (by have := s.nr_le; omega) (s.bits hz0) (some ⟨Tb, 0, none⟩) Tb 0 (1 + s.nr) tc (fun _ => rfl) hmx (fun i => vAd (rows i)) (fun i => (s.ops i).length) (fun i => vCap (rows i)) s.ops (.slice s.sA s.xs.length s.sc) s.xs 1048576 q
    (by have := HB.out.2.2.2.2.1; omega) (by rw [hn64]; exact hrows) (by rw [hn64]; exact HB.out.2.2.2.2.2.opsCells (fun i _ => s.ops_good hz0 i) fun i _ => s.ops_le i) (HB.out.1.schi _) (by rw [hn64]; have := solo_sound (s.par hz0); rw [Nat.add_comm] at this; exact this)
  rw [hn64] at hplay
  refine Lg.call (i := 8) (rest := [9, 10]) (f := 8) (args := #[.int .i64 s.size, .int .i64 s.nr, .slice (some ⟨Tb, 0, none⟩) (1 + s.nr) tc, .slice s.sA s.xs.length s.sc, .int .i64 1048576]) rfl rfl (fun y => by go_simp) hplay ?_
  rintro vv t' w3 hdone
  clear hplay hrows
  obtain ⟨hleft, all, hI, hp⟩ := solo_runs (s.par hz0) s.xs
  have hheld : (heldI 1048576 1048576).toNat = 1048576 := by decide
  rw [hheld] at hdone
  obtain ⟨R, hR⟩ : ∃ R : Run SSt, R = playRun (brQ (doS (I0 s.size s.nr)) s.ops) (1 + s.nr) 1048576 s.xs (soloZero, fun _ => []) := ⟨_, rfl⟩
  have hR2 : playRun (brQ (doS (I0 (s.par hz0).n (s.par hz0).k)) (s.par hz0).ops) ((s.par hz0).k + 1) 1048576 s.xs (soloZero, fun _ => []) = R := by
    rw [hR, Nat.add_comm 1 s.nr]
    rfl
  rw [hR2] at hleft hI hp
  rw [← hR] at hdone
  have hro := runs_of (s.par hz0) hI hp
  obtain ⟨ab, ov, tv, H, hab, rfl, hov, htv, hans, hH1, hH2⟩ := hdone.ex
  have hleft : R.m.left (1 + s.nr) = 0 := by rw [Nat.add_comm]; exact hleft
  rw [hleft]
  have htr : TraceAt w3 (1 + s.nr) R.m.s.2 R.order (stateL (I0 s.size s.nr) R.m.s.1) (some ⟨ab, 0, none⟩) (1 + s.nr) ov tv := hans.trace hov htv
  have hth : ThreadsAt w3 (some ⟨Tb, 0, none⟩) (1 + s.nr) s.ops := (HB.out.2.2.2.2.2.near fun b c t h => hdone.near b c t (0, 0) (.inr (by decide)) h).threads
  have hfin : w3.os = W.os ∧ w3.output = W.output := ⟨hdone.io.1.trans HB.out.2.1, hdone.io.2.trans HB.out.2.2.1⟩
  have HX := Lib.hid (And.intro htr (And.intro hth (And.intro hfin hro)))
  clear htr hth hfin hro hdone hov htv hans hH1 hH2 HB hI hp hleft hR hR2 hab
  have hn8 : s.size ≤ 8 := hsi.2.1
  have hk8 : s.nr ≤ 8 := by have := s.nr_le; omega
  rw [Frame.finish_at]
  walk_nrm
  refine (show (lgA Try.tame (PostT (.bool true) W) W).T _ (Frame.at _ ⟨_, []⟩ (.inRegion _ (List.range' 9 (2 + 0)) :: _)) [] w3 from ?_)
  refine Lg.pre 9 2 0 (by simp) fun K hK q2 τ2 n2 hq => ?_
  subst hq
  have htr : TraceAt q2 (1 + s.nr) R.m.s.2 R.order (stateL (I0 s.size s.nr) R.m.s.1) (some ⟨ab, 0, none⟩) (1 + s.nr) ov tv := ⟨HX.out.1.ord, HX.out.1.sta, HX.out.1.row⟩
  have hth : ThreadsAt q2 (some ⟨Tb, 0, none⟩) (1 + s.nr) s.ops := HX.out.2.1
  have hfin : q2.os = W.os ∧ q2.output = W.output := HX.out.2.2.1
  have HX := Lib.hid (And.intro htr (And.intro hth (And.intro hfin HX.out.2.2.2)))
  clear htr hth hfin
  simp only [List.drop_succ_cons, List.drop_zero, List.take_succ_cons, List.take_zero]
  go_wp2_with fail
  refine (runs_ok q2 s.size s.nr (some ⟨Tb, 0, none⟩) tc s.ops R.m.s.2 R.order (stateL (I0 s.size s.nr) R.m.s.1) (some ⟨ab, 0, none⟩) (1 + s.nr) ov tv _ all _ _ hn8 hk8 HX.out.2.1 HX.out.1 HX.out.2.2.2).mono ?_
  rintro e w4 ⟨rfl, hk4⟩
  have hfin : w4.os = W.os ∧ w4.output = W.output := ⟨hk4.os.trans HX.out.2.2.1.1, hk4.output.trans HX.out.2.2.1.2⟩
  clear hk4 HX
  go_wp2
  refine hK _ _ (fun h => absurd h hst) ?_
  clear hK K
  refine Lg.move _ (fun _ _ => step_region_end) (fun h => h) ?_
  refine lgA_rest Try.tame rfl Try.func4 (by kernel_rfl) (fun tm w v h w' => ?_) fun u τ3 n3 hu => ?_
  · simp [results, Try.f4] at h ⊢
    exact h
  subst hu
  go_wp2
  go_ret
  exact ⟨rfl, hfin⟩
end Go.Proofs.Ytlcplealnbekeaa
namespace Go.Proofs.Ytlcplealnbekeaa.soloRuns
open Go.ChangeShapes Go.WideShapes Go.ChangeAt Go.RowKit Go.Deep Go.Turn
set_option linter.unusedVariables false
set_option linter.unusedSectionVars false
set_option linter.unusedSimpArgs false

theorem own : ownKnob Try.prog.godebug = none := by kernel_rfl
theorem laidOut : laidOutB Try.prog = true := by kernel_rfl

set_option maxRecDepth 100000 in
theorem lifted (os : Os) (started : os.Started) (H : Type) (enc : TypeId × Value → H) :
    ReturnsInLeavingWide {} Try.checked os 4 .any (Rows.soloRunsSpec.pre6 enc Try.prog Try.f4 Rows.soloRunsRow.domain false) (Rows.soloRunsSpec.post enc Try.prog Try.f4 false true false false) := by
  refine returnsInLeavingWide_of_change_sized (C := Try.checked) own started Try.func4
    (ChangeSpec.witness6 (enc := enc) (C := Try.checked) false ⟨#[], #[.agg #[.int .u8 0, .int .u8 0, .slice none 0 0, .slice none 0 0, .slice none 0 0]], []⟩ 8 (by kernel_rfl) (by kernel_rfl) (by kernel_rfl) (by kernel_rfl)) ?_
  intro W base args ds gs before hval0 hW _ hsz _
  have hval : ∀ (j : Nat) t v, Try.f4.params[j]? = some t → args[j]? = some v → Value.okWide Try.prog W .any base t v := hval0
  have hW' := hW
  obtain ⟨p, q, hA0, hV, rfl, hfz, hnd⟩ := hW
  have hA : DataW.TrodAll enc Try.prog W 0 (fun _ => true) true Try.f4.params.toList args.toList ds p := hA0
  rw [Try.params4] at hA hval hsz
  obtain ⟨v0, vs0, d0, ds0, p0, q0, hargs, rfl, rfl, h0, r0⟩ := trodAll_cons hA
  obtain ⟨rfl, rfl, rfl⟩ := trodAll_nil r0
  obtain rfl : args = #[v0] := by cases args; simp_all
  obtain ⟨rfl, rfl⟩ := trodVars_none hV
  have hst := hval 0 37 v0 rfl rfl
  unfold Value.okWide at hst
  rw [Try.underlying37] at hst
  obtain ⟨c, rfl, _, _⟩ := hst
  have h0k := h0
  have hlt : ∀ x ∈ p0, x.block < W.heap.size := fun x hx => by simpa using hW'.lt x (by simpa using hx)
  obtain ⟨fuel, h0⟩ := h0
  obtain ⟨s, rfl, hsm⟩ := open_small h0
  simp only [List.append_nil] at hW'
  obtain ⟨M, last, o, w', t', r1, r2, r3, r4⟩ := run_good Try.tame (runs_true W s hsm)
  refine ⟨M, last, o, w', t', r1, r2, r3, r4.mono fun v hF => ?_⟩
  have hb : Below W.heap.size W { w' with tape := W.tape } := ⟨hF.os, rfl, hF.output, hF.size, hF.old⟩
  obtain rfl := hF.val
  exact ⟨_, _, _, [], _, [], hW', trodAll_cons_mk (shut_bool Try.underlying4 _) trodAll_mk0,
    trodAll_cons_mk ((Below.trod laidOut (by kernel_rfl) (of_decide_eq_true (by kernel_rfl)) h0k hb hlt).of_heap (by rfl)) trodAll_mk0, rfl, hF.frame _, fun h => by cases h⟩

theorem over : Rows.soloRunsRow.holds Try.pinned (OpenSpec.ofChange Rows.soloRunsSpec) :=
  OpenClaim.holds_of_wide_leaving 4 Try.f4 rfl rfl rfl rfl rfl rfl rfl ⟨rfl, rfl, rfl, rfl, rfl⟩ rfl rfl rfl rfl rfl (by kernel_rfl) Try.func4 (by kernel_rfl)
    (of_decide_eq_true (by kernel_rfl)) (by unfold Func.isWrapper; first | (rw [if_pos (by decide +kernel)]; kernel_rfl) | (rw [if_neg (by decide +kernel)]; exact ⟨rfl, rfl⟩))
    (fun os started H enc _ => lifted os started H enc)

/-- ████ THE STATEMENT ████ -/
theorem proved : Rows.SoloRunsSaid := over
end Go.Proofs.Ytlcplealnbekeaa.soloRuns
