/-
  The claim SlotsOrder: behind a Put its sequence is there, every elder one of its slot is lost, every later one isn't there yet, the other slots are as they were: for every power, first sequence and slice of laps; no condition.
-/
import Derived.Test.YteainbnoemkfcaaGi
import Derived.Test.YteainbnoemkfcaaGd
import Derived.Test.YteainbnoemkfcaaGh
import Derived.Conc.LeavingOf
/- DERIVED. SlotsOrder, walked: goroutine 0 alone. -/
namespace Go.Proofs.Yteainbnoemkfcaa
open Go.RowKit Go.Turn Go.Tame Go.Conc
set_option linter.unusedVariables false
theorem shl6_ok (s : Nat) (h : s < 6) : 0 < 2 ^ s ∧ 2 ^ s ≤ 32 ∧ (bits BinOp.and IntKind.i64 ((2 ^ s : Nat) : Int) (((2 ^ s : Nat) : Int) - 1) != 0) = false := by
  match s, h with
  | 0, _ => decide
  | 1, _ => decide
  | 2, _ => decide
  | 3, _ => decide
  | 4, _ => decide
  | 5, _ => decide
/-- Laps, by their places. -/
def LapsAt (w : World) (A : Option Addr) (len : Nat) : Prop := ∀ j, j < len → ∃ (b o : Nat) (x : Int), A = some ⟨b, o, none⟩ ∧ b < w.heap.size ∧ 0 ≤ x ∧ x < 256 ∧ w.cell? ⟨b, o + j, none⟩ = some (.int .u8 x)
theorem LapsAt.same {w w' : World} {A : Option Addr} {len : Nat} (h : LapsAt w A len) (hs : w.heap.size ≤ w'.heap.size) (hc : ∀ b o v, b < w.heap.size → w.cell? ⟨b, o, none⟩ = some v → w'.cell? ⟨b, o, none⟩ = some v) : LapsAt w' A len := fun j hj => by
  obtain ⟨b, o, x, h1, h2, h3, h4, h5⟩ := h j hj
  exact ⟨b, o, x, h1, by omega, h3, h4, hc _ _ _ h2 h5⟩
theorem item_ok (q : Int) (h0 : 0 ≤ q) (h1 : q < 1152921504606846976) (w : World) : Calls Try.prog 24 #[.int .i64 q] w fun e w' => e = .returned (.int .i64 (1000 + 7 * q)) ∧ w = w' := by
  go_enter Try.func24, Try.ntmps24
  go_wp2
  go_ret
  exact ⟨rfl, rfl⟩
theorem row_cell {w : World} {base g cap n x : Nat} {e : TypeId} {f : Nat → Int} (h : w.ownsRow base e 1 (.slice (some ⟨g, 0, none⟩) n cap) n ((rowN f n).map (Value.int .i64))) (hx : x < n) : w.cell? ⟨g, x, none⟩ = some (.int .i64 (f x)) := by
  have hc := row_cells h x (.int .i64 (f x)) (by simp [rowN, hx])
  have e0 : (⟨g, 0, none⟩ : Addr).add x = ⟨g, x, none⟩ := by unfold Addr.add; split <;> simp_all
  rwa [e0] at hc
set_option maxHeartbeats 4000000 in
set_option maxRecDepth 100000 in
theorem order_true (W : World) (s f : Nat) (A : Option Addr) (len cap : Nat) (hs6 : s < 256) (hf : f < 4294967296) (hlen : len ≤ 140737488355328) (hlaps : LapsAt W A len) : (lgA Try.tame (PostT (.bool true) W) W).T () (Frame.enter Try.prog 5 #[.int .u8 s, .int .u32 f, .slice A len cap] .normal) [] (seen0 W) := by
  have hops0 : LapsAt (seen0 W) A len := hlaps.same (by rw [seen0_size]; exact Nat.le_refl _) fun b o v _ h => by rw [seen0_cell]; exact h
  have hs : ¬ (lgA Try.tame (PostT (.bool true) W) W).strict := fun h => h
  have hsz : (seen0 W).heap.size = W.heap.size := seen0_size W
  have hio : (seen0 W).os = W.os ∧ (seen0 W).output = W.output := seen0_io W
  generalize seen0 W = x at hops0 hsz hio ⊢
  rw [show Frame.enter Try.prog 5 #[.int .u8 s, .int .u32 f, .slice A len cap] .normal = Frame.at { (default : Frame) with fn := 5, kind := .normal } ⟨#[.int .u8 s, .int .u32 f, .slice A len cap] ++ Array.replicate (Try.f5.ntmps - 3) undef, []⟩ [.code (Try.f5.body.getD .skip)] from by simp [Frame.enter, Frame.at, Try.func5]; rfl]
  simp only [Try.f5, Option.getD_some, Nat.reduceSub, Array.replicate_succ, Array.replicate_zero, List.push_toArray, List.append_toArray, List.nil_append, List.cons_append]
  refine Lg.move _ (fun _ _ => step_seq) (fun h => h) ?_
  refine Lg.code fun K hK y τ n' hy => ?_
  subst hy
  go_wp2
  refine hK _ _ (fun h => absurd h hs) ?_
  clear hK K
  have hops1 : LapsAt y A len := hops0
  have hsz : y.heap.size = W.heap.size := hsz
  have hio : y.os = W.os ∧ y.output = W.output := hio
  clear hops0 hlaps
  refine Lg.move _ (fun _ _ => step_seq) (fun h => h) ?_
  refine Lg.move _ (fun _ _ => step_seq) (fun h => h) ?_
  refine Lg.move _ (fun _ _ => step_region) (fun h => h) ?_
  refine Lg.call (i := 0) (rest := [1]) (f := 8) (args := #[]) rfl rfl (fun y => by go_simp) (fixed_true Try.tame (PostT (.bool true) W) W y (by omega)) ?_
  rintro vv t' w1 ⟨rfl, hk⟩
  have hops2 : LapsAt w1 A len := hops1.same hk.size fun b o v hb h => by
    cases ho : y.heap[b]? with
    | none => simp [World.cell?, ho] at h
    | some x =>
      cases x with
      | cells c t r => exact (World.cell?_of_block (w := y) (a := ⟨b, o, none⟩) ((hk.near b c t r (.inl (by omega)) ho).trans ho.symm)).trans h
      | _ => simp [World.cell?, ho] at h
  have hio2 : w1.os = W.os ∧ w1.output = W.output := ⟨hk.io.1.trans hio.1, hk.io.2.trans hio.2⟩
  clear hops1 hk hio
  rw [Frame.finish_at]
  walk_nrm
  refine (show (lgA Try.tame (PostT (.bool true) W) W).T _ (Frame.at _ ⟨_, []⟩ (.inRegion _ (List.range' 1 (1 + 0)) :: _)) [] w1 from ?_)
  refine Lg.pre 1 1 0 (by simp) fun K hK q τ n' hq => ?_
  subst hq
  simp only [List.drop_succ_cons, List.drop_zero, List.take_succ_cons, List.take_zero]
  go_wp2
  refine hK _ _ (fun h => absurd h hs) ?_
  clear hK K
  have hops3 : LapsAt q A len := hops2
  have hio3 : q.os = W.os ∧ q.output = W.output := hio2
  clear hops2 hio2
  refine Lg.move _ (fun _ _ => step_region_end) (fun h => h) ?_
  refine Lg.move _ (fun _ _ => step_cond (t := false) rfl) (fun h => h) ?_
  refine Lg.move _ (fun _ _ => step_skip) (fun h => h) ?_
  refine lgA_rest Try.tame rfl Try.func5 (by kernel_rfl) (fun tm w v h w' => ?_) fun u τ2 n2 hu => ?_
  · simp [results, Try.f5] at h ⊢
    exact h
  subst hu
  have hops4 : LapsAt u A len := hops3
  have hio4 : u.os = W.os ∧ u.output = W.output := hio3
  clear hops3 hio3 hsz
  have HO := Lib.hid hops4
  have HI := Lib.hid hio4
  clear hops4 hio4
  go_wp2_with fail
  obtain ⟨hn0, hn1, hn2⟩ := shl6_ok (s % 6) (Nat.mod_lt _ (by decide))
  have en' : wrap64 (2 ^ (s % 6)) = ((2 ^ (s % 6) : Nat) : Int) := by
    have e0 : ((2 : Int) ^ (s % 6)) = ((2 ^ (s % 6) : Nat) : Int) := by simp
    rw [e0]; unfold wrap64; omega
  simp only [en']
  clear en'
  generalize 2 ^ (s % 6) = n at *
  refine (new_ok n u hn0 (by omega) hn2).mono ?_
  rintro e w2 ⟨rfl, R0, B0, Z0⟩
  have hsb : u.heap.size ≤ u.heap.size := Nat.le_refl _
  obtain ⟨base, hbase⟩ : ∃ base, base = u.heap.size := ⟨_, rfl⟩
  have ho2 : Old base u w2 := hbase ▸ Old.of B0
  have hL2 : LapsAt u A len := HO.out
  generalize u.heap.size + 1 = rb at R0 ⊢
  generalize hsbb : u.heap.size = sb at R0
  have hle : base ≤ sb := by omega
  have HB := Lib.hid (And.intro hbase (And.intro hle hL2))
  have HR := Lib.hid (And.intro R0 ho2)
  clear hsb hbase ho2 hL2 hsbb hle R0 B0 Z0 HO
  go_wp2
  have hf' : (f : Int) < 4294967296 := by omega
  go_loopw [10, 11] (fun q i wr => ∃ (j : Nat) (qv : Int) (st va : Nat → Int), j ≤ len ∧ q = .int .i64 qv ∧ i = .int .i64 j ∧ 0 ≤ qv ∧ qv ≤ 4294967295 + 160 * j ∧ RingAt wr rb sb n st va ∧ Old base u wr) (fun _ i _ => len - (intOf i).toNat)
  case atStart => exact ⟨0, f, _, _, by omega, rfl, rfl, by omega, by omega, HR.out⟩
  case round =>
    obtain ⟨j, qv, st, va, hj, rfl, rfl, hq0, hq1, H1, O1⟩ := hrel
    have HX := Lib.hid (And.intro H1 O1)
    clear H1 O1
    by_cases hlt : j < len
    · obtain ⟨b, o, x, rfl, hb, hx0, hx1, hc⟩ := HB.out.2.2 j hlt
      have hcell : wr.cell? ⟨b, o + j, none⟩ = some (.int .u8 x) := (World.cell?_of_block (w := u) (a := ⟨b, o + j, none⟩) (HX.out.2.block b (by have := HB.out.1; omega))).trans hc
      clear hc
      go_wp2_with fail
      obtain ⟨y, hy⟩ : ∃ y, y = 1 + x % 5 := ⟨_, rfl⟩
      have hy0 : 1 ≤ y ∧ y ≤ 5 := by omega
      have hp : 0 ≤ (n : Int) * y ∧ (n : Int) * y ≤ 160 := ⟨Int.mul_nonneg (by omega) (by omega), by
        have := Int.mul_le_mul (show (n : Int) ≤ 32 by omega) hy0.2 (by omega) (by omega)
        omega⟩
      rw [← hy]
      obtain ⟨p, hpp⟩ : ∃ p, p = (n : Int) * y := ⟨_, rfl⟩
      rw [← hpp] at hp ⊢
      have e1 : wrap64 (qv + wrap64 p) = qv + p := by unfold wrap64; omega
      simp only [e1]
      clear e1 hy hpp hy0 hcell hb hx0 hx1
      have hQ0 : 0 ≤ qv + p := by omega
      have hQ1 : qv + p ≤ 4294967295 + 160 * ((j : Int) + 1) := by omega
      generalize qv + p = Q at hQ0 hQ1 ⊢
      clear hp hq0 hq1
      have hQ2 : Q < 1152921504606846976 := by omega
      have hm0 : 0 ≤ Q % (n : Int) := Int.emod_nonneg _ (by omega)
      have hm1 : Q % (n : Int) < n := Int.emod_lt_of_pos _ (by omega)
      have f1 : (Q + n) % (n : Int) = Q % n := by simp
      have f2 : (Q + n) / (n : Int) = Q / n + 1 := Int.add_ediv_of_dvd_right (Int.dvd_refl _) |>.trans (by rw [Int.ediv_self (by omega)])
      have f3 : (Q - n) % (n : Int) = Q % n := by simp
      have f4 : (Q - n) / (n : Int) = Q / n - 1 := by
        have := Int.add_ediv_of_dvd_right (a := Q - n) (b := n) (c := n) (Int.dvd_refl _)
        rw [Int.ediv_self (by omega), Int.sub_add_cancel] at this
        omega
      have F := Lib.hid (And.intro f1 (And.intro f2 (And.intro f3 f4)))
      clear f1 f2 f3 f4
      refine (stamps_ok wr rb sb n st va HX.out.1).mono ?_
      rintro e w3 ⟨bv, rfl, ob, B3⟩
      obtain ⟨bA, bc, rfl⟩ := own_slice ob
      have R3 := HX.out.1.kept (Kept.of_below (S := fun _ => False) B3) id id
      have O3 := HX.out.2.trans ((Old.of B3).mono (show base ≤ wr.heap.size by have := HX.out.2.size; have := HB.out.1; omega))
      have hsb3 := HX.out.1.glt
      have HX := Lib.hid (And.intro R3 (And.intro O3 (And.intro ob hsb3)))
      clear R3 O3 ob B3 hsb3
      go_wp2_with fail
      refine (item_ok Q hQ0 hQ2 w3).mono ?_
      rintro e w' ⟨rfl, rfl⟩
      go_wp2_with fail
      refine (put_n rb sb n st va Q (1000 + 7 * Q) w3 HX.out.1 hQ0 (by omega)).mono ?_
      rintro e w4 ⟨rfl, R4, K4, Z4, -⟩
      have O4 := HX.out.2.1.trans (Old.kept (B := base) K4 (fun b e => by rw [e]; exact HB.out.2.1) (by have := HX.out.2.1.size; have := HB.out.1; omega))
      have ob4 := own_kept HX.out.2.2.1 K4 (fun b h e => by have := HX.out.2.2.2; omega)
      have HY := Lib.hid (And.intro R4 (And.intro O4 ob4))
      clear R4 O4 K4 Z4 ob4 HX
      go_wp2_with fail
      refine (get_ok Stepper.none slots_step_none 0 rb sb n _ _ Q w4 HY.out.1 hQ0 (by omega) (upd_same _ _ _) trivial id id).mono ?_
      rintro e w5 ⟨rfl, K5, Z5, -⟩
      rw [upd_same]
      have HY := Lib.hid (And.intro (HY.out.1.kept K5 id id) (And.intro (HY.out.2.1.trans (Old.kept (B := base) K5 (fun b e => e.elim) (by have := HY.out.2.1.size; have := HB.out.1; omega))) (own_kept HY.out.2.2 K5 (fun _ _ h => h))))
      clear K5 Z5
      go_wp2_with fail
      refine (get_none Stepper.none slots_step_none 0 rb sb n _ _ (Q + n) w5 HY.out.1 (by omega) (by omega) (by rw [F.out.1, F.out.2.1, upd_same]; omega) trivial id id).mono ?_
      rintro e w6 ⟨rfl, K6, Z6, -⟩
      have HY := Lib.hid (And.intro (HY.out.1.kept K6 id id) (And.intro (HY.out.2.1.trans (Old.kept (B := base) K6 (fun b e => e.elim) (by have := HY.out.2.1.size; have := HB.out.1; omega))) (own_kept HY.out.2.2 K6 (fun _ _ h => h))))
      clear K6 Z6
      go_wp2_with fail
      refine (item_ok Q hQ0 hQ2 w6).mono ?_
      rintro e w' ⟨rfl, rfl⟩
      go_wp2_with fail
      refine (there_x Stepper.none slots_step_none 0 rb sb n _ _ Q w6 HY.out.1 hQ0 (by omega) trivial id id).mono ?_
      rintro e w7 ⟨rfl, K7, Z7, -⟩
      rw [upd_same, beq_self_eq_true]
      have HY := Lib.hid (And.intro (HY.out.1.kept K7 id id) (And.intro (HY.out.2.1.trans (Old.kept (B := base) K7 (fun b e => e.elim) (by have := HY.out.2.1.size; have := HB.out.1; omega))) (own_kept HY.out.2.2 K7 (fun _ _ h => h))))
      clear K7 Z7
      go_wp2_with fail
      refine (there_x Stepper.none slots_step_none 0 rb sb n _ _ (Q + n) w7 HY.out.1 (by omega) (by omega) trivial id id).mono ?_
      rintro e w8 ⟨rfl, K8, Z8, -⟩
      rw [F.out.1, F.out.2.1, upd_same, show (2 * (Q / (n : Int)) == 2 * (Q / (n : Int) + 1)) = false from by simp; omega]
      have HY := Lib.hid (And.intro (HY.out.1.kept K8 id id) (And.intro (HY.out.2.1.trans (Old.kept (B := base) K8 (fun b e => e.elim) (by have := HY.out.2.1.size; have := HB.out.1; omega))) (own_kept HY.out.2.2 K8 (fun _ _ h => h))))
      clear K8 Z8
      go_wp2_with fail
      have eN : highN n Q Q = 1 := by unfold highN; omega
      refine (highest_x Stepper.none slots_step_none 0 rb sb n _ _ Q Q w8 HY.out.1 hQ0 (by omega) (by omega) (by omega) trivial id id).mono ?_
      rintro e w9 ⟨rfl, K9, Z9, -⟩
      have eH : ∀ g : Nat → Int, (highR (upd g (Q % (n : Int)).toNat (2 * (Q / (n : Int)))) n 1 Q).1 = Q := fun g => by
        show (if upd g (Q % (n : Int)).toNat (2 * (Q / (n : Int))) (Q % (n : Int)).toNat = 2 * (Q / (n : Int)) then ((Q + 1) - 1, 1) else (Q - 1, 1)).1 = Q
        rw [upd_same, if_pos rfl]
        omega
      rw [eN, eH]
      have HY := Lib.hid (And.intro (HY.out.1.kept K9 id id) (And.intro (HY.out.2.1.trans (Old.kept (B := base) K9 (fun b e => e.elim) (by have := HY.out.2.1.size; have := HB.out.1; omega))) (own_kept HY.out.2.2 K9 (fun _ _ h => h))))
      clear K9 Z9 eN eH
      go_wp2_with fail
      by_cases hqn : (n : Int) ≤ Q
      · refine (get_lost Stepper.none slots_step_none 0 rb sb n _ _ (Q - n) w9 HY.out.1 (by omega) (by omega) (by rw [F.out.2.2.1, F.out.2.2.2, upd_same]; omega) trivial id id).mono ?_
        rintro e w10 ⟨rfl, K10, Z10, -⟩
        have HY := Lib.hid (And.intro (HY.out.1.kept K10 id id) (And.intro (HY.out.2.1.trans (Old.kept (B := base) K10 (fun b e => e.elim) (by have := HY.out.2.1.size; have := HB.out.1; omega))) (own_kept HY.out.2.2 K10 (fun _ _ h => h))))
        clear K10 Z10
        have HQN := Lib.hid (And.intro hqn (And.intro hm0 hm1))
        have d1 : decide ((n : Int) ≤ Q) = true := decide_eq_true hqn
        have d2 : decide (Q < (n : Int)) = false := decide_eq_false (by omega)
        clear hqn hm0 hm1
        go_wp2_with fail
        clear d1 d2
        have hm0 := HQN.out.2.1
        have hm1 := HQN.out.2.2
        refine (stamps_ok w10 rb sb n _ _ HY.out.1).mono ?_
        rintro e w11 ⟨av, rfl, oa, B11⟩
        obtain ⟨aA, ac, rfl⟩ := own_slice oa
        have HY := Lib.hid (And.intro (HY.out.1.kept (Kept.of_below (S := fun _ => False) B11) id id) (And.intro (HY.out.2.1.trans ((Old.of B11).mono (show base ≤ w10.heap.size by have := HY.out.2.1.size; have := HB.out.1; omega))) (And.intro (own_kept HY.out.2.2 (Kept.of_below (S := fun _ => False) B11) (fun _ _ h => h)) oa)))
        clear oa B11
        obtain ⟨ga, rfl, -, -⟩ := row_addr HY.out.2.2.2 hn0
        obtain ⟨gb, rfl, -, -⟩ := row_addr HY.out.2.2.1 hn0
        go_wp2
        rename World => wq
        go_loopw [20] (fun i wr => ∃ (k m : Nat), k ≤ n ∧ i = .int .i64 k ∧ wr = wq.drewN m) (fun i _ => n - (intOf i).toNat)
        case atStart => exact ⟨0, 0, by omega, rfl, rfl⟩
        case round =>
          obtain ⟨k, m, hk, rfl, rfl⟩ := hrel
          by_cases hkn : k < n
          · have hr := HY.out.1.ring
            have hca := row_cell HY.out.2.2.2 hkn
            have hcb := row_cell HY.out.2.2.1 hkn
            have hr : (wq.drewN m).cell? ⟨rb, 0, none⟩ = _ := hr
            have hca : (wq.drewN m).cell? ⟨ga, k, none⟩ = _ := hca
            have hcb : (wq.drewN m).cell? ⟨gb, k, none⟩ = _ := hcb
            generalize hwz : wq.drewN m = wz at hr hca hcb ⊢
            have HW := Lib.hid hwz
            clear hwz
            by_cases hks : (k : Int) = Q % (n : Int)
            · have hne : ((k : Int) != Q % (n : Int)) = false := by simpa using hks
              have HKS := Lib.hid hks
              clear hca hcb hks
              go_wp2
              go_quiet ((go_at_call 18; exact quietS (slot_yes _ _ n _ Q _ hr hn0 (by omega) hQ0 (by omega))))
              go_wp2
              go_roundw
              case rel => exact ⟨k + 1, m + nq, by omega, by go_num, by rw [← HW.out, World.drewN_drewN]⟩
              case measure => simp [intOf]; omega
            · have hne : ((k : Int) != Q % (n : Int)) = true := by simpa using hks
              rw [upd_ne _ _ (by omega)] at hca
              have HKS := Lib.hid hks
              clear hks
              go_wp2
              go_quiet ((go_at_call 18; exact quietS (slot_yes _ _ n _ Q _ hr hn0 (by omega) hQ0 (by omega))))
              go_wp2
              go_roundw
              case rel => exact ⟨k + 1, m + nq, by omega, by go_num, by rw [← HW.out, World.drewN_drewN]⟩
              case measure => simp [intOf]; omega
          · go_wp2
            go_roundw
            case rel => exact ⟨j + 1, Q, _, _, by omega, rfl, by go_num, hQ0, by omega, HY.out.1.drewN m, HY.out.2.1.trans (Old.kept (S := fun _ => False) (Kept.drewN (fun _ => False) _ m) (fun _ e => e.elim) (by have := HY.out.2.1.size; have := HB.out.1; omega))⟩
            case measure => simp [intOf]; omega
      · have hbad : BadAt (some ⟨rb, 0, none⟩) (Q - n) w9 := bad_low _ _ _ _ _ _ HY.out.1.ring (by omega)
        refine (get_bad hbad _).mono ?_
        rintro e w' ⟨rfl, rfl⟩
        clear hbad
        have HQN := Lib.hid (And.intro hqn (And.intro hm0 hm1))
        have d1 : decide ((n : Int) ≤ Q) = false := decide_eq_false hqn
        have d2 : decide (Q < (n : Int)) = true := decide_eq_true (by omega)
        clear hqn hm0 hm1
        go_wp2_with fail
        clear d1 d2
        have hm0 := HQN.out.2.1
        have hm1 := HQN.out.2.2
        refine (stamps_ok w9 rb sb n _ _ HY.out.1).mono ?_
        rintro e w11 ⟨av, rfl, oa, B11⟩
        obtain ⟨aA, ac, rfl⟩ := own_slice oa
        have HY := Lib.hid (And.intro (HY.out.1.kept (Kept.of_below (S := fun _ => False) B11) id id) (And.intro (HY.out.2.1.trans ((Old.of B11).mono (show base ≤ w9.heap.size by have := HY.out.2.1.size; have := HB.out.1; omega))) (And.intro (own_kept HY.out.2.2 (Kept.of_below (S := fun _ => False) B11) (fun _ _ h => h)) oa)))
        clear oa B11
        obtain ⟨ga, rfl, -, -⟩ := row_addr HY.out.2.2.2 hn0
        obtain ⟨gb, rfl, -, -⟩ := row_addr HY.out.2.2.1 hn0
        go_wp2
        rename World => wq
        go_loopw [20] (fun i wr => ∃ (k m : Nat), k ≤ n ∧ i = .int .i64 k ∧ wr = wq.drewN m) (fun i _ => n - (intOf i).toNat)
        case atStart => exact ⟨0, 0, by omega, rfl, rfl⟩
        case round =>
          obtain ⟨k, m, hk, rfl, rfl⟩ := hrel
          by_cases hkn : k < n
          · have hr := HY.out.1.ring
            have hca := row_cell HY.out.2.2.2 hkn
            have hcb := row_cell HY.out.2.2.1 hkn
            have hr : (wq.drewN m).cell? ⟨rb, 0, none⟩ = _ := hr
            have hca : (wq.drewN m).cell? ⟨ga, k, none⟩ = _ := hca
            have hcb : (wq.drewN m).cell? ⟨gb, k, none⟩ = _ := hcb
            generalize hwz : wq.drewN m = wz at hr hca hcb ⊢
            have HW := Lib.hid hwz
            clear hwz
            by_cases hks : (k : Int) = Q % (n : Int)
            · have hne : ((k : Int) != Q % (n : Int)) = false := by simpa using hks
              have HKS := Lib.hid hks
              clear hca hcb hks
              go_wp2
              go_quiet ((go_at_call 18; exact quietS (slot_yes _ _ n _ Q _ hr hn0 (by omega) hQ0 (by omega))))
              go_wp2
              go_roundw
              case rel => exact ⟨k + 1, m + nq, by omega, by go_num, by rw [← HW.out, World.drewN_drewN]⟩
              case measure => simp [intOf]; omega
            · have hne : ((k : Int) != Q % (n : Int)) = true := by simpa using hks
              rw [upd_ne _ _ (by omega)] at hca
              have HKS := Lib.hid hks
              clear hks
              go_wp2
              go_quiet ((go_at_call 18; exact quietS (slot_yes _ _ n _ Q _ hr hn0 (by omega) hQ0 (by omega))))
              go_wp2
              go_roundw
              case rel => exact ⟨k + 1, m + nq, by omega, by go_num, by rw [← HW.out, World.drewN_drewN]⟩
              case measure => simp [intOf]; omega
          · go_wp2
            go_roundw
            case rel => exact ⟨j + 1, Q, _, _, by omega, rfl, by go_num, hQ0, by omega, HY.out.1.drewN m, HY.out.2.1.trans (Old.kept (S := fun _ => False) (Kept.drewN (fun _ => False) _ m) (fun _ e => e.elim) (by have := HY.out.2.1.size; have := HB.out.1; omega))⟩
            case measure => simp [intOf]; omega
    · go_wp2
      go_ret
      exact ⟨rfl, HX.out.2.io.1.trans HI.out.1, HX.out.2.io.2.trans HI.out.2⟩
end Go.Proofs.Yteainbnoemkfcaa
namespace Go.Proofs.Yteainbnoemkfcaa.slotsOrder
open Go.ChangeShapes Go.WideShapes Go.ChangeAt Go.RowKit Go.Deep Go.Turn
set_option linter.unusedVariables false

theorem own : ownKnob Try.prog.godebug = none := by kernel_rfl
theorem laidOut : laidOutB Try.prog = true := by kernel_rfl
theorem byteCells : Try.prog.cellsOf 5 = 1 := by kernel_rfl
theorem byteBytes : Try.prog.bytesOf 5 = 1 := by kernel_rfl

set_option maxRecDepth 100000 in
theorem lifted (os : Os) (started : os.Started) (H : Type) (enc : TypeId × Value → H) :
    ReturnsInLeavingWide {} Try.checked os 5 .any (Rows.slotsOrderSpec.pre6 enc Try.prog Try.f5 Rows.slotsOrderRow.domain false) (Rows.slotsOrderSpec.post enc Try.prog Try.f5 false true false false) := by
  refine returnsInLeavingWide_of_change_sized (C := Try.checked) own started Try.func5
    (ChangeSpec.witness6 (enc := enc) (C := Try.checked) false ⟨#[], #[.int .u8 0, .int .u32 0, .slice none 0 0], []⟩ 8 (by kernel_rfl) (by kernel_rfl) (by kernel_rfl) (by kernel_rfl)) ?_
  intro W base args ds gs before hval0 hW _ hsz _
  have hval : ∀ (j : Nat) t v, Try.f5.params[j]? = some t → args[j]? = some v → Value.okWide Try.prog W .any base t v := hval0
  have hW' := hW
  obtain ⟨p, q, hA0, hV, rfl, hfz, hnd⟩ := hW
  have hA : DataW.TrodAll enc Try.prog W 0 (fun _ => true) true Try.f5.params.toList args.toList ds p := hA0
  rw [Try.params5] at hA hval hsz
  obtain ⟨v0, vs0, d0, ds0, p0, q0, hargs, rfl, rfl, h0, r0⟩ := trodAll_cons hA
  obtain ⟨v1, vs1, d1, ds1, p1, q1, rfl, rfl, rfl, h1, r1⟩ := trodAll_cons r0
  obtain ⟨v2, vs2, d2, ds2, p2, q2, rfl, rfl, rfl, h2, r2⟩ := trodAll_cons r1
  obtain ⟨rfl, rfl, rfl⟩ := trodAll_nil r2
  obtain rfl : args = #[v0, v1, v2] := by cases args; simp_all
  obtain ⟨rfl, rfl⟩ := trodVars_none hV
  obtain ⟨a0, rfl, rfl, rfl, w0⟩ := open_int Try.underlying5 (hval 0 5 v0 rfl rfl) h0
  obtain ⟨a1, rfl, rfl, rfl, w1⟩ := open_int Try.underlying56 (hval 1 56 v1 rfl rfl) h1
  obtain ⟨B, n, cap, rfl⟩ := okWide_slice Try.underlying57 (hval 2 57 v2 rfl rfl)
  have h2k := h2
  have hlt : ∀ x ∈ p2, x.block < W.heap.size := fun x hx => by simpa using hW'.lt x (by simpa using hx)
  obtain ⟨fuel, h2⟩ := h2
  have hopen : n ≤ 140737488355328 ∧ LapsAt W B n := by
    rcases open_slice1 Try.underlying57 byteCells h2 with ⟨hcs, _⟩ | ⟨a, len, cap', m, fu, V, D, Pl, hcs, hb, hl, hm, hmm, hx, hV⟩
    · simp only [Value.cells, List.cons.injEq, and_true, Value.slice.injEq] at hcs
      obtain ⟨rfl, rfl, rfl⟩ := hcs
      exact ⟨by omega, fun j hj => by omega⟩
    · simp only [Value.cells, List.cons.injEq, and_true, Value.slice.injEq] at hcs
      obtain ⟨rfl, rfl, rfl⟩ := hcs
      have hd2 : d2 = .slice ((List.range n).map D) ((List.range (m - n)).map fun j => D (n + j)) := congrArg Prod.fst hx
      have hbound : n ≤ 140737488355328 := by
        have := sized_slice hsz (j := 2) (t := 57) rfl (by simp [hd2]; exact ⟨rfl, rfl⟩) Try.underlying57
        rw [show Try.checked.prog.bytesOf 5 = 1 from byteBytes] at this
        simp only [List.length_map, List.length_range, reachBytes] at this
        omega
      have hlm : n ≤ m := by rw [hmm]; split <;> omega
      refine ⟨hbound, fun j hj => ?_⟩
      have ha : a.spot = none := by
        have := (hV 0 (by omega)).1
        have : W.cell? a = some (V 0) := by simpa [Addr.add] using this
        exact (spot_none this).1
      obtain ⟨b, o, s⟩ := a
      simp only at ha
      subst ha
      obtain ⟨c1, c2⟩ := hV j (by omega)
      obtain ⟨x, e0, _, hw⟩ := DataW.trod_int Try.underlying5 c2
      simp only [List.cons.injEq, and_true] at e0
      rw [e0] at c1
      have e : (⟨b, o, none⟩ : Addr).add j = ⟨b, o + j, none⟩ := by
        unfold Addr.add
        by_cases h4 : j = 0 <;> simp [h4]
      rw [e] at c1
      have hw' : 0 ≤ x ∧ x < 256 := by
        simp [Lit.wf, IntKind.min, IntKind.max, IntKind.signed, IntKind.bits] at hw; omega
      exact ⟨b, o, x, rfl, (spot_none c1).2, hw'.1, hw'.2, c1⟩
  obtain ⟨hbound, hlaps⟩ := hopen
  simp only [List.append_nil] at hW'
  have b0 : 0 ≤ a0 ∧ a0 < 256 := by
    have h := w0
    simp [Lit.wf, IntKind.min, IntKind.max, IntKind.signed, IntKind.bits] at h; omega
  have b1 : 0 ≤ a1 ∧ a1 < 4294967296 := by
    have h := w1
    simp [Lit.wf, IntKind.min, IntKind.max, IntKind.signed, IntKind.bits] at h; omega
  obtain ⟨s, rfl⟩ := Int.eq_ofNat_of_zero_le b0.1
  obtain ⟨f, rfl⟩ := Int.eq_ofNat_of_zero_le b1.1
  obtain ⟨M, last, o, w', t', r1, r2, r3, r4⟩ := run_good Try.tame (order_true W s f B n cap (by omega) (by omega) hbound hlaps)
  refine ⟨M, last, o, w', t', r1, r2, r3, r4.mono fun v hF => ?_⟩
  have hb : Below W.heap.size W { w' with tape := W.tape } := ⟨hF.os, rfl, hF.output, hF.size, hF.old⟩
  obtain rfl := hF.val
  exact ⟨_, _, _, [], _, [], hW', trodAll_cons_mk (shut_bool Try.underlying4 _) trodAll_mk0,
    trodAll_cons_mk (shut_int Try.underlying5 w0) (trodAll_cons_mk (shut_int Try.underlying56 w1) (trodAll_cons_mk ((Below.trod laidOut (by kernel_rfl) (of_decide_eq_true (by kernel_rfl)) h2k hb hlt).of_heap (by rfl)) trodAll_mk0)), rfl, hF.frame _, fun h => by cases h⟩

theorem over : Rows.slotsOrderRow.holds Try.pinned (OpenSpec.ofChange Rows.slotsOrderSpec) :=
  OpenClaim.holds_of_wide_leaving 5 Try.f5 rfl rfl rfl rfl rfl rfl rfl ⟨rfl, rfl, rfl, rfl, rfl⟩ rfl rfl rfl rfl rfl (by kernel_rfl) Try.func5 (by kernel_rfl)
    (of_decide_eq_true (by kernel_rfl)) (by unfold Func.isWrapper; first | (rw [if_pos (by decide +kernel)]; kernel_rfl) | (rw [if_neg (by decide +kernel)]; exact ⟨rfl, rfl⟩))
    (fun os started H enc _ => lifted os started H enc)

/-- ████ THE STATEMENT ████ -/
theorem proved : Rows.SlotsOrderSaid := over
end Go.Proofs.Yteainbnoemkfcaa.slotsOrder
