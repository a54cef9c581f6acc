/- DERIVED. The law BusPlaces, walked (package carillonlaw19). -/
import Derived.Test.YtbmjmamodnapiaaGreatDoorBpI
namespace Go.Proofs.YtbmjmamodnapiaaGreatDoor
open Go.RowKit
set_option linter.unusedVariables false
theorem Tryz.infoPSub : (Tryz.prog.info? 41).map (fun i => (i.zero, i.size, i.bytes)) = some (some (.pointer none), 1, 8) := by kernel_rfl
theorem upd_self (i : Nat) : upd (fun _ => (-1 : Int)) i (-1) = fun _ => -1 := by
  funext j
  simp [upd]
set_option maxHeartbeats 8000000 in
set_option maxRecDepth 100000 in
theorem busPlaces_true (x : Int) (hx0 : 0 ≤ x) (hx1 : x < 256) (w : World) (hT : TabAt w) :
    Calls Tryz.prog 5 #[.int .u8 x] w fun e w' => e = .returned (.bool true) ∧ Kept (fun _ => False) w w' := by
  have HT := Lib.hid hT
  have hw0 : 0 < w.heap.size := lt_of_cell (hT 0 (by omega))
  have HW0 := Lib.hid hw0
  obtain ⟨i0, hi0, hz0, hz1, hz2⟩ := info_parts Tryz.infoPSub
  obtain ⟨k, hk⟩ : ∃ k : Nat, x.tmod 64 = (k : Int) := ⟨(x.tmod 64).toNat, by rw [Int.tmod_eq_emod_of_nonneg hx0]; omega⟩
  have hk1 : k < 64 := by rw [Int.tmod_eq_emod_of_nonneg hx0] at hk; omega
  obtain ⟨k', hk'⟩ : ∃ k' : Nat, ((k : Int) + 1).tmod 64 = (k' : Int) := ⟨(((k : Int) + 1).tmod 64).toNat, by rw [Int.tmod_eq_emod_of_nonneg (by omega)]; omega⟩
  have hk2 : k' < 64 ∧ k ≠ k' := by rw [Int.tmod_eq_emod_of_nonneg (by omega)] at hk'; omega
  have HKK := Lib.hid (And.intro hk hk')
  clear hk hk'
  clear hT hw0
  go_enter Tryz.func5, Tryz.ntmps5
  go_wp2_with fail
  refine (awake_true w HT.out).mono ?_
  rintro e w1 ⟨rfl, k1⟩
  have HK1 := Lib.hid k1
  clear k1
  go_wp2_with fail
  refine (bus_new w1).mono ?_
  rintro e w2 ⟨rfl, hw2⟩
  have b2 : Blk w2 w1.heap.size 72 #[.pointer none] := hw2 ▸ Blk.new w1 _ _
  have k2 : Kept (fun _ => False) w1 w2 := hw2 ▸ Kept.alloc _ _
  obtain ⟨b, hb⟩ : ∃ b, b = w1.heap.size := ⟨_, rfl⟩
  rw [← hb] at b2 ⊢
  have hbw := b2.lt
  have H2 := Lib.hid (And.intro (HK1.out.trans k2) (And.intro b2 (And.intro hb hbw)))
  clear b2 k2 hw2 hb hbw
  go_wp2_with fail
  refine (bus_open b 5 2 w2 (by omega) (by omega) (by decide) H2.out.2.1).mono ?_
  rintro e w3 ⟨rfl, k3, t3, i3⟩
  obtain ⟨B, hB⟩ : ∃ B, B = w2.heap.size := ⟨_, rfl⟩
  rw [← hB] at t3 i3
  have hbB : b < B := by have := H2.out.2.2.2; omega
  have hwb : w.heap.size ≤ b := by have := HK1.out.size; have := H2.out.2.2.1; omega
  have hB3 : B + 8 < w3.heap.size := t3.top.lt
  have k03 : Kept (fun _ => False) w w3 := H2.out.1.later k3 (by rintro y rfl; exact hwb)
  have H3 := Lib.hid (And.intro k03 (And.intro t3 i3))
  have HBB := Lib.hid (And.intro hbB (And.intro hwb (And.intro hB3 (And.intro hB HW0.out))))
  clear k3 t3 i3 hB hbB hwb hB3 k03
  go_wp2
  go_loopw [4, 5] (fun sv iv wr => ∃ (i : Nat) (us rs : Nat → Nat), i ≤ 64 ∧ iv = .int .i64 i ∧ PlS w3 B i us rs sv wr) (fun _ iv _ => 64 - (intOf iv).toNat)
  case atStart => exact ⟨0, fun _ => 0, fun _ => 0, by omega, rfl, PlS.start H3.out.2.1 _ _⟩
  case round =>
    obtain ⟨i, us, rs, hi, rfl, hP⟩ := hrel
    obtain ⟨sA, sc, rfl⟩ := own_slice hP.row
    have HP := Lib.hid hP
    clear hP
    by_cases hlt : i < 64
    · have b0 : (i : Int) < 64 := by omega
      obtain ⟨gp, ht⟩ := HP.out.top
      have hib : BusIn wr b [(5, B + 8)] (B + 9) := H3.out.2.2.kept HP.out.kept (by have := HBB.out.1; omega) (fun y hy => by omega) (by intro y hy; simp at hy; subst hy; simp)
      have hTab : TabAt wr := (HT.out.kept H3.out.1 id).kept HP.out.kept (by have := HBB.out; omega)
      have HI := Lib.hid (And.intro hib (And.intro hTab ht))
      clear hib hTab ht
      go_wp2_with fail
      refine (bus_subscribe b B 2 i [(5, B + 8)] (stI gp i) 5 3 2 0 (wordI (i + 1)) wr HI.out.1 rfl HI.out.2.2 HI.out.2.1 rfl (claim_at i hlt) (mlI_not i) (by show (mlI i).length ≤ 64; rw [mlI_length]; omega) (by show (-1 : Int) ≤ -1; omega) (by show (-1 : Int) < _; omega) (by have := HBB.out; omega)).mono ?_
      rintro e w4 ⟨u, r, K, rfl, k4, t4, s4, r4, l1, l2, l3⟩
      have t4' : TopicAt w4 B 2 (stI (some ⟨K, 0, none⟩) (i + 1)) := by
        have e1 : (stI (some ⟨K, 0, none⟩) (i + 1)) = { stI gp i with gp := some ⟨K, 0, none⟩, ml := (stI gp i).ml ++ [(i : Int)], num := upd (stI gp i).num i (stI gp i).cur, word := wordI (i + 1) } := by
          show TSt.mk _ _ _ _ _ _ _ _ _ _ = TSt.mk _ _ _ _ _ _ _ _ _ _
          congr 1
          · exact mlI_succ i
          · exact (upd_self i).symm
        rw [e1]; exact t4
      have r4' : RdAt w4 r (B + 4) (B + 7) i true 0 := r4
      have H4 := Lib.hid (And.intro s4 (HP.out.more HBB.out.2.2.1 k4 t4' s4 r4' l1 l2))
      clear k4 t4 t4' s4 r4 r4' l1 l2 l3
      have hs4 : w3.heap.size ≤ w4.heap.size := H4.out.2.1.size
      have hrow : (w4.alloc (.cells #[.pointer (some ⟨u, 0, none⟩)] 41)).ownsRow w3.heap.size 41 1 (.slice sA i sc) i (ptrs us i) := H4.out.2.2.2.1.alloc _
      have HR := Lib.hid hrow
      clear hrow
      go_wp2_with fail
      refine (sub_place u (B + 8) r i 3 2 0 _ H4.out.1).mono ?_
      rintro e w' ⟨rfl, hw'⟩
      subst hw'
      go_wp2_with (at_builtin; refine wpList_append_own _ rfl _ _ 40 rfl w3.heap.size 41 i0 (.pointer none) 1 8 Tryz.underlying40 hi0 hz0 hz1 hz2 rfl (by decide) _ _ _ rfl HR.out ⟨w4.heap.size, 0, none⟩ 1 1 [.pointer (some ⟨u, 0, none⟩)] rfl rfl ?c1 ?c2 ?c3 ?c4 ?c5 ?_)
      case c1 => exact cell_one_new _ _ _
      case c2 => simp [Value.oneCell']
      case c3 => unfold maxLen; omega
      case c4 => omega
      case c5 => simp; omega
      intro v' w5 hown1 hg1 _
      have HP5 : Hid (PlS w3 B (i + 1) (put1 us i u) (put1 rs i r) v' w5) := by
        have ka : Kept (fun _ => False) w4 (w4.alloc (.cells #[.pointer (some ⟨u, 0, none⟩)] 41)) := Kept.alloc _ _
        obtain ⟨-, q1, q2, q3, q4⟩ := H4.out
        obtain ⟨gp', q2⟩ := q2
        refine PlS.push HBB.out.2.2.1 (q1.trans (ka.mono fun _ _ z => z.elim)) ⟨gp', q2.kept (Z := fun _ => False) ka (fun _ z => z.elim)⟩ HR.out HP.out.none_ (fun j hj => (HP.out.sub j hj).2.2.1) (fun j hj => ?_) (Kept.grown hg1 fun k hk => hk) (by rw [← ptrs_more]; exact hown1)
        obtain ⟨p1, p2, p3, p4⟩ := q4 j hj
        exact ⟨Blk.kept p1 ka id, Blk.kept p2 ka id, p3, p4⟩
      clear hown1 hg1
      go_wp2
      go_roundw
      case rel => exact ⟨i + 1, _, _, by omega, by go_num, HP5.out⟩
      case measure => simp [intOf]; omega
    · have ei : i = 64 := by omega
      subst ei
      clear hlt hi hi0 hz0 hz1 hz2
      obtain ⟨gp, ht⟩ := HP.out.top
      have hib : BusIn wr b [(5, B + 8)] (B + 9) := H3.out.2.2.kept HP.out.kept (by have := HBB.out.1; omega) (fun y hy => by omega) (by intro y hy; simp at hy; subst hy; simp)
      have HI := Lib.hid (And.intro hib ht)
      clear hib ht
      go_wp2_with fail
      refine (subscribe_full b B 2 [(5, B + 8)] (stI gp 64) 5 0 0 0 wr HI.out.1 rfl HI.out.2 rfl rfl).mono ?_
      rintro e wf ⟨rfl, kf⟩
      have hPf := HP.out.later kf
      have htf := HI.out.2.kept (Z := fun _ => False) kf (fun _ z => z.elim)
      obtain ⟨L, rfl, hsc, h2⟩ := hPf.two HBB.out.2.2.1 k k' hk1 hk2.1 hk2.2
      generalize us k = u at h2
      generalize us k' = u' at h2
      generalize rs k = r at h2
      generalize rs k' = r' at h2
      have HF := Lib.hid (And.intro hPf.kept (And.intro htf h2))
      have ck := h2.ck
      have hscm : sc ≤ maxLen := by
        obtain ⟨_, h0, -, h4, h5, -⟩ := own_pos hPf.row (by omega)
        exact h5
      clear kf hPf htf h2
      have k0 : (0 : Int) ≤ k := by omega
      have kl : (k : Int) < 64 := by omega
      have hkm := HKK.out.1
      have hcx : IntKind.i64.wrap x = x := by rw [IntKind.wrap_i64]; omega
      go_wp2_with fail
      refine (sub_end u r B 2 k k (stI gp 64) 3 2 0 0 (18446744073709551615 - 2 ^ k) wf HF.out.2.2.s HF.out.2.2.rd HF.out.2.1 hk1 (by show k < (mlI 64).length; rw [mlI_length]; exact hk1) (mlI_get 64 k _) (fun j hj => mlI_diff 64 k j _ hj) (by show (mlI 64).length ≤ 64; rw [mlI_length]; omega) (drop_at k hk1) (by have := HBB.out.2.2.1; have := HF.out.2.2.lo; omega) (by have := HBB.out.2.2.1; have := HF.out.2.2.lo; omega) HF.out.2.2.ne.1).mono ?_
      rintro e w4 ⟨rfl, k4, e4, K4, t4⟩
      obtain ⟨d1, d2, d3, d4, d5⟩ := HF.out.2.2.lo
      obtain ⟨n1, n2, n3, n4, n5, n6, n7, n8, n9, n10⟩ := HF.out.2.2.ne
      have hB3 := HBB.out.2.2.1
      have q4 : Kept (fun x => x = B + 5 ∨ x = B + 7) w3 w4 := ((HF.out.1.mono (S' := fun y => y = B + 5 ∨ y = B + 7 ∨ y = r ∨ y = u) fun _ _ z => by rcases z with z | z <;> simp [z]).trans k4).mono fun y hy z => by omega
      have s4 : SubAt w4 u' (B + 8) r' 3 2 0 k' := Blk.kept HF.out.2.2.s' k4 (by omega)
      have r4 : RdAt w4 r' (B + 4) (B + 7) k' true 0 := Blk.kept HF.out.2.2.rd' k4 (by omega)
      have i4 : BusIn w4 b [(5, B + 8)] (B + 9) := H3.out.2.2.kept q4 (by have := HBB.out.1; omega) (fun y hy => by omega) (by intro y hy; simp at hy; subst hy; simp)
      have T4 : TabAt w4 := (HT.out.kept H3.out.1 id).kept q4 (by have := HBB.out; omega)
      have ck4 : w4.cell? ⟨L, k, none⟩ = some (.pointer (some ⟨u, 0, none⟩)) := cell_keep ck k4 (by show ¬ (L = B + 5 ∨ L = B + 7 ∨ L = r ∨ L = u); omega)
      have cl4 : w4.cell? ⟨L, k', none⟩ = some (.pointer (some ⟨u', 0, none⟩)) := cell_keep HF.out.2.2.ck' k4 (by show ¬ (L = B + 5 ∨ L = B + 7 ∨ L = r ∨ L = u); omega)
      have HD := Lib.hid (And.intro (show w3.heap.size ≤ L ∧ w3.heap.size ≤ u' ∧ w3.heap.size ≤ r' from ⟨d1, d4, d5⟩) (And.intro (show u' ≠ r' ∧ L ≠ u' ∧ L ≠ r' from ⟨n6, n9, n10⟩) hB3))
      have H4 := Lib.hid (And.intro q4 (And.intro e4 (And.intro t4 (And.intro s4 (And.intro r4 (And.intro i4 (And.intro T4 cl4)))))))
      clear k4 e4 t4 d1 d2 d3 d4 d5 n1 n2 n3 n4 n5 n6 n7 n8 n9 n10 hB3 q4 s4 r4 i4 T4 cl4 ck
      go_wp2_with (first | (go_at_call 18; refine (end_done u r k 3 2 0 _ H4.out.2.1).mono ?_; rintro e w' ⟨rfl, rfl⟩) | (go_at_call 17; refine (place_done u r k 3 2 0 _ H4.out.2.1).mono ?_; rintro e w' ⟨rfl, rfl⟩) | (go_at_call 19; refine (next_done u r k 3 2 0 _ H4.out.2.1).mono ?_; rintro e w' ⟨rfl, rfl⟩))
      refine (bus_subscribe b B 2 k [(5, B + 8)] _ 5 0 0 0 18446744073709551615 w4 H4.out.2.2.2.2.2.1 rfl H4.out.2.2.1 H4.out.2.2.2.2.2.2.1 rfl (claim_hole k hk1) (mlI_hole 64 k) (by show ((mlI 64).eraseIdx k).length ≤ 64; rw [List.length_eraseIdx_of_lt (by rw [mlI_length]; exact hk1), mlI_length]; omega) (by show (-1 : Int) ≤ -1; omega) (by show (-1 : Int) < _; omega) (by have := HBB.out; omega)).mono ?_
      rintro e w5 ⟨u5, r5, K5, rfl, k5, t5, s5, -⟩
      have H5 := Lib.hid (And.intro k5 (And.intro t5 s5))
      clear k5 t5 s5
      go_wp2_with fail
      refine (sub_place u5 (B + 8) r5 k 0 0 0 _ H5.out.2.2).mono ?_
      rintro e w' ⟨rfl, hw'⟩
      subst hw'
      go_wp2_with fail
      have k6 : Kept (fun _ => False) w5 (w5.alloc (.cells #[.int .i64 1, .int .i64 2] 2)) := Kept.alloc _ _
      have b6 := Blk.new w5 2 #[.int .i64 1, .int .i64 2]
      obtain ⟨V, hV⟩ : ∃ V, V = w5.heap.size := ⟨_, rfl⟩
      rw [← hV] at b6 ⊢
      generalize w5.alloc (.cells #[.int .i64 1, .int .i64 2] 2) = w6 at k6 b6 ⊢
      have q6 : Kept (fun x => x = B + 5 ∨ x = B + 7) w4 w6 := H5.out.1.trans (k6.mono fun _ _ z => z.elim)
      have i6 : BusIn w6 b [(5, B + 8)] (B + 9) := H4.out.2.2.2.2.2.1.kept q6 (by have := HBB.out.1; omega) (fun y hy => by omega) (by intro y hy; simp at hy; subst hy; simp)
      have t6 := H5.out.2.1.kept (Z := fun _ => False) k6 (fun _ z => z.elim)
      have hVB : V ≠ B ∧ V ≠ B + 2 := by have := H5.out.2.1.top.lt; omega
      have H6 := Lib.hid (And.intro q6 (And.intro b6 (And.intro i6 t6)))
      clear k6 b6 hV q6 i6 t6
      refine (bus_publish b B 2 V 2 [(5, B + 8)] _ 5 [1, 2] w6 H6.out.2.2.1 rfl H6.out.2.2.2 rfl (fun i hi => ?_) (by simp) (by unfold maxLen; omega) (by show (-1 : Int) ≤ -1; omega) (by show (-1 : Int) + 2 < _; omega) (by simp) (by simp) (by show (-1 : Int) + 2 - 2 ≤ -1; omega) (by show (-1 : Int) + 2 - 2 < 0; omega) hVB.1 hVB.2).mono ?_
      · match i, hi with
        | 0, _ => exact H6.out.2.1.cell 0
        | 1, _ => exact H6.out.2.1.cell 1
      clear hVB
      rintro e w7 ⟨he, k7, t7⟩
      have he : e = .returned (.tuple #[.int .i64 1, .int .i64 0]) := he
      subst he
      have H7 := Lib.hid (And.intro k7 t7)
      clear k7 t7
      go_wp2_with fail
      have k8 : Kept (fun _ => False) w7 (w7.alloc (.cells #[.int .i64 3] 2)) := Kept.alloc _ _
      obtain ⟨V2, hV2⟩ : ∃ V2, V2 = w7.heap.size := ⟨_, rfl⟩
      rw [← hV2]
      generalize w7.alloc (.cells #[.int .i64 3] 2) = w8 at k8 ⊢
      have q8 : Kept (fun x => x = B + 2 ∨ x = B) w6 w8 := H7.out.1.trans (k8.mono fun _ _ z => z.elim)
      have i8 : BusIn w8 b [(5, B + 8)] (B + 9) := H6.out.2.2.1.kept q8 (by have := HBB.out.1; omega) (fun y hy => by omega) (by intro y hy; simp at hy; subst hy; simp)
      have t8 := H7.out.2.kept (Z := fun _ => False) k8 (fun _ z => z.elim)
      have H8 := Lib.hid (And.intro q8 (And.intro i8 t8))
      clear k8 hV2 q8 i8 t8
      have hml : ((mlI 64).eraseIdx k ++ [(k : Int)]).length = 64 := by rw [List.length_append, List.length_eraseIdx_of_lt (by rw [mlI_length]; exact hk1), mlI_length]; rfl
      refine (publish_held b B 2 V2 1 1 [(5, B + 8)] _ 5 (-1) w8 H8.out.2.1 rfl H8.out.2.2 rfl (by omega) (by unfold maxLen; omega) (by show (-1 : Int) ≤ -1 + 2; omega) (by show (-1 : Int) + 2 + 1 < _; omega) (by omega) (by omega) (by show (-1 : Int) < -1 + 2 + 1 - 2; omega) (by show (-1 : Int) < -1 + 2 + 1 - 2; omega) (by show (-1 : Int) ≤ -1 + 2; omega) (by omega) (by show ((mlI 64).eraseIdx k ++ [(k : Int)]).length ≤ 64; omega) (by show 0 < ((mlI 64).eraseIdx k ++ [(k : Int)]).length; omega) (fun j hj => mlI_all k hk1 j hj)).mono ?_
      clear hml
      rintro e w9 ⟨rfl, k9, t9⟩
      have q9 : Kept (fun y => B ≤ y ∧ y ≤ B + 8) w4 w9 := ((H6.out.1.mono (S' := fun y => B ≤ y ∧ y ≤ B + 8) fun y _ z => by omega).trans (H8.out.1.mono fun y _ z => by omega)).trans (k9.mono fun y _ z => by omega)
      obtain ⟨d1, d2, d3⟩ := HD.out.1
      have hB3 := HD.out.2.2
      have s9 : SubAt w9 u' (B + 8) r' 3 2 0 k' := Blk.kept H4.out.2.2.2.1 q9 (by omega)
      have r9 : RdAt w9 r' (B + 4) (B + 7) k' true 0 := Blk.kept H4.out.2.2.2.2.1 q9 (by omega)
      have cl : w9.cell? ⟨L, k', none⟩ = some (.pointer (some ⟨u', 0, none⟩)) := cell_keep H4.out.2.2.2.2.2.2.2 q9 (by show ¬ (B ≤ L ∧ L ≤ B + 8); omega)
      have mA : MulAt w9 (B + 4) (B + 1) B (B + 2) (B + 3) 2 (wrS (fun _ => -2) 2 0 2) (wrV (fun _ => 0) 2 0 [1, 2] 2) 1 (-1) := t9.mulAt
      have hdr : r' ≠ B + 7 ∧ u' ≠ B + 7 := by omega
      have H9 := Lib.hid (And.intro q9 (And.intro s9 (And.intro r9 (And.intro mA (And.intro t9.gate hdr)))))
      clear k9 t9 q9 s9 r9 mA d1 d2 d3 hB3 hdr
      have hkm2 := HKK.out.2
      have k0' : (0 : Int) ≤ k' := by omega
      have kl' : (k' : Int) < 64 := by have := hk2.1; omega
      go_wp2_with fail
      refine (sub_poll _ 0 9 2 H9.out.2.1 H9.out.2.2.1 H9.out.2.2.2.1 H9.out.2.2.2.2.1 hk2.1 (by omega) (by omega) (by omega) (by omega) (by omega) (by decide) (fun j hj => ?_) (by omega) H9.out.2.2.2.2.2.1 (by omega) H9.out.2.2.2.2.2.2 HD.out.2.1.1).mono ?_
      · match j, hj with
        | 0, _ => rfl
        | 1, _ => rfl
      rintro e wz ⟨v', rfl, kz, oz, -, -⟩
      rw [show seenL 3 2 0 0 (rowV (wrV (fun _ => 0) 2 0 [1, 2] 2) 2 0 2) 2 = [(0, 1)] from rfl] at oz
      obtain ⟨vA, vc, rfl⟩ := own_slice oz
      obtain ⟨Lz, rfl, z0⟩ : ∃ Lz, vA = some ⟨Lz, 0, none⟩ ∧ wz.cell? ⟨Lz, 0, none⟩ = some (.int .i64 0) := by
        rcases oz.2 with ⟨-, h⟩ | ⟨g, cap, cur, hv, hb, hg, _⟩
        · exact absurd h (by decide)
        · simp only [Value.slice.injEq] at hv
          obtain ⟨rfl, -, rfl⟩ := hv
          exact ⟨g, rfl, oz.cellAt 0 (by decide)⟩
      have hend : Kept (fun _ => False) w wz := by
        have hlo := HD.out.1
        have hbb := HBB.out
        have k1 : Kept (fun y => B ≤ y) w3 wz := ((H4.out.1.mono (S' := fun y => B ≤ y) fun y _ z => by omega).trans (H9.out.1.mono fun y _ z => z.1)).trans (kz.mono fun y _ z => by omega)
        exact H3.out.1.later k1 fun y hy => by omega
      have HE := Lib.hid hend
      clear hend oz kz hkm hkm2
      simp only [List.length_cons, List.length_nil, Nat.zero_add]
      go_wp2
      go_ret
      exact ⟨rfl, HE.out⟩
end Go.Proofs.YtbmjmamodnapiaaGreatDoor
