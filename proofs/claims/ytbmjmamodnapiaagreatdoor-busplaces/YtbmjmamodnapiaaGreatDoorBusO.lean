/- DERIVED. A reader that finds nothing (package reader: Read); what a subscription reads (bus: read), lone. -/
import Derived.Test.YtbmjmamodnapiaaGreatDoorBusN
namespace Go.Proofs.YtbmjmamodnapiaaGreatDoor
open Go.RowKit
set_option linter.unusedVariables false
set_option maxHeartbeats 4000000 in
set_option maxRecDepth 100000 in
theorem reader_empty {w : World} {M R Rs C Sn n r G i : Nat} {st va f : Nat → Int} {cur seen : Int} (gp : Option Addr) (q m : Int) (hr : RdAt w r M G i true q) (hM : MulAt w M R Rs C Sn n st va cur seen) (hG : GateAt w G gp f) (hi : i < 64)
    (h0 : 0 ≤ q) (hq : cur < q) (hq1 : q < 4611686018427387904) (h1 : -1 ≤ cur) (hm0 : -9223372036854775808 ≤ m) (hm1 : m < 9223372036854775808) (d1 : r ≠ G) (d2 : M ≠ G) :
    Calls Tryz.prog 69 #[.pointer (some ⟨r, 0, none⟩), .nilIface, .int .i64 m] w fun e w' => e = .returned (.tuple #[.slice none 0 0, .int .i64 4]) ∧ Kept (fun _ => False) w w' := by
  have hn := hM.ring.pos
  have h2 := hM.ring.most
  have c0 : w.cell? ⟨r, 0, none⟩ = some (.pointer (some ⟨M, 0, none⟩)) := Blk.cell hr 0
  have HH := Lib.hid (And.intro hr (And.intro hM hG))
  have HD := Lib.hid (And.intro d1 d2)
  clear hr hM hG d1 d2
  obtain ⟨X1, e1⟩ : ∃ X1, (if m < 1 then 1 else m) = X1 := ⟨_, rfl⟩
  obtain ⟨X2, e2⟩ : ∃ X2, (if (n : Int) < X1 then (n : Int) else X1) = X2 := ⟨_, rfl⟩
  obtain ⟨x0, x1, x2⟩ : 1 ≤ X2 ∧ X2 ≤ n ∧ X2 = min (max m 1) n := by
    rw [← e2, ← e1]
    split <;> split <;> omega
  have e3 : (if q + X2 - 1 < cur then q + X2 - 1 else cur) = cur := by
    split <;> omega
  have HE3 := Lib.hid e3
  clear e3 x2
  go_enter Tryz.func69, Tryz.ntmps69
  go_wp2_with (first | (go_at_call 64; refine (reader_joined r G i true q HH.out.1).mono ?_; rintro e w' ⟨rfl, rfl⟩) | (go_at_call 90; refine (multi_size HH.out.2.1).mono ?_; rintro e w' ⟨rfl, rfl⟩) | (go_at_call 62; refine (multi_cursor M R C Sn 0 cur _ HH.out.2.1.mul HH.out.2.1.cw).mono ?_; rintro e w' ⟨rfl, rfl⟩))
  rename_i K0 hK0
  refine strictL ?_
  refine wp_region_held (S := Kept (fun _ => False) w) (by kernel_rfl) ?_
  simp only [List.size_toArray, List.length_cons, List.length_nil, Nat.reduceAdd]
  have HW1 : Hid (Kept (fun _ => False) w { w with drawn := w.drawn + 1 }) := Lib.hid (Kept.drew w)
  iterate 17
    first
    | refine rdL 0 20 32 ?_
    | refine rdL 1 19 33 ?_
    | refine rdL 2 18 34 ?_
    | refine rdL 3 17 35 ?_
    | refine rdL 5 16 37 ?_
    | refine rdL 6 15 38 ?_
    | refine rdL 7 14 39 ?_
    | refine rdL 8 13 40 ?_
    | refine rdL 9 12 41 ?_
    | refine rdL 10 11 42 ?_
    | refine rdL 11 10 43 ?_
    | refine rdL 12 9 44 ?_
    | refine rdL 13 8 45 ?_
    | refine rdL 14 7 46 ?_
    | refine rdL 15 6 47 ?_
    | refine rdL 16 5 48 ?_
    | refine rdL 17 4 49 ?_
    refine ⟨_, rfl, rfl, by kernel_rfl, by kernel_rfl, by kernel_rfl, (fun c a w h => by cases h.1), rfl, HW1.out, ?_⟩
    apply Exists.intro
    refine ⟨fun wq hw => ?_, ?_⟩
    · have hb : Blk wq r 157 _ := Blk.kept HH.out.1 hw id
      have c0 : wq.cell? ⟨r, 0, none⟩ = some (.pointer (some ⟨M, 0, none⟩)) := hb.cell 0
      have c4 : wq.cell? ⟨r, 4, none⟩ = some (.int .i64 q) := hb.cell 4
      clear hb
      go_simp
      rfl
    simp only [Act.put, List.setIfInBounds_toArray, List.set_cons_zero, List.set_cons_succ]
  have e3 := HE3.out
  refine rdL 18 3 50 ?_
  refine ⟨_, rfl, rfl, by kernel_rfl, by kernel_rfl, by kernel_rfl, (fun c a w h => by cases h.1), rfl, HW1.out, ?_⟩
  refine ⟨.int .i64 cur, fun wq hw => ?_, ?_⟩
  · go_simp
    rw [IntWalk.i64_in (q + X2) (by omega), IntWalk.i64_in (q + X2 - 1) (by omega)]; omega
  simp only [Act.put, List.setIfInBounds_toArray, List.set_cons_zero, List.set_cons_succ]
  have hkd : Kept (fun _ => False) w { w with drawn := w.drawn + 1 } := Kept.drew w
  clear HW1 c0 e3
  generalize ({ w with drawn := w.drawn + 1 } : World) = wd at hkd ⊢
  have HY := Lib.hid hkd
  clear hkd
  have hMd : MulAt wd M R Rs C Sn n st va cur seen := HH.out.2.1.turned (HH.out.2.1.ring.kept HY.out id id) HY.out id id id
  have HMd := Lib.hid hMd
  clear hMd
  refine oneL (i := 4) (fuel := 2) (by kernel_rfl) rfl rfl fun K hK' => ?_
  unfold Oper.wp
  go_simp
  refine (multi_ring HMd.out).mono ?_
  rintro e w' ⟨rfl, rfl⟩
  dsimp only
  refine hK' _ _ HY.out ?_
  clear hK' K
  refine oneL (i := 19) (fuel := 1) (by kernel_rfl) rfl rfl fun K hK' => ?_
  unfold Oper.wp
  go_simp
  refine (highest_below 0 0 q cur R Rs n HMd.out.ring h0 hq1 hq (by omega)).mono ?_
  rintro e wd ⟨rfl, hw2⟩
  subst hw2
  dsimp only
  have H2 := HY
  refine hK' _ _ H2.out ?_
  clear hK' K
  refine oneL (i := 20) (fuel := 0) (by kernel_rfl) rfl rfl fun K hK' => ?_
  unfold Oper.wp
  go_simp
  refine hK' _ _ H2.out ?_
  clear hK' K
  refine wpAnyH_done (by kernel_rfl) ⟨rfl, ?_⟩ _
  refine hK0 _ _ ?_
  clear hK0 K0 HMd HY
  have r2 : RdAt wd r M G i true q := Blk.kept HH.out.1 H2.out id
  have c4 : wd.cell? ⟨r, 4, none⟩ = some (.int .i64 q) := Blk.cell r2 4
  clear r2
  go_wp2
  go_ret2
  exact ⟨rfl, H2.out⟩
theorem sub_read {w : World} {M R Rs C Sn n u t r G i : Nat} {kd a b : Int} {st va f : Nat → Int} {cur seen : Int} (gp : Option Addr) (q m : Int) (k : Nat) (hu : SubAt w u t r kd a b i) (hr : RdAt w r M G i true q) (hM : MulAt w M R Rs C Sn n st va cur seen) (hG : GateAt w G gp f) (hi : i < 64)
    (h0 : 0 ≤ q) (hq : q ≤ cur) (h1 : cur < 4611686018427387904) (hm0 : -9223372036854775808 ≤ m) (hm1 : m < 9223372036854775808) (hk : (k : Int) = min (cur - q + 1) (min (max m 1) n)) (hst : ∀ j : Nat, j < k → st ((q + j) % n).toNat = 2 * ((q + j) / n)) (d1 : r ≠ G) (d2 : M ≠ G) :
    Calls Tryz.prog 44 #[.pointer (some ⟨u, 0, none⟩), .nilIface, .int .i64 m] w fun e w' => ∃ v', e = .returned (.tuple #[v', .int .i64 0, .int .i64 0]) ∧ Kept (fun b => b = G ∨ b = r) w w' ∧ w'.ownsRow w.heap.size 2 1 v' k ((rowV va n q k).map (Value.int .i64)) ∧ RdAt w' r M G i true (q + k) ∧ GateAt w' G gp (upd f i (q + k - 1)) := by
  have c5 : w.cell? ⟨u, 5, none⟩ = some (.pointer (some ⟨r, 0, none⟩)) := Blk.cell hu 5
  have HH := Lib.hid (And.intro hr (And.intro hM hG))
  have HS := Lib.hid (And.intro h0 (And.intro hq (And.intro h1 (And.intro hm0 (And.intro hm1 (And.intro hk (And.intro hst (And.intro d1 d2))))))))
  clear hu hr hM hG h0 hq h1 hm0 hm1 hk hst d1 d2
  go_enter Tryz.func44, Tryz.ntmps44
  go_wp2_with fail
  obtain ⟨h0, hq, h1, hm0, hm1, hk, hst, d1, d2⟩ := HS.out
  refine (reader_read gp q m k HH.out.1 HH.out.2.1 HH.out.2.2 hi h0 hq h1 hm0 hm1 hk hst d1 d2).mono ?_
  rintro e w1 ⟨v', rfl, k1, o1, r1, g1⟩
  have H1 := Lib.hid (And.intro k1 (And.intro o1 (And.intro r1 g1)))
  clear k1 o1 r1 g1 hk hst
  go_wp2
  go_ret3
  exact ⟨v', rfl, H1.out⟩
theorem sub_empty {w : World} {M R Rs C Sn n u t r G i : Nat} {kd a b : Int} {st va f : Nat → Int} {cur seen : Int} (gp : Option Addr) (q m : Int) (hu : SubAt w u t r kd a b i) (hr : RdAt w r M G i true q) (hM : MulAt w M R Rs C Sn n st va cur seen) (hG : GateAt w G gp f) (hi : i < 64)
    (h0 : 0 ≤ q) (hq : cur < q) (hq1 : q < 4611686018427387904) (h1 : -1 ≤ cur) (hm0 : -9223372036854775808 ≤ m) (hm1 : m < 9223372036854775808) (d1 : r ≠ G) (d2 : M ≠ G) :
    Calls Tryz.prog 44 #[.pointer (some ⟨u, 0, none⟩), .nilIface, .int .i64 m] w fun e w' => e = .returned (.tuple #[.slice none 0 0, .int .i64 0, .int .i64 4]) ∧ Kept (fun _ => False) w w' := by
  have c5 : w.cell? ⟨u, 5, none⟩ = some (.pointer (some ⟨r, 0, none⟩)) := Blk.cell hu 5
  have HH := Lib.hid (And.intro hr (And.intro hM hG))
  clear hu hr hM hG
  go_enter Tryz.func44, Tryz.ntmps44
  go_wp2_with fail
  refine (reader_empty gp q m HH.out.1 HH.out.2.1 HH.out.2.2 hi h0 hq hq1 h1 hm0 hm1 d1 d2).mono ?_
  rintro e w1 ⟨rfl, k1⟩
  have H1 := Lib.hid k1
  clear k1
  go_wp2
  go_ret3
  exact ⟨rfl, H1.out⟩
end Go.Proofs.YtbmjmamodnapiaaGreatDoor
