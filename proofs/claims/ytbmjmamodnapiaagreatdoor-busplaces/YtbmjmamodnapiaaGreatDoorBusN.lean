/- DERIVED. A reader's batch (package reader: Read), lone. -/
import Derived.Test.YtbmjmamodnapiaaGreatDoorBusM
namespace Go.Proofs.YtbmjmamodnapiaaGreatDoor
open Go.RowKit
set_option linter.unusedVariables false
theorem Tryz.infoI64 : (Tryz.prog.info? 2).map (fun i => (i.zero, i.size, i.bytes)) = some (some (.int .i64 0), 1, 8) := by kernel_rfl
/-- The values of k sequences from q on. -/
def rowV (va : Nat → Int) (n : Nat) (q : Int) (k : Nat) : List Int := (List.range k).map fun i : Nat => va ((q + i) % n).toNat
theorem rowV_succ (va : Nat → Int) (n : Nat) (q : Int) (k : Nat) : rowV va n q (k + 1) = rowV va n q k ++ [va ((q + k) % n).toNat] := by simp [rowV, List.range_succ]
theorem highR_all (st : Nat → Int) (n : Nat) : ∀ (k : Nat) (q : Int), (∀ j, j < k → st ((q + j) % n).toNat = 2 * ((q + j) / n)) → (highR st n k q).1 = q + k - 1
  | 0, q, _ => by simp [highR]
  | k + 1, q, h => by
    have h0 := h 0 (by omega)
    simp only [Int.natCast_zero, Int.add_zero] at h0
    have := highR_all st n k (q + 1) (fun j hj => by
      have := h (j + 1) (by omega)
      rw [show q + 1 + (j : Int) = q + ((j + 1 : Nat) : Int) from by omega]
      exact this)
    simp only [highR, h0, if_true, this]
    omega
theorem cell_new1 (w : World) (v : Value) (t : TypeId) : ∀ j u, [v][j]? = some u → (w.alloc (.cells #[v] t)).cell? ((⟨w.heap.size, 0, none⟩ : Addr).add j) = some u := by
  intro j u h
  cases j with
  | zero =>
    simp only [List.getElem?_cons_zero, Option.some.injEq] at h
    subst h
    exact (Blk.new w t #[v]).cell 0
  | succ j => simp at h
section
variable {w : World} {M R Rs C Sn n : Nat} {st va : Nat → Int} {cur seen : Int}
theorem multi_ring (h : MulAt w M R Rs C Sn n st va cur seen) : Calls Tryz.prog 95 #[.pointer (some ⟨M, 0, none⟩)] w fun e w' => e = .returned (.pointer (some ⟨R, 0, none⟩)) ∧ w = w' := by
  have c0 : w.cell? ⟨M, 0, none⟩ = some (.pointer (some ⟨R, 0, none⟩)) := h.mul.cell 0
  have HH := Lib.hid h
  clear h
  go_enter Tryz.func95, Tryz.ntmps95
  go_wp2_with (go_at_call 84; refine (multi_no M R C Sn 0 _ HH.out.mul).mono ?_; rintro e w' ⟨rfl, rfl⟩)
  go_ret
  exact ⟨rfl, rfl⟩
theorem reader_joined (r G i : Nat) (j : Bool) (q : Int) (h : RdAt w r M G i j q) : Calls Tryz.prog 64 #[.pointer (some ⟨r, 0, none⟩)] w fun e w' => e = .returned (.bool j) ∧ w = w' := by
  have c0 : w.cell? ⟨r, 3, none⟩ = some (.bool j) := Blk.cell h 3
  clear h
  go_enter Tryz.func64, Tryz.ntmps64
  go_wp2
  go_ret
  exact ⟨rfl, rfl⟩
theorem highest_below (rb sb a b : Int) (R Rs n : Nat) (H : RingAt w R Rs n st va) (h0 : 0 ≤ a) (h1 : a < 4611686018427387904) (hb : b < a) (hb0 : -9223372036854775808 ≤ b) : Calls Tryz.prog 96 #[.pointer (some ⟨R, 0, none⟩), .nilIface, .int .i64 a, .int .i64 b] w fun e w' => e = .returned (.int .i64 (a - 1)) ∧ w = w' := by
  have hn := H.pos
  have h2 := H.most
  have hr := H.ring
  clear H
  go_enter Tryz.func96, Tryz.ntmps96
  go_wp2_with (go_at_call 108; refine (good_yes _ _ n n a _ hr hn h0 h1).mono ?_; rintro e w' ⟨rfl, rfl⟩)
  go_ret
  exact ⟨rfl, rfl⟩
end
set_option maxHeartbeats 4000000 in
set_option maxRecDepth 100000 in
theorem reader_read {w : World} {M R Rs C Sn n r G i : Nat} {st va f : Nat → Int} {cur seen : Int} (gp : Option Addr) (q m : Int) (k : Nat) (hr : RdAt w r M G i true q) (hM : MulAt w M R Rs C Sn n st va cur seen) (hG : GateAt w G gp f) (hi : i < 64)
    (h0 : 0 ≤ q) (hq : q ≤ cur) (h1 : cur < 4611686018427387904) (hm0 : -9223372036854775808 ≤ m) (hm1 : m < 9223372036854775808) (hk : (k : Int) = min (cur - q + 1) (min (max m 1) n)) (hst : ∀ j : Nat, j < k → st ((q + j) % n).toNat = 2 * ((q + j) / n)) (d1 : r ≠ G) (d2 : M ≠ G) :
    Calls Tryz.prog 69 #[.pointer (some ⟨r, 0, none⟩), .nilIface, .int .i64 m] w fun e w' => ∃ v', e = .returned (.tuple #[v', .int .i64 0]) ∧ Kept (fun b => b = G ∨ b = r) w w' ∧ w'.ownsRow w.heap.size 2 1 v' k ((rowV va n q k).map (Value.int .i64)) ∧ RdAt w' r M G i true (q + k) ∧ GateAt w' G gp (upd f i (q + k - 1)) := by
  have hn := hM.ring.pos
  have h2 := hM.ring.most
  have c0 : w.cell? ⟨r, 0, none⟩ = some (.pointer (some ⟨M, 0, none⟩)) := Blk.cell hr 0
  have HH := Lib.hid (And.intro hr (And.intro hM hG))
  have HS := Lib.hid (And.intro hk hst)
  have HD := Lib.hid (And.intro d1 d2)
  clear hr hM hG hst d1 d2 hk
  obtain ⟨X1, e1⟩ : ∃ X1, (if m < 1 then 1 else m) = X1 := ⟨_, rfl⟩
  obtain ⟨X2, e2⟩ : ∃ X2, (if (n : Int) < X1 then (n : Int) else X1) = X2 := ⟨_, rfl⟩
  obtain ⟨x0, x1, x2⟩ : 1 ≤ X2 ∧ X2 ≤ n ∧ X2 = min (max m 1) n := by
    rw [← e2, ← e1]
    split <;> split <;> omega
  have e3 : (if q + X2 - 1 < cur then q + X2 - 1 else cur) = q + k - 1 := by
    have := HS.out.1
    split <;> omega
  have hkk : 1 ≤ k ∧ q + k - 1 ≤ cur ∧ k ≤ n := by have := HS.out.1; omega
  obtain ⟨hk1, hk2, hk3⟩ := hkk
  have HE3 := Lib.hid e3
  clear e3 x2
  go_enter Tryz.func69, Tryz.ntmps69
  go_wp2_with (first | (go_at_call 64; refine (reader_joined r G i true q HH.out.1).mono ?_; rintro e w' ⟨rfl, rfl⟩) | (go_at_call 90; refine (multi_size HH.out.2.1).mono ?_; rintro e w' ⟨rfl, rfl⟩) | (go_at_call 62; refine (multi_cursor M R C Sn 0 cur _ HH.out.2.1.mul HH.out.2.1.cw).mono ?_; rintro e w' ⟨rfl, rfl⟩))
  rename_i K0 hK0
  refine strictL ?_
  refine wp_region_held (S := Kept (fun _ => False) w) (by kernel_rfl) ?_
  simp only [List.size_toArray, List.length_cons, List.length_nil, Nat.reduceAdd]
  have HW1 : Hid (Kept (fun _ => False) w { w with drawn := w.drawn + 1 }) := Lib.hid (Kept.drew w)
  iterate 17
    first
    | refine rdL 0 20 32 ?_
    | refine rdL 1 19 33 ?_
    | refine rdL 2 18 34 ?_
    | refine rdL 3 17 35 ?_
    | refine rdL 5 16 37 ?_
    | refine rdL 6 15 38 ?_
    | refine rdL 7 14 39 ?_
    | refine rdL 8 13 40 ?_
    | refine rdL 9 12 41 ?_
    | refine rdL 10 11 42 ?_
    | refine rdL 11 10 43 ?_
    | refine rdL 12 9 44 ?_
    | refine rdL 13 8 45 ?_
    | refine rdL 14 7 46 ?_
    | refine rdL 15 6 47 ?_
    | refine rdL 16 5 48 ?_
    | refine rdL 17 4 49 ?_
    refine ⟨_, rfl, rfl, by kernel_rfl, by kernel_rfl, by kernel_rfl, (fun c a w h => by cases h.1), rfl, HW1.out, ?_⟩
    apply Exists.intro
    refine ⟨fun wq hw => ?_, ?_⟩
    · have hb : Blk wq r 157 _ := Blk.kept HH.out.1 hw id
      have c0 : wq.cell? ⟨r, 0, none⟩ = some (.pointer (some ⟨M, 0, none⟩)) := hb.cell 0
      have c4 : wq.cell? ⟨r, 4, none⟩ = some (.int .i64 q) := hb.cell 4
      clear hb
      go_simp
      rfl
    simp only [Act.put, List.setIfInBounds_toArray, List.set_cons_zero, List.set_cons_succ]
  have e3 := HE3.out
  refine rdL 18 3 50 ?_
  refine ⟨_, rfl, rfl, by kernel_rfl, by kernel_rfl, by kernel_rfl, (fun c a w h => by cases h.1), rfl, HW1.out, ?_⟩
  refine ⟨.int .i64 (q + k - 1), fun wq hw => ?_, ?_⟩
  · go_simp
    rw [IntWalk.i64_in (q + X2) (by omega), IntWalk.i64_in (q + X2 - 1) (by omega), e3]
  simp only [Act.put, List.setIfInBounds_toArray, List.set_cons_zero, List.set_cons_succ]
  have hkd : Kept (fun _ => False) w { w with drawn := w.drawn + 1 } := Kept.drew w
  clear HW1 c0 e3
  generalize ({ w with drawn := w.drawn + 1 } : World) = wd at hkd ⊢
  have HY := Lib.hid hkd
  clear hkd
  have hMd : MulAt wd M R Rs C Sn n st va cur seen := HH.out.2.1.turned (HH.out.2.1.ring.kept HY.out id id) HY.out id id id
  have HMd := Lib.hid hMd
  clear hMd
  refine oneL (i := 4) (fuel := 2) (by kernel_rfl) rfl rfl fun K hK' => ?_
  unfold Oper.wp
  go_simp
  refine (multi_ring HMd.out).mono ?_
  rintro e w' ⟨rfl, rfl⟩
  dsimp only
  refine hK' _ _ HY.out ?_
  clear hK' K
  refine oneL (i := 19) (fuel := 1) (by kernel_rfl) rfl rfl fun K hK' => ?_
  unfold Oper.wp
  go_simp
  refine (highest_x Stepper.none slots_step_none 0 R Rs n st va q (q + k - 1) wd HMd.out.ring h0 (by omega) (by omega) (by omega) trivial id id).mono ?_
  rintro e w2 ⟨rfl, k2, s2, -⟩
  rw [show highN n q (q + k - 1) = k from by unfold highN; omega, highR_all st n k q HS.out.2]
  dsimp only
  have hk2' : Kept (fun _ => False) w w2 := HY.out.trans k2
  have H2 := Lib.hid hk2'
  clear k2 s2 hk2'
  refine hK' _ _ H2.out ?_
  clear hK' K
  refine oneL (i := 20) (fuel := 0) (by kernel_rfl) rfl rfl fun K hK' => ?_
  unfold Oper.wp
  go_simp
  refine hK' _ _ H2.out ?_
  clear hK' K
  refine wpAnyH_done (by kernel_rfl) ⟨rfl, ?_⟩ _
  refine hK0 _ _ ?_
  clear hK0 K0 HMd HY wd
  have r2 : RdAt w2 r M G i true q := Blk.kept HH.out.1 H2.out id
  have c4 : w2.cell? ⟨r, 4, none⟩ = some (.int .i64 q) := Blk.cell r2 4
  have HR2 := Lib.hid r2
  clear r2
  go_wp2_with fail
  clear c4
  obtain ⟨t0, hi0, hz0, hz1, hz2⟩ := info_parts Tryz.infoI64
  go_loopw [10, 11] (fun l p wr => ∃ j : Nat, j ≤ k ∧ p = .int .i64 (q + j) ∧ Hid (wr.ownsRow w.heap.size 2 1 l j ((rowV va n q j).map (Value.int .i64)) ∧ Kept (fun b => w.heap.size ≤ b) w2 wr)) (fun l p _ => k - (intOf p - q).toNat)
  case atStart => exact ⟨0, by omega, by simp, Lib.hid ⟨World.ownsRow_nil _ _ _ _, Kept.refl _ _⟩⟩
  case round =>
    obtain ⟨j, hj, rfl, HR⟩ := hrel
    have hkz : Kept (fun b => w.heap.size ≤ b) w wr := (H2.out.mono fun _ _ z => z.elim).trans HR.out.2
    have HKZ := Lib.hid hkz
    clear hkz
    obtain ⟨oA, oc, rfl⟩ := own_slice HR.out.1
    by_cases hlt : j < k
    · have hMr : MulAt wr M R Rs C Sn n st va cur seen := HH.out.2.1.turned (HH.out.2.1.ring.kept HKZ.out (fun z => by have := HH.out.2.1.ring.rlt; omega) (fun z => by have := HH.out.2.1.ring.glt; omega)) HKZ.out (fun z => by have := HH.out.2.1.mul.lt; omega) (fun z => by have := HH.out.2.1.cw.lt; omega) (fun z => by have := HH.out.2.1.sw.lt; omega)
      have hRr : Blk wr r 157 _ := Blk.kept HH.out.1 HKZ.out (fun z => by have := Blk.lt HH.out.1; omega)
      have c0 : wr.cell? ⟨r, 0, none⟩ = some (.pointer (some ⟨M, 0, none⟩)) := hRr.cell 0
      have HMr := Lib.hid hMr
      clear hMr hRr
      go_wp2_with (go_at_call 95; refine (multi_ring HMr.out).mono ?_; rintro e w' ⟨rfl, rfl⟩)
      refine (get_ok Stepper.none slots_step_none 0 R Rs n st va (q + j) wr HMr.out.ring (by omega) (by omega) (HS.out.2 j hlt) trivial id id).mono ?_
      rintro e w3 ⟨rfl, k3, s3, -⟩
      have HG := Lib.hid (rowV_succ va n q j)
      generalize va ((q + j) % n).toNat = x at HG
      have HO := Lib.hid (own_kept HR.out.1 k3 (fun _ _ z => z))
      have HK3 := Lib.hid (HR.out.2.trans (k3.mono fun _ _ z => z.elim))
      have hsz : w.heap.size ≤ w3.heap.size := Nat.le_trans HKZ.out.size k3.size
      clear k3 s3 c0
      go_wp2_with (at_builtin; refine wpList_append_own _ rfl _ _ 60 rfl w.heap.size 2 t0 (.int .i64 0) 1 8 Tryz.underlying60 hi0 hz0 hz1 hz2 rfl (by decide) _ _ _ rfl (HO.out.alloc _) ⟨w3.heap.size, 0, none⟩ 1 1 [.int .i64 x] rfl rfl ?c1 ?c2 ?c3 ?c4 ?c5 ?_)
      case c1 => exact cell_new1 _ _ _
      case c2 => simp [Value.oneCell']
      case c3 => unfold maxLen; omega
      case c4 => omega
      case c5 => simp; omega
      intro v' w4 hown1 hg1 _
      have ho1 : w4.ownsRow w.heap.size 2 1 v' (j + 1) ((rowV va n q (j + 1)).map (Value.int .i64)) := by
        rw [HG.out, List.map_append]
        exact hown1
      have hk4 : Kept (fun b => w.heap.size ≤ b) w3 w4 := (Kept.alloc _ _).trans (Kept.grown hg1 (fun b hb => (HO.out.lt b hb).1))
      have HO2 := Lib.hid (And.intro ho1 (HK3.out.trans hk4))
      clear hown1 hg1 ho1 hk4
      obtain ⟨oA', oc', rfl⟩ := own_slice HO2.out.1
      go_wp2
      go_roundw
      case rel => exact ⟨j + 1, by omega, by go_num, HO2⟩
      case measure => simp [intOf]; omega
    · have hjk : j = k := by omega
      subst hjk
      have HRr := Lib.hid (show RdAt wr r M G i true q from Blk.kept HH.out.1 HKZ.out (fun z => by have := Blk.lt HH.out.1; omega))
      go_wp2_with fail
      rename_i K0 hK0
      refine strictL ?_
      refine wp_region_held (S := Kept (fun b => b = G) wr) (by kernel_rfl) ?_
      simp only [List.size_toArray, List.length_cons, List.length_nil, Nat.reduceAdd]
      have HW1 : Hid (Kept (fun b => b = G) wr { wr with drawn := wr.drawn + 1 }) := Lib.hid (Kept.drew wr)
      iterate 10
        first
        | refine rdL 0 10 84 ?_
        | refine rdL 1 9 85 ?_
        | refine rdL 2 8 86 ?_
        | refine rdL 3 7 87 ?_
        | refine rdL 4 6 88 ?_
        | refine rdL 5 5 89 ?_
        | refine rdL 6 4 90 ?_
        | refine rdL 7 3 91 ?_
        | refine rdL 8 2 92 ?_
        | refine rdL 9 1 93 ?_
        refine ⟨_, rfl, rfl, by kernel_rfl, by kernel_rfl, by kernel_rfl, (fun c a w h => by cases h.1), rfl, HW1.out, ?_⟩
        apply Exists.intro
        refine ⟨fun wq hw => ?_, ?_⟩
        · have hb : Blk wq r 157 _ := Blk.kept HRr.out hw HD.out.1
          have c1 : wq.cell? ⟨r, 1, none⟩ = some (.pointer (some ⟨G, 0, none⟩)) := hb.cell 1
          have c2 : wq.cell? ⟨r, 2, none⟩ = some (.int .i64 i) := hb.cell 2
          clear hb
          go_simp
          rfl
        simp only [Act.put, List.setIfInBounds_toArray, List.set_cons_zero, List.set_cons_succ]
      have hkd : Kept (fun _ => False) wr { wr with drawn := wr.drawn + 1 } := Kept.drew wr
      clear HW1
      generalize ({ wr with drawn := wr.drawn + 1 } : World) = wd at hkd ⊢
      have HY := Lib.hid hkd
      clear hkd
      have HGd := Lib.hid ((HH.out.2.2.kept HKZ.out (fun z => by have := HH.out.2.2.lt; omega)).kept HY.out id)
      refine oneL (i := 10) (fuel := 0) (by kernel_rfl) rfl rfl fun K' hK' => ?_
      unfold Oper.wp
      go_simp
      refine (gate_set G i _ _ (q + j - 1) wd HGd.out hi).mono ?_
      rintro e w5 ⟨rfl, hw5⟩
      dsimp only
      have k5 : Kept (fun b => b = G) wd w5 := hw5 ▸ Kept.setCell (S := fun b => b = G) wd (p := ⟨G, 1 + i, none⟩) (by rfl) _
      have g5 : GateAt w5 G gp (upd f i (q + j - 1)) := hw5 ▸ HGd.out.setNum hi (q + j - 1)
      have H5 := Lib.hid (And.intro ((HY.out.mono fun _ _ z => z.elim).trans k5) g5)
      clear k5 g5 hw5
      refine hK' _ _ H5.out.1 ?_
      clear hK' K'
      refine wpAnyH_done (by kernel_rfl) ⟨rfl, ?_⟩ _
      refine hK0 _ _ ?_
      clear hK0 K0
      have r5 : Blk w5 r 157 _ := Blk.kept HRr.out H5.out.1 HD.out.1
      have c4 : w5.cell? ⟨r, 4, none⟩ = some (.int .i64 q) := r5.cell 4
      have z4 : w5.frozen? ⟨r, 4, none⟩ = false := r5.frozen 4
      have r6 := r5.set_ 4 (.int .i64 (q + j))
      have k6 : Kept (fun b => b = r) w5 (w5.setCell ⟨r, 4, none⟩ (.int .i64 (q + j))) := Kept.setCell (S := fun b => b = r) w5 (p := ⟨r, 4, none⟩) rfl _
      have H6 := Lib.hid (And.intro r6 k6)
      have H4 := Lib.hid c4
      have hw6 : wrap64 (q + j - 1 + 1) = q + j := by rw [show q + (j : Int) - 1 + 1 = q + j from by omega]; exact IntWalk.wrap64_in _ (by omega)
      clear r5 r6 k6
      go_wp2
      go_ret2
      obtain ⟨r6, k6⟩ := H6.out
      have hrlt := Blk.lt HH.out.1
      have hGlt := HH.out.2.2.lt
      have kall : Kept (fun b => b = G ∨ b = r) w (w5.setCell ⟨r, 4, none⟩ (.int .i64 (q + j))) := ((HKZ.out.mono (S' := fun b => b = G ∨ b = r ∨ w.heap.size ≤ b) fun _ _ z => .inr (.inr z)).trans ((H5.out.1.mono fun _ _ z => .inl z).trans (k6.mono fun _ _ z => .inr (.inl z)))).mono fun x hx z => by
        rcases z with z | z | z
        · exact .inl z
        · exact .inr z
        · omega
      exact ⟨_, rfl, kall, own_kept (own_kept HR.out.1 H5.out.1 (fun b hb z => by have z : b = G := z; omega)) k6 (fun b hb z => by have z : b = r := z; omega), r6, H5.out.2.kept k6 (fun z => HD.out.1 z.symm)⟩
end Go.Proofs.YtbmjmamodnapiaaGreatDoor
