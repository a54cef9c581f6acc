/- DERIVED. The document's example (package carillonlaw19: awake), lone. -/
import Derived.Test.YtbmjmamodnapiaaGreatDoorBusR
namespace Go.Proofs.YtbmjmamodnapiaaGreatDoor
open Go.RowKit
set_option linter.unusedVariables false
theorem bus_new (w : World) : Calls Tryz.prog 14 #[] w fun e w' => e = .returned (.pointer (some ⟨w.heap.size, 0, none⟩)) ∧ w.alloc (.cells #[.pointer none] 72) = w' := by
  go_enter Tryz.func14, Tryz.ntmps14
  go_wp2
  go_ret
  exact ⟨rfl, rfl⟩
theorem MulAt.kept {Z : Nat → Prop} {w w' : World} {M R Rs C Sn n : Nat} {st va : Nat → Int} {cur seen : Int} (h : MulAt w M R Rs C Sn n st va cur seen) (k : Kept Z w w') (z1 : ¬ Z M) (z2 : ¬ Z R) (z3 : ¬ Z Rs) (z4 : ¬ Z C) (z5 : ¬ Z Sn) : MulAt w' M R Rs C Sn n st va cur seen := ⟨h.mul.kept k z1, h.ring.kept k z2 z3, h.cw.kept k z4, h.sw.kept k z5⟩
theorem blk_ne {w : World} {a b : Nat} {t u : TypeId} {x y : Array Value} (h : Blk w a t x) (k : Blk w b u y) (hn : t ≠ u) : a ≠ b := fun e => by
  subst e
  unfold Blk at h k
  rw [h] at k
  simp only [Option.some.injEq, Obj.cells.injEq] at k
  exact hn k.2.1
/-- A reader of the topic has read. -/
theorem TopicAt.read {w w' : World} {B n r i : Nat} {j : Bool} {q : Int} {S : TSt} {num : Nat → Int} (h : TopicAt w B n S) (hr : RdAt w r (B + 4) (B + 7) i j q) (k : Kept (fun b => b = B + 7 ∨ b = r) w w') (g : GateAt w' (B + 7) S.gp num) (hB : B + 8 < r) : TopicAt w' B n { S with num := num } := by
  have := h.gated (gp := S.gp) (ml := S.ml) (num := num) k (fun y hy => by rcases hy with e | e <;> omega) g ?_
  · exact this
  rcases h.mem with hm | ⟨K, L, c, h1, h2, h3, h4, h5, h6, h7⟩
  · exact .inl hm
  · have hKr : K ≠ r := blk_ne h2 hr (by decide)
    refine .inr ⟨K, L, c, h1, h2.kept k (fun e => by rcases e with e | e <;> omega), h3, h4, h5, h6, fun a ha => cell_keep (h7 a ha) k (fun e => ?_)⟩
    rcases e with e | e
    · have e : L = B + 7 := e
      omega
    · have e : L = r := e
      have h0 := h7 0 (by omega)
      have hc := Blk.cell hr 0
      rw [e, hc] at h0
      simp at h0
theorem BusIn.read {w w' : World} {b lo r M G i : Nat} {j : Bool} {q : Int} {ls : List (Int × Nat)} (h : BusIn w b ls lo) (hr : RdAt w r M G i j q) (k : Kept (fun b => b = G ∨ b = r) w w') (hb : b ≠ G) (hG : G < lo) (ht : ∀ x, x ∈ ls → x.2 ≠ M ∧ x.2 ≠ G ∧ x.2 ≠ r) : BusIn w' b ls lo := by
  obtain ⟨p, v, h1, h2, ⟨A, c, rfl, t1, t2, t3, t4⟩, h4, h5⟩ := h
  have hbr : b ≠ r := blk_ne h1 hr (by decide)
  refine ⟨p, _, h1.kept k (fun e => by rcases e with e | e; exact hb e; exact hbr e), ?_, ⟨A, c, rfl, t1, t2, t3, fun i hi => ?_⟩, h4, h5⟩
  · rcases h2 with h2 | ⟨K, q, e1, e2⟩
    · exact .inl h2
    · have hKr : K ≠ r := blk_ne e2 hr (by decide)
      exact .inr ⟨K, q, e1, e2.kept k (fun e => by
        have := h4 _ e1
        have this : lo ≤ K := this
        rcases e with e | e <;> omega)⟩
  · obtain ⟨L, rfl, q1, q2⟩ := t4 i hi
    have hLo : lo ≤ L := h5 ⟨L, 0, none⟩ _ _ rfl
    have hLr : L ≠ r := fun e => by
      obtain ⟨L', e', q1', -⟩ := t4 0 (by omega)
      cases e'
      have hc := Blk.cell hr 0
      rw [e, hc] at q1'
      simp at q1'
      exact (ht _ (List.getElem_mem (by omega))).1 q1'.symm
    refine ⟨L, rfl, cell_keep q1 k (fun e => ?_), cell_keep q2 k (fun e => ?_)⟩
    · have e : L = G ∨ L = r := e
      rcases e with e | e <;> omega
    · rcases e with e | e
      · exact (ht _ (List.getElem_mem hi)).2.1 e
      · exact (ht _ (List.getElem_mem hi)).2.2 e
theorem right4 : RightI 4 := by decide
theorem right8 : RightI 8 := by decide
theorem wrong3 : ¬ RightI 3 := by decide
set_option maxHeartbeats 4000000 in
set_option maxRecDepth 100000 in
theorem awake_true (w : World) (hT : TabAt w) : Calls Tryz.prog 7 #[] w fun e w' => e = .returned (.bool true) ∧ Kept (fun _ => False) w w' := by
  have h00 : 0 < w.heap.size := lt_of_cell (hT 0 (by omega))
  have HT := Lib.hid hT
  clear hT
  go_enter Tryz.func7, Tryz.ntmps7
  go_wp2_with fail
  refine (bus_new w).mono ?_
  rintro e w1 ⟨rfl, hw1⟩
  have b1 : Blk w1 w.heap.size 72 #[.pointer none] := hw1 ▸ Blk.new w _ _
  have k1 : Kept (fun _ => False) w w1 := hw1 ▸ Kept.alloc _ _
  obtain ⟨b, hb⟩ : ∃ b, b = w.heap.size := ⟨_, rfl⟩
  rw [← hb] at b1 ⊢
  have h0b : 0 < b := by omega
  have hbw := b1.lt
  have H1 := Lib.hid (And.intro k1 (And.intro b1 (And.intro hb hbw)))
  clear k1 b1 hw1 hb h00 hbw
  go_wp2_with fail
  refine (bus_open b 7 4 w1 (by omega) (by omega) (by decide) H1.out.2.1).mono ?_
  rintro e w2 ⟨rfl, k2, t2, i2⟩
  obtain ⟨B, hB⟩ : ∃ B, B = w1.heap.size := ⟨_, rfl⟩
  rw [← hB] at t2 i2
  have H2 := Lib.hid (And.intro k2 (And.intro t2 (And.intro i2 hB)))
  clear k2 t2 i2 hB
  go_wp2_with fail
  refine (open_there b [(7, B + 8)] 7 8 (B + 8) w2 (by omega) (by omega) (by decide) H2.out.2.2.1.at_ rfl).mono ?_
  rintro e w3 ⟨rfl, k3⟩
  have H3 := Lib.hid k3
  clear k3
  go_wp2_with fail
  refine (open_bad (some ⟨b, 0, none⟩) .nilIface 8 3 w3 wrong3 (by omega)).mono ?_
  rintro e w' ⟨rfl, hw'⟩
  subst hw'
  go_wp2_with fail
  have hbB : b < B := by have := H1.out.2.2.2; have := H2.out.2.2.2; omega
  have i3 : BusIn w3 b [(7, B + 8)] (B + 9) := H2.out.2.2.1.kept H3.out id (fun _ _ z => z) (fun _ _ z => z)
  have t3 : TopicAt w3 B 4 (TSt.new 7) := H2.out.2.1.kept (Z := fun _ => False) H3.out (fun _ z => z.elim)
  have T3 : TabAt w3 := ((HT.out.kept H1.out.1 id).kept H2.out.1 (by omega)).kept H3.out id
  have HI3 := Lib.hid i3
  have HT3 := Lib.hid (And.intro t3 T3)
  clear i3 t3 T3
  refine (bus_subscribe b B 4 0 [(7, B + 8)] (TSt.new 7) 7 0 0 0 1 w3 HI3.out rfl HT3.out.1 HT3.out.2 rfl claim_first (by simp [TSt.new]) (by simp [TSt.new]) (by simp [TSt.new]) (by simp [TSt.new]) (by omega)).mono ?_
  rintro e w4 ⟨u, r, K, rfl, k4, t4, s4, r4, l1, l2, l3⟩
  have H4 := Lib.hid (And.intro k4 (And.intro t4 (And.intro s4 (And.intro r4 (And.intro l1 (And.intro l2 l3))))))
  clear k4 t4 s4 r4 l1 l2 l3
  go_wp2_with fail
  refine (sub_next u (B + 8) r 0 (B + 4) (B + 7) 0 0 0 0 true w4 H4.out.2.2.1 H4.out.2.2.2.1).mono ?_
  rintro e w' ⟨rfl, hw'⟩
  subst hw'
  go_wp2_with fail
  refine (sub_place u (B + 8) r 0 0 0 0 w4 H4.out.2.2.1).mono ?_
  rintro e w' ⟨rfl, hw'⟩
  subst hw'
  go_wp2_with fail
  obtain ⟨V, hV⟩ : ∃ V, V = w4.heap.size := ⟨_, rfl⟩
  have k5 : Kept (fun _ => False) w4 (w4.alloc (.cells #[.int .i64 5, .int .i64 6] 2)) := Kept.alloc _ _
  have b5 := Blk.new w4 2 #[.int .i64 5, .int .i64 6]
  rw [← hV] at b5 ⊢
  generalize w4.alloc (.cells #[.int .i64 5, .int .i64 6] 2) = w5 at k5 b5 ⊢
  have H5 := Lib.hid (And.intro k5 (And.intro b5 hV))
  clear k5 b5 hV
  have i5 : BusIn w5 b [(7, B + 8)] (B + 9) := (HI3.out.kept H4.out.1 (by omega) (by omega) (by simp)).kept H5.out.1 id (fun _ _ z => z) (fun _ _ z => z)
  have t5 := H4.out.2.1.kept (Z := fun _ => False) H5.out.1 (fun _ z => z.elim)
  have hBt := H4.out.2.1.top.lt
  have hV2 := H5.out.2.2
  have HI5 := Lib.hid i5
  have HT5 := Lib.hid t5
  clear i5 t5
  refine (bus_publish b B 4 V 2 [(7, B + 8)] _ 7 [5, 6] w5 HI5.out rfl HT5.out rfl (fun i hi => ?_) (by simp) (by unfold maxLen; omega) (by simp [TSt.new]) (by simp [TSt.new]) (by simp) (by simp) (by simp [TSt.new]) (by simp [TSt.new]) (by omega) (by omega)).mono ?_
  · match i, hi with
    | 0, _ => exact H5.out.2.1.cell 0
    | 1, _ => exact H5.out.2.1.cell 1
  clear hBt hV2
  rintro e w6 ⟨he, k6, t6⟩
  have he : e = .returned (.tuple #[.int .i64 1, .int .i64 0]) := he
  subst he
  have s6 : SubAt w6 u (B + 8) r 0 0 0 0 := Blk.kept (Blk.kept H4.out.2.2.1 H5.out.1 id) k6 (by have := H4.out.2.2.2.2.1; have := H3.out.size; have := H2.out.2.1.top.lt; omega)
  have r6 : RdAt w6 r (B + 4) (B + 7) 0 true 0 := Blk.kept (Blk.kept H4.out.2.2.2.1 H5.out.1 id) k6 (by have := H4.out.2.2.2.2.2.1; have := H3.out.size; have := H2.out.2.1.top.lt; omega)
  have hr8 : B + 8 < r := by have := H4.out.2.2.2.2.2.1; have := HT3.out.1.top.lt; omega
  have hu8 : B + 8 < u := by have := H4.out.2.2.2.2.1; have := HT3.out.1.top.lt; omega
  have i6 : BusIn w6 b [(7, B + 8)] (B + 9) := HI5.out.kept k6 (by omega) (by omega) (by simp)
  have H6 := Lib.hid (And.intro k6 (And.intro t6 (And.intro s6 (And.intro r6 i6))))
  clear k6 t6 s6 r6 i6
  go_wp2_with fail
  have mA : MulAt w6 (B + 4) (B + 1) B (B + 2) (B + 3) 4 (wrS (fun _ => -2) 4 0 2) (wrV (fun _ => 0) 4 0 [5, 6] 2) 1 (-1) := H6.out.2.1.mulAt
  have gA := H6.out.2.1.gate
  have HMA := Lib.hid (And.intro mA gA)
  clear mA gA
  refine (sub_poll _ 0 9 2 H6.out.2.2.1 H6.out.2.2.2.1 HMA.out.1 HMA.out.2 (by omega) (by omega) (by omega) (by omega) (by omega) (by omega) (by decide) (fun j hj => ?_) (by omega) (by omega) (by omega) (by omega) (fun e => ?_)).mono ?_
  · match j, hj with
    | 0, _ => rfl
    | 1, _ => rfl
  · exact H4.out.2.2.2.2.2.2 e
  rintro e w7 ⟨v7, rfl, k7, o7, r7, g7⟩
  rw [show seenL 0 0 0 0 (rowV (wrV (fun _ => 0) 4 0 [5, 6] 2) 4 0 2) 2 = [(0, 5), (1, 6)] from rfl] at o7
  have t7 := H6.out.2.1.read H6.out.2.2.2.1 k7 g7 hr8
  have s7 : SubAt w7 u (B + 8) r 0 0 0 0 := Blk.kept H6.out.2.2.1 k7 (fun e => by rcases e with e | e; omega; exact H4.out.2.2.2.2.2.2 e)
  have r7 : RdAt w7 r (B + 4) (B + 7) 0 true 2 := r7
  have i7 : BusIn w7 b [(7, B + 8)] (B + 9) := H6.out.2.2.2.2.read H6.out.2.2.2.1 k7 (by omega) (by omega) (by simp; omega)
  obtain ⟨vA, vc, rfl⟩ := own_slice o7
  have H7 := Lib.hid (And.intro k7 (And.intro t7 (And.intro s7 (And.intro r7 (And.intro i7 o7)))))
  have HM7 := Lib.hid (And.intro t7.mulAt (And.intro t7.gate (t7.top.cell 4)))
  clear k7 t7 s7 r7 i7 o7 g7
  go_wp2_with fail
  refine (poll_empty _ 2 9 false H7.out.2.2.1 H7.out.2.2.2.1 HM7.out.1 HM7.out.2.1 (by omega) HM7.out.2.2 (by omega) (by decide) (by omega) (by decide) (by omega) (by omega) (by omega) (by omega)).mono ?_
  rintro e w8 ⟨rfl, k8⟩
  have i8 := H7.out.2.2.2.2.1.kept k8 id (fun _ _ z => z) (fun _ _ z => z)
  have t8 := H7.out.2.1.kept (Z := fun _ => False) k8 (fun _ z => z.elim)
  have H8 := Lib.hid (And.intro k8 (And.intro i8 t8))
  clear k8 i8 t8
  simp only [Bool.false_eq_true, if_false]
  go_wp2_with fail
  refine (bus_close b B 4 [(7, B + 8)] _ 7 w8 H8.out.2.1 rfl H8.out.2.2).mono ?_
  rintro e w9 ⟨he, k9, t9⟩
  have he : e = .returned (.tuple #[.bool true, .int .i64 0]) := he
  subst he
  have s9 : SubAt w9 u (B + 8) r 0 0 0 0 := Blk.kept (Blk.kept H7.out.2.2.1 H8.out.1 id) k9 (by omega)
  have r9 : RdAt w9 r (B + 4) (B + 7) 0 true 2 := Blk.kept (Blk.kept H7.out.2.2.2.1 H8.out.1 id) k9 (by omega)
  have H9 := Lib.hid (And.intro k9 (And.intro t9 (And.intro s9 r9)))
  have HM9 := Lib.hid (And.intro t9.mulAt (And.intro t9.gate (t9.top.cell 4)))
  clear k9 t9 s9 r9
  go_wp2_with fail
  refine (poll_empty _ 2 9 true H9.out.2.2.1 H9.out.2.2.2 HM9.out.1 HM9.out.2.1 (by omega) HM9.out.2.2 (by omega) (by decide) (by omega) (by decide) (by omega) (by omega) (by omega) (by omega)).mono ?_
  rintro e w10 ⟨rfl, k10⟩
  have H10 := Lib.hid k10
  clear k10
  simp only [if_true]
  go_wp2_with fail
  rename_i K0 hK0
  obtain ⟨L, hvA, hLt, d4, d5, d6, d7⟩ : ∃ L, vA = some ⟨L, 0, none⟩ ∧ w6.heap.size ≤ L ∧ w7.cell? ⟨L, 4, none⟩ = some (.int .i64 1) ∧ w7.cell? ⟨L, 5, none⟩ = some (.int .i64 (seW 6)) ∧ w7.cell? ⟨L, 6, none⟩ = some (.int .i64 (seN 6)) ∧ w7.cell? ⟨L, 7, none⟩ = some (.int .i64 (seX 6)) := by
    obtain ⟨-, h⟩ := H7.out.2.2.2.2.2
    rcases h with ⟨-, h⟩ | ⟨g, cap, cur, hv, hb, hg, _⟩
    · exact absurd h (by decide)
    · simp only [Value.slice.injEq] at hv
      obtain ⟨rfl, -, rfl⟩ := hv
      have hc := H7.out.2.2.2.2.2
      exact ⟨g, rfl, hb, hc.cellAt 4 (by decide), hc.cellAt 5 (by decide), hc.cellAt 6 (by decide), hc.cellAt 7 (by decide)⟩
  subst hvA
  have hk : Kept (fun x => x = B + 8) w7 w10 := ((H8.out.1.mono fun _ _ z => z.elim).trans H9.out.1).trans (H10.out.mono fun _ _ z => z.elim)
  have hLB : L ≠ B + 8 := by
    have := H6.out.2.1.top.lt
    omega
  have e4 := cell_keep d4 hk hLB
  have e5 := cell_keep d5 hk hLB
  have e6 := cell_keep d6 hk hLB
  have e7 := cell_keep d7 hk hLB
  have HE := Lib.hid (And.intro e4 (And.intro e5 (And.intro e6 e7)))
  have HSR := Lib.hid (seen_ref 1 6)
  clear d4 d5 d6 d7 e4 e5 e6 e7 hk hLB hLt
  generalize seW 6 = xW at *
  generalize seN 6 = xN at *
  generalize seX 6 = xX at *
  refine strictL ?_
  refine wp_region_held (S := Kept (fun _ => False) w10) (by kernel_rfl) ?_
  simp only [List.size_toArray, List.length_cons, List.length_nil, Nat.reduceAdd]
  have HW1 : Hid (Kept (fun _ => False) w10 { w10 with drawn := w10.drawn + 1 }) := Lib.hid (Kept.drew w10)
  iterate 19
    first
    | refine rdL 0 37 85 ?_
    | refine rdL 1 36 86 ?_
    | refine rdL 2 35 87 ?_
    | refine rdL 3 34 88 ?_
    | refine rdL 4 33 89 ?_
    | refine rdL 5 32 90 ?_
    | refine rdL 6 31 91 ?_
    | refine rdL 7 30 92 ?_
    | refine rdL 8 29 93 ?_
    | refine rdL 9 28 94 ?_
    | refine rdL 10 27 95 ?_
    | refine rdL 11 26 96 ?_
    | refine rdL 12 25 97 ?_
    | refine rdL 13 24 98 ?_
    | refine rdL 14 23 99 ?_
    | refine rdL 15 22 100 ?_
    | refine rdL 16 21 101 ?_
    | refine rdL 17 20 102 ?_
    | refine rdL 18 19 103 ?_
    refine ⟨_, rfl, rfl, by kernel_rfl, by kernel_rfl, by kernel_rfl, (fun c a w h => by cases h.1), rfl, HW1.out, ?_⟩
    apply Exists.intro
    refine ⟨fun wq hw => ?_, ?_⟩
    · have c4 := cell_keep HE.out.1 hw id
      have c5 := cell_keep HE.out.2.1 hw id
      have c6 := cell_keep HE.out.2.2.1 hw id
      have c7 := cell_keep HE.out.2.2.2 hw id
      go_simp
      rfl
    simp only [Act.put, List.setIfInBounds_toArray, List.set_cons_zero, List.set_cons_succ]
  have hkd : Kept (fun _ => False) w10 { w10 with drawn := w10.drawn + 1 } := Kept.drew w10
  clear HW1
  generalize ({ w10 with drawn := w10.drawn + 1 } : World) = wd at hkd ⊢
  refine oneL (i := 19) (fuel := 18) (by kernel_rfl) rfl rfl fun K' hK' => ?_
  unfold Oper.wp
  go_simp
  refine (HSR.out wd).mono ?_
  rintro e w11 ⟨rfl, k11⟩
  dsimp only
  have HW2 := Lib.hid (hkd.trans k11)
  clear k11 hkd
  refine hK' _ _ HW2.out ?_
  clear hK' K'
  iterate 17
    first
    | refine rdL 20 17 105 ?_
    | refine rdL 21 16 106 ?_
    | refine rdL 22 15 107 ?_
    | refine rdL 23 14 108 ?_
    | refine rdL 24 13 109 ?_
    | refine rdL 25 12 110 ?_
    | refine rdL 26 11 111 ?_
    | refine rdL 27 10 112 ?_
    | refine rdL 28 9 113 ?_
    | refine rdL 29 8 114 ?_
    | refine rdL 30 7 115 ?_
    | refine rdL 31 6 116 ?_
    | refine rdL 32 5 117 ?_
    | refine rdL 33 4 118 ?_
    | refine rdL 34 3 119 ?_
    | refine rdL 35 2 120 ?_
    | refine rdL 36 1 121 ?_
    refine ⟨_, rfl, rfl, by kernel_rfl, by kernel_rfl, by kernel_rfl, (fun c a w h => by cases h.1), rfl, HW2.out, ?_⟩
    apply Exists.intro
    refine ⟨fun wq hw => ?_, ?_⟩
    · go_simp
      rfl
    simp only [Act.put, List.setIfInBounds_toArray, List.set_cons_zero, List.set_cons_succ]
  refine oneL (i := 37) (fuel := 0) (by kernel_rfl) rfl rfl fun K' hK' => ?_
  unfold Oper.wp
  go_simp
  refine hK' _ _ HW2.out ?_
  clear hK' K'
  refine wpAnyH_done (by kernel_rfl) ⟨rfl, ?_⟩ _
  refine hK0 _ _ ?_
  clear hK0 K0
  go_wp2
  go_ret
  have hbw := H1.out.2.2.1
  have hB1 := H2.out.2.2.2
  have hs1 := H1.out.2.2.2
  have hr9 : w.heap.size ≤ r := by omega
  have kall : Kept (fun x => w.heap.size ≤ x) w w11 := ((((((((((H1.out.1.mono fun _ _ z => z.elim).trans (H2.out.1.mono fun x _ z => by omega)).trans (H3.out.mono fun _ _ z => z.elim)).trans (H4.out.1.mono fun x _ z => by omega)).trans (H5.out.1.mono fun _ _ z => z.elim)).trans (H6.out.1.mono fun x _ z => by omega)).trans (H7.out.1.mono fun x _ z => by omega)).trans (H8.out.1.mono fun _ _ z => z.elim)).trans (H9.out.1.mono fun x _ z => by omega)).trans (H10.out.mono fun _ _ z => z.elim)).trans (HW2.out.mono fun _ _ z => z.elim)
  exact ⟨rfl, kall.mono fun x hx z => by omega⟩
end Go.Proofs.YtbmjmamodnapiaaGreatDoor
