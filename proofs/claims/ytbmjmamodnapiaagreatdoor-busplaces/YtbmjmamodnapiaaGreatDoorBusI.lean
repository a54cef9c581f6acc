/- DERIVED. A reader made and joined (packages multi: Cursor; reader: New, Join), lone. -/
import Derived.Test.YtbmjmamodnapiaaGreatDoorBusH
namespace Go.Proofs.YtbmjmamodnapiaaGreatDoor
open Go.RowKit
set_option linter.unusedVariables false
theorem multi_no (M R C S : Nat) (x : Int) (w : World) (h : Blk w M 125 #[.pointer (some ⟨R, 0, none⟩), .int .i64 x, .pointer (some ⟨C, 0, none⟩), .pointer (some ⟨S, 0, none⟩)]) : Calls Tryz.prog 84 #[.pointer (some ⟨M, 0, none⟩)] w fun e w' => e = .returned (.bool false) ∧ w = w' := by
  have c0 : w.cell? ⟨M, 0, none⟩ = some (.pointer (some ⟨R, 0, none⟩)) := h.cell 0
  clear h
  go_enter Tryz.func84, Tryz.ntmps84
  go_wp2
  go_ret
  exact ⟨rfl, rfl⟩
theorem multi_cursor (M R C S : Nat) (x y : Int) (w : World) (h : Blk w M 125 #[.pointer (some ⟨R, 0, none⟩), .int .i64 x, .pointer (some ⟨C, 0, none⟩), .pointer (some ⟨S, 0, none⟩)]) (hC : Blk w C 177 #[.int .i64 y]) : Calls Tryz.prog 62 #[.pointer (some ⟨M, 0, none⟩), .nilIface] w fun e w' => e = .returned (.int .i64 y) ∧ w = w' := by
  have c2 : w.cell? ⟨M, 2, none⟩ = some (.pointer (some ⟨C, 0, none⟩)) := h.cell 2
  have HH := Lib.hid (And.intro h hC)
  clear h hC
  go_enter Tryz.func62, Tryz.ntmps62
  go_wp2_with (first | (go_at_call 84; refine (multi_no M R C S x _ HH.out.1).mono ?_; rintro e w' ⟨rfl, rfl⟩) | (go_at_call 85; refine (word_load _ y _ (HH.out.2.cell 0)).mono ?_; rintro e w' ⟨rfl, rfl⟩))
  go_ret
  exact ⟨rfl, rfl⟩
theorem reader_new (M G i : Nat) (w : World) (hi : i < 64) : Calls Tryz.prog 36 #[.pointer (some ⟨M, 0, none⟩), .pointer (some ⟨G, 0, none⟩), .int .i64 i] w fun e w' => e = .returned (.tuple #[.pointer (some ⟨w.heap.size, 0, none⟩), .int .i64 0]) ∧ w.alloc (.cells #[.pointer (some ⟨M, 0, none⟩), .pointer (some ⟨G, 0, none⟩), .int .i64 i, .bool false, .int .i64 0] 157) = w' := by
  have h0 : ¬ (i : Int) < 0 := by omega
  have h1 : ¬ (64 : Int) ≤ i := by omega
  go_enter Tryz.func36, Tryz.ntmps36
  go_wp2
  go_ret2
  exact ⟨rfl, rfl⟩
theorem upd_twice (f : Nat → Int) (i : Nat) (x y : Int) : upd (upd f i x) i y = upd f i y := by
  funext j
  by_cases e : j = i
  · subst e; rw [upd_same, upd_same]
  · rw [upd_ne _ _ e, upd_ne _ _ e, upd_ne _ _ e]
/-- A reader. -/
def RdAt (w : World) (r M G i : Nat) (j : Bool) (q : Int) : Prop := Blk w r 157 #[.pointer (some ⟨M, 0, none⟩), .pointer (some ⟨G, 0, none⟩), .int .i64 i, .bool j, .int .i64 q]
set_option maxHeartbeats 4000000 in
set_option maxRecDepth 100000 in
theorem reader_join (r M G i R C Sn : Nat) (cur x : Int) (gp : Option Addr) (mv : Value) (ml : List Int) (f : Nat → Int) (w : World) (hr : RdAt w r M G i false 0)
    (hM : Blk w M 125 #[.pointer (some ⟨R, 0, none⟩), .int .i64 x, .pointer (some ⟨C, 0, none⟩), .pointer (some ⟨Sn, 0, none⟩)]) (hC : Blk w C 177 #[.int .i64 cur])
    (hg : GateAt w G gp f) (hb : BoxV 214 gp mv w) (hm : MembersAt w mv ml) (hi : i < 64) (hni : (i : Int) ∉ ml) (hml : ml.length ≤ 64)
    (hgne : ∀ K, gp = some ⟨K, 0, none⟩ → K ≠ G) (hmne : ∀ A n c, mv = .slice (some A) n c → A.block ≠ G) (h1 : r ≠ G) (h2 : M ≠ G) (h3 : C ≠ G) (hc0 : -1 ≤ cur) (hc1 : cur < 4611686018427387904) :
    Calls Tryz.prog 37 #[.pointer (some ⟨r, 0, none⟩), .nilIface] w fun e w' => e = .returned (.tuple #[.int .i64 (cur + 1), .int .i64 0]) ∧ Kept (fun b => b = G ∨ b = r) w w' ∧ RdAt w' r M G i true (cur + 1) ∧ ∃ K L c, w.heap.size ≤ K ∧ w.heap.size ≤ L ∧ GateAt w' G (some ⟨K, 0, none⟩) (upd f i cur) ∧
      Blk w' K 214 #[.slice (some ⟨L, 0, none⟩) (ml.length + 1) c, .int .i64 0] ∧ ml.length + 1 ≤ c ∧ c ≤ maxLen ∧ ∀ j (h : j < (ml ++ [(i : Int)]).length), w'.cell? ⟨L, j, none⟩ = some (.int .i64 (ml ++ [(i : Int)])[j]) := by
  have c0 : w.cell? ⟨r, 0, none⟩ = some (.pointer (some ⟨M, 0, none⟩)) := Blk.cell hr 0
  have c3 : w.cell? ⟨r, 3, none⟩ = some (.bool false) := Blk.cell hr 3
  have HH := Lib.hid (And.intro hr (And.intro hM hC))
  have HG := Lib.hid (And.intro hg (And.intro hb hm))
  have HN := Lib.hid (And.intro hgne (And.intro hmne (And.intro h1 (And.intro h2 h3))))
  have hrlt := Blk.lt hr
  clear hr hM hC hg hb hm hgne hmne h1 h2 h3
  go_enter Tryz.func37, Tryz.ntmps37
  go_wp2_with fail
  rename_i K0 hK0
  refine strictL ?_
  refine wp_region_held (S := Kept (fun b => b = G) w) (by kernel_rfl) ?_
  simp only [List.size_toArray, List.length_cons, List.length_nil, Nat.reduceAdd]
  have HW1 : Hid (Kept (fun b => b = G) w { w with drawn := w.drawn + 1 }) := Lib.hid (Kept.drew w)
  iterate 14
    first
    | refine rdL 0 16 23 ?_
    | refine rdL 1 15 24 ?_
    | refine rdL 2 14 25 ?_
    | refine rdL 3 13 26 ?_
    | refine rdL 4 12 27 ?_
    | refine rdL 5 11 28 ?_
    | refine rdL 6 10 29 ?_
    | refine rdL 7 9 30 ?_
    | refine rdL 8 8 31 ?_
    | refine rdL 9 7 32 ?_
    | refine rdL 10 6 33 ?_
    | refine rdL 11 5 34 ?_
    | refine rdL 12 4 35 ?_
    | refine rdL 13 3 36 ?_
    refine ⟨_, rfl, rfl, by kernel_rfl, by kernel_rfl, by kernel_rfl, (fun c a w h => by cases h.1), rfl, HW1.out, ?_⟩
    apply Exists.intro
    refine ⟨fun wq hw => ?_, ?_⟩
    · have hb : Blk wq r 157 _ := Blk.kept HH.out.1 hw HN.out.2.2.1
      have c0 : wq.cell? ⟨r, 0, none⟩ = some (.pointer (some ⟨M, 0, none⟩)) := hb.cell 0
      have c1 : wq.cell? ⟨r, 1, none⟩ = some (.pointer (some ⟨G, 0, none⟩)) := hb.cell 1
      have c2 : wq.cell? ⟨r, 2, none⟩ = some (.int .i64 i) := hb.cell 2
      clear hb
      go_simp
      rfl
    simp only [Act.put, List.setIfInBounds_toArray, List.set_cons_zero, List.set_cons_succ]
  have hkd : Kept (fun _ => False) w { w with drawn := w.drawn + 1 } := Kept.drew w
  clear HW1 c0 c3
  generalize ({ w with drawn := w.drawn + 1 } : World) = wd at hkd ⊢
  have HY0 := Lib.hid hkd
  clear hkd
  refine oneL (i := 14) (fuel := 2) (by kernel_rfl) rfl rfl fun K hK' => ?_
  unfold Oper.wp
  go_simp
  refine (multi_cursor M R C Sn x cur wd (HH.out.2.1.kept HY0.out id) (HH.out.2.2.kept HY0.out id)).mono ?_
  rintro e w' ⟨rfl, rfl⟩
  dsimp only
  refine hK' _ _ (HY0.out.mono fun _ _ z => z.elim) ?_
  clear hK' K
  refine oneL (i := 15) (fuel := 1) (by kernel_rfl) rfl rfl fun K hK' => ?_
  unfold Oper.wp
  go_simp
  refine (gate_join G i gp mv ml f cur wd (HG.out.1.kept HY0.out id) (HG.out.2.1.kept HY0.out) (HG.out.2.2.kept HY0.out) hi hni hml HN.out.1 HN.out.2.1).mono ?_
  rintro e w1 ⟨rfl, k1, J⟩
  dsimp only
  have HJ := Lib.hid (And.intro k1 J)
  clear k1 J
  refine hK' _ _ ((HY0.out.mono fun _ _ z => z.elim).trans HJ.out.1) ?_
  clear hK' K
  refine oneL (i := 16) (fuel := 0) (by kernel_rfl) rfl rfl fun K hK' => ?_
  unfold Oper.wp
  go_simp
  refine hK' _ _ ((HY0.out.mono fun _ _ z => z.elim).trans HJ.out.1) ?_
  clear hK' K
  refine wpAnyH_done (by kernel_rfl) ⟨rfl, ?_⟩ _
  refine hK0 _ _ ?_
  clear hK0 K0
  have hk1 : Kept (fun b => b = G) w w1 := (HY0.out.mono fun _ _ z => z.elim).trans HJ.out.1
  have r1 : RdAt w1 r M G i false 0 := Blk.kept HH.out.1 hk1 HN.out.2.2.1
  have m1 := HH.out.2.1.kept hk1 HN.out.2.2.2.1
  have n1 := HH.out.2.2.kept hk1 HN.out.2.2.2.2
  have c0 : w1.cell? ⟨r, 0, none⟩ = some (.pointer (some ⟨M, 0, none⟩)) := Blk.cell r1 0
  have H1 := Lib.hid (And.intro hk1 (And.intro r1 (And.intro m1 n1)))
  clear hk1 r1 m1 n1
  go_wp2_with (go_at_call 62; refine (multi_cursor M R C Sn x cur _ H1.out.2.2.1 H1.out.2.2.2).mono ?_; rintro e w' ⟨rfl, rfl⟩)
  rename_i K0 hK0
  refine strictL ?_
  refine wp_region_held (S := Kept (fun b => b = G) w1) (by kernel_rfl) ?_
  simp only [List.size_toArray, List.length_cons, List.length_nil, Nat.reduceAdd]
  have HW1 : Hid (Kept (fun b => b = G) w1 { w1 with drawn := w1.drawn + 1 }) := Lib.hid (Kept.drew w1)
  iterate 10
    first
    | refine rdL 0 10 48 ?_
    | refine rdL 1 9 49 ?_
    | refine rdL 2 8 50 ?_
    | refine rdL 3 7 51 ?_
    | refine rdL 4 6 52 ?_
    | refine rdL 5 5 53 ?_
    | refine rdL 6 4 54 ?_
    | refine rdL 7 3 55 ?_
    | refine rdL 8 2 56 ?_
    | refine rdL 9 1 57 ?_
    refine ⟨_, rfl, rfl, by kernel_rfl, by kernel_rfl, by kernel_rfl, (fun c a w h => by cases h.1), rfl, HW1.out, ?_⟩
    apply Exists.intro
    refine ⟨fun wq hw => ?_, ?_⟩
    · have hb : Blk wq r 157 _ := Blk.kept H1.out.2.1 hw HN.out.2.2.1
      have c1 : wq.cell? ⟨r, 1, none⟩ = some (.pointer (some ⟨G, 0, none⟩)) := hb.cell 1
      have c2 : wq.cell? ⟨r, 2, none⟩ = some (.int .i64 i) := hb.cell 2
      clear hb
      go_simp
      rfl
    simp only [Act.put, List.setIfInBounds_toArray, List.set_cons_zero, List.set_cons_succ]
  have hkd : Kept (fun _ => False) w1 { w1 with drawn := w1.drawn + 1 } := Kept.drew w1
  clear HW1 c0
  generalize ({ w1 with drawn := w1.drawn + 1 } : World) = wd1 at hkd ⊢
  have HZ0 := Lib.hid hkd
  clear hkd
  obtain ⟨K, L, c, q1, q2, q3, q4, q5, q6, q7⟩ := HJ.out.2
  have HG3 := Lib.hid (q3.kept HZ0.out id)
  have HJ2 := Lib.hid (And.intro q1 (And.intro q2 (And.intro q4 (And.intro q5 (And.intro q6 q7)))))
  clear q1 q2 q3 q4 q5 q6 q7
  refine oneL (i := 10) (fuel := 0) (by kernel_rfl) rfl rfl fun K' hK' => ?_
  unfold Oper.wp
  go_simp
  refine (gate_set G i _ _ cur wd1 HG3.out hi).mono ?_
  rintro e w2 ⟨rfl, hw2⟩
  dsimp only
  have k2 : Kept (fun b => b = G) wd1 w2 := hw2 ▸ Kept.setCell (S := fun b => b = G) wd1 (p := ⟨G, 1 + i, none⟩) (by rfl) _
  have kz2 : Kept (fun b => b = G) w1 w2 := (HZ0.out.mono fun _ _ z => z.elim).trans k2
  have g2 : GateAt w2 G (some ⟨K, 0, none⟩) (upd f i cur) := by
    have := HG3.out.setNum hi cur
    rw [hw2, upd_twice] at this
    exact this
  have H2 := Lib.hid (And.intro kz2 g2)
  clear k2 kz2 g2 hw2
  refine hK' _ _ H2.out.1 ?_
  clear hK' K'
  refine wpAnyH_done (by kernel_rfl) ⟨rfl, ?_⟩ _
  refine hK0 _ _ ?_
  clear hK0 K0
  have r2 : Blk w2 r 157 _ := Blk.kept H1.out.2.1 H2.out.1 HN.out.2.2.1
  have d3 : w2.cell? ⟨r, 3, none⟩ = some (.bool false) := r2.cell 3
  have z3 : w2.frozen? ⟨r, 3, none⟩ = false := r2.frozen 3
  have d4 : (w2.setCell ⟨r, 3, none⟩ (.bool true)).cell? ⟨r, 4, none⟩ = some (.int .i64 0) := (r2.set_ 3 _).cell 4
  have z4 : (w2.setCell ⟨r, 3, none⟩ (.bool true)).frozen? ⟨r, 4, none⟩ = false := (r2.set_ 3 _).frozen 4
  have r3 := (r2.set_ 3 (.bool true)).set_ 4 (.int .i64 (cur + 1))
  have k3 : Kept (fun b => b = G ∨ b = r) w2 ((w2.setCell ⟨r, 3, none⟩ (.bool true)).setCell ⟨r, 4, none⟩ (.int .i64 (cur + 1))) := (Kept.setCell (S := fun b => b = G ∨ b = r) w2 (p := ⟨r, 3, none⟩) (.inr rfl) _).trans (Kept.setCell _ (p := ⟨r, 4, none⟩) (.inr rfl) _)
  have kg3 : Kept (fun b => b = r) w2 ((w2.setCell ⟨r, 3, none⟩ (.bool true)).setCell ⟨r, 4, none⟩ (.int .i64 (cur + 1))) := (Kept.setCell (S := fun b => b = r) w2 (p := ⟨r, 3, none⟩) rfl _).trans (Kept.setCell (S := fun b => b = r) _ (p := ⟨r, 4, none⟩) rfl _)
  have e4 : ((w2.setCell ⟨r, 3, none⟩ (.bool true)).setCell ⟨r, 4, none⟩ (.int .i64 (cur + 1))).cell? ⟨r, 4, none⟩ = some (.int .i64 (cur + 1)) := r3.cell 4
  have H3 := Lib.hid (And.intro r3 (And.intro k3 kg3))
  clear r2 r3 k3 kg3
  go_wp2
  go_ret2
  obtain ⟨r3, k3, kg3⟩ := H3.out
  obtain ⟨p1, p2, p4, p5, p6, p7⟩ := HJ2.out
  have hsz := HY0.out.size
  have hGlt := HG.out.1.lt
  have hKr : K ≠ r := by omega
  have hLr : L ≠ r := by omega
  have hGr : ¬ G = r := fun e => HN.out.2.2.1 e.symm
  exact ⟨rfl, ((H1.out.1.trans H2.out.1).mono fun _ _ z => .inl z).trans k3, r3, K, L, c, Nat.le_trans hsz p1, Nat.le_trans hsz p2, H2.out.2.kept kg3 hGr, (p4.kept H2.out.1 (by omega)).kept kg3 hKr, p5, p6, fun j hj => cell_keep (cell_keep (p7 j hj) H2.out.1 (by show ¬ L = G; omega)) kg3 hLr⟩
end Go.Proofs.YtbmjmamodnapiaaGreatDoor
