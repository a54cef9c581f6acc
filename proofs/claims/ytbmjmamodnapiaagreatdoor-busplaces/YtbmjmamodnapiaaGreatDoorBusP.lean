/- DERIVED. Items out of numbers, filters (package bus: Unpack, Lets; carillonref19: the same), lone. -/
import Derived.Test.YtbmjmamodnapiaaGreatDoorBusO
namespace Go.Proofs.YtbmjmamodnapiaaGreatDoor
open Go.RowKit
set_option linter.unusedVariables false
/-- Is it an item's number? -/
def okI (v : Int) : Bool := decide (0 ≤ v) && decide (v < 4611686018427387904)
def itW (v : Int) : Int := if okI v then v / 72057594037927936 else 0
def itN (v : Int) : Int := if okI v then bits BinOp.and IntKind.i64 (v / 4294967296) 16777215 else 0
def itX (v : Int) : Int := if okI v then wrap64 (wrap32 (v % 4294967296)) else 0
def unE (v : Int) : Int := if okI v then 0 else 1
set_option maxRecDepth 100000 in
theorem unpack_bus (v : Int) (w : World) : Calls Tryz.prog 12 #[.int .i64 v] w fun e w' => e = .returned (.tuple #[.agg #[.int .i64 (itW v), .int .i64 (itN v), .int .i64 (itX v)], .int .i64 (unE v)]) ∧ Kept (fun _ => False) w w' := by
  by_cases h : 0 ≤ v ∧ v < 4611686018427387904
  · obtain ⟨h0, h1⟩ := h
    have ho : okI v = true := by simp [okI, h0, h1]
    have eW : itW v = v / 72057594037927936 := by simp [itW, ho]
    have eN : itN v = bits BinOp.and IntKind.i64 (v / 4294967296) 16777215 := by simp [itN, ho]
    have eX : itX v = wrap64 (wrap32 (v % 4294967296)) := by simp [itX, ho]
    have eE : unE v = 0 := by simp [unE, ho]
    rw [eW, eN, eX, eE]
    clear eW eN eX eE ho
    go_enter Tryz.func12, Tryz.ntmps12
    go_wp2
    have c0 := (Blk.new w 30 #[.int .i64 (v / 72057594037927936), .int .i64 (bits BinOp.and IntKind.i64 (v / 4294967296) 16777215), .int .i64 (wrap64 (wrap32 (v % 4294967296)))]).cell 0
    have c1 := (Blk.new w 30 #[.int .i64 (v / 72057594037927936), .int .i64 (bits BinOp.and IntKind.i64 (v / 4294967296) 16777215), .int .i64 (wrap64 (wrap32 (v % 4294967296)))]).cell 1
    have c2 := (Blk.new w 30 #[.int .i64 (v / 72057594037927936), .int .i64 (bits BinOp.and IntKind.i64 (v / 4294967296) 16777215), .int .i64 (wrap64 (wrap32 (v % 4294967296)))]).cell 2
    refine bodyPost_ret (v := .tuple #[.agg #[.int .i64 (v / 72057594037927936), .int .i64 (bits BinOp.and IntKind.i64 (v / 4294967296) 16777215), .int .i64 (wrap64 (wrap32 (v % 4294967296)))], .int .i64 0]) ?_ rfl ⟨rfl, Kept.alloc _ _⟩
    simp only [List.getElem?_toArray, List.getElem?_cons_zero, List.getElem?_cons_succ] at c0 c1 c2
    simp [results, Tryz.f12, go_sem, c0, c1, c2]
  · have ho : okI v = false := by
      simp only [okI, Bool.and_eq_false_iff, decide_eq_false_iff_not]
      omega
    have eW : itW v = 0 := by simp [itW, ho]
    have eN : itN v = 0 := by simp [itN, ho]
    have eX : itX v = 0 := by simp [itX, ho]
    have eE : unE v = 1 := by simp [unE, ho]
    rw [eW, eN, eX, eE]
    have hb : (decide (v < 0) || decide (4611686018427387904 ≤ v)) = true := by
      simp only [Bool.or_eq_true, decide_eq_true_eq]
      omega
    clear eW eN eX eE ho h
    go_enter Tryz.func12, Tryz.ntmps12
    go_wp2
    all_goals
      have c0 := (Blk.new w 30 #[.int .i64 0, .int .i64 0, .int .i64 0]).cell 0
      have c1 := (Blk.new w 30 #[.int .i64 0, .int .i64 0, .int .i64 0]).cell 1
      have c2 := (Blk.new w 30 #[.int .i64 0, .int .i64 0, .int .i64 0]).cell 2
      refine bodyPost_ret (v := .tuple #[.agg #[.int .i64 0, .int .i64 0, .int .i64 0], .int .i64 1]) ?_ rfl ⟨rfl, Kept.alloc _ _⟩
      simp only [List.getElem?_toArray, List.getElem?_cons_zero, List.getElem?_cons_succ] at c0 c1 c2
      simp [results, Tryz.f12, go_sem, c0, c1, c2]
set_option maxRecDepth 100000 in
theorem unpack_ref (v : Int) (w : World) : Calls Tryz.prog 13 #[.int .i64 v] w fun e w' => e = .returned (.tuple #[.agg #[.int .i64 (itW v), .int .i64 (itN v), .int .i64 (itX v)], .int .i64 (unE v)]) ∧ Kept (fun _ => False) w w' := by
  by_cases h : 0 ≤ v ∧ v < 4611686018427387904
  · obtain ⟨h0, h1⟩ := h
    have ho : okI v = true := by simp [okI, h0, h1]
    have eW : itW v = v / 72057594037927936 := by simp [itW, ho]
    have eN : itN v = bits BinOp.and IntKind.i64 (v / 4294967296) 16777215 := by simp [itN, ho]
    have eX : itX v = wrap64 (wrap32 (v % 4294967296)) := by simp [itX, ho]
    have eE : unE v = 0 := by simp [unE, ho]
    rw [eW, eN, eX, eE]
    clear eW eN eX eE ho
    go_enter Tryz.func13, Tryz.ntmps13
    go_wp2
    have c0 := (Blk.new w 30 #[.int .i64 (v / 72057594037927936), .int .i64 (bits BinOp.and IntKind.i64 (v / 4294967296) 16777215), .int .i64 (wrap64 (wrap32 (v % 4294967296)))]).cell 0
    have c1 := (Blk.new w 30 #[.int .i64 (v / 72057594037927936), .int .i64 (bits BinOp.and IntKind.i64 (v / 4294967296) 16777215), .int .i64 (wrap64 (wrap32 (v % 4294967296)))]).cell 1
    have c2 := (Blk.new w 30 #[.int .i64 (v / 72057594037927936), .int .i64 (bits BinOp.and IntKind.i64 (v / 4294967296) 16777215), .int .i64 (wrap64 (wrap32 (v % 4294967296)))]).cell 2
    refine bodyPost_ret (v := .tuple #[.agg #[.int .i64 (v / 72057594037927936), .int .i64 (bits BinOp.and IntKind.i64 (v / 4294967296) 16777215), .int .i64 (wrap64 (wrap32 (v % 4294967296)))], .int .i64 0]) ?_ rfl ⟨rfl, Kept.alloc _ _⟩
    simp only [List.getElem?_toArray, List.getElem?_cons_zero, List.getElem?_cons_succ] at c0 c1 c2
    simp [results, Tryz.f13, go_sem, c0, c1, c2]
  · have ho : okI v = false := by
      simp only [okI, Bool.and_eq_false_iff, decide_eq_false_iff_not]
      omega
    have eW : itW v = 0 := by simp [itW, ho]
    have eN : itN v = 0 := by simp [itN, ho]
    have eX : itX v = 0 := by simp [itX, ho]
    have eE : unE v = 1 := by simp [unE, ho]
    rw [eW, eN, eX, eE]
    have hb : (decide (v < 0) || decide (4611686018427387904 ≤ v)) = true := by
      simp only [Bool.or_eq_true, decide_eq_true_eq]
      omega
    clear eW eN eX eE ho h
    go_enter Tryz.func13, Tryz.ntmps13
    go_wp2
    all_goals
      have c0 := (Blk.new w 30 #[.int .i64 0, .int .i64 0, .int .i64 0]).cell 0
      have c1 := (Blk.new w 30 #[.int .i64 0, .int .i64 0, .int .i64 0]).cell 1
      have c2 := (Blk.new w 30 #[.int .i64 0, .int .i64 0, .int .i64 0]).cell 2
      refine bodyPost_ret (v := .tuple #[.agg #[.int .i64 0, .int .i64 0, .int .i64 0], .int .i64 1]) ?_ rfl ⟨rfl, Kept.alloc _ _⟩
      simp only [List.getElem?_toArray, List.getElem?_cons_zero, List.getElem?_cons_succ] at c0 c1 c2
      simp [results, Tryz.f13, go_sem, c0, c1, c2]
theorem skL {P : Program} {ops : Array Oper} {md : Region.Mode} {Q : Exit → Act → World → Prop} {S : World → Prop} {listed : Array Bool} {a : Act} {w : World} (i fuel : Nat) (d : Tmp)
    (h : ∃ o, ops[i]? = some o ∧ o.dst = some d ∧ Region.noSelect ops = true ∧ Region.free md ops listed i = true ∧ (Region.ready md ops listed).contains i = true ∧ (∀ c a w, ¬ Q (.panic c) a w) ∧ Region.wanted o (yielded ops a.tmps) = false ∧ S w ∧
      wpAnyH P md ops Q S fuel (listed.setIfInBounds i true) (a.put (some d) undef) w) : wpAnyH P md ops Q S (fuel + 1) listed a w := by
  obtain ⟨o, h1, h2, h3, h4, h5, h6, h7, h8, h10⟩ := h
  rw [← h2] at h10
  exact wpAnyH_take h1 h3 h4 h5 (fun c a w q => absurd q (h6 c _ w)) (.inr ⟨h7, rfl⟩) h8 h10
/-- Does a filter let a number through? -/
def letsB (kd a b q v : Int) : Bool := if kd = 0 then true else if kd = 1 then (unE v == 0 && itW v == a) else if kd = 2 then (decide (a ≤ v) && decide (v ≤ b)) else if kd = 3 then (decide (1 ≤ a) && (q.tmod a == b)) else false
theorem lets_ok (kd a b q v : Int) (w : World) (hq0 : -9223372036854775808 ≤ q) (hq1 : q ≤ 9223372036854775807) (ha1 : a ≤ 9223372036854775807) : Calls Tryz.prog 8 #[.agg #[.int .i64 kd, .int .i64 a, .int .i64 b], .int .i64 q, .int .i64 v] w fun e w' => e = .returned (.bool (letsB kd a b q v)) ∧ Kept (fun _ => False) w w' := by
  by_cases h0 : kd = 0
  · subst h0
    rw [show letsB 0 a b q v = true from rfl]
    go_enter Tryz.func8, Tryz.ntmps8
    go_wp2
    go_ret
    exact ⟨rfl, Kept.alloc _ _⟩
  by_cases h1 : kd = 1
  · subst h1
    rw [show letsB 1 a b q v = (unE v == 0 && itW v == a) from rfl]
    clear h0
    go_enter Tryz.func8, Tryz.ntmps8
    go_wp2_with fail
    have ka : Kept (fun _ => False) w (w.alloc (.cells #[.int .i64 1, .int .i64 a, .int .i64 b] 24)) := Kept.alloc _ _
    have ba := Blk.new w 24 #[.int .i64 1, .int .i64 a, .int .i64 b]
    obtain ⟨xf, hxf⟩ : ∃ x, x = w.heap.size := ⟨_, rfl⟩
    rw [← hxf] at ba ⊢
    generalize w.alloc (.cells #[.int .i64 1, .int .i64 a, .int .i64 b] 24) = wa at ka ba ⊢
    have HA := Lib.hid (And.intro ka (And.intro ba hxf))
    clear ka ba hxf
    refine (unpack_bus v wa).mono ?_
    rintro e w1 ⟨rfl, k1⟩
    have H1 := Lib.hid k1
    have c1 : w1.cell? ⟨xf, 1, none⟩ = some (.int .i64 a) := (HA.out.2.1.kept k1 id).cell 1
    clear k1
    have c1' := c1
    generalize itN v = xN at *
    generalize itX v = xX at *
    have ka := Kept.alloc (S := fun _ => False) w1 (.cells #[.int .i64 (itW v), .int .i64 xN, .int .i64 xX] 30)
    have c2 := cell_keep c1 ka id
    have HK := Lib.hid ((HA.out.1.trans H1.out).trans ka)
    clear ka
    by_cases hE : unE v = 0
    · rw [hE]
      go_wp2
      go_ret
      exact ⟨by simp [hE], HK.out⟩
    · have hE' : (unE v == 0) = false := by simpa using hE
      clear hE
      go_wp2
      go_ret
      exact ⟨by simp only [hE', Bool.false_and]; rfl, HK.out⟩
  by_cases h2 : kd = 2
  · subst h2
    rw [show letsB 2 a b q v = (decide (a ≤ v) && decide (v ≤ b)) from rfl]
    clear h0 h1
    by_cases hv : a ≤ v
    · have d1 : decide (a ≤ v) = true := by simpa using hv
      rw [d1]
      go_enter Tryz.func8, Tryz.ntmps8
      go_wp2
      go_ret
      exact ⟨rfl, Kept.alloc _ _⟩
    · have d1 : decide (a ≤ v) = false := by simpa using hv
      rw [d1]
      go_enter Tryz.func8, Tryz.ntmps8
      go_wp2
      go_ret
      exact ⟨rfl, Kept.alloc _ _⟩
  by_cases h3 : kd = 3
  · subst h3
    rw [show letsB 3 a b q v = (decide (1 ≤ a) && (q.tmod a == b)) from rfl]
    clear h0 h1 h2
    by_cases hv : 1 ≤ a
    · have d1 : decide (1 ≤ a) = true := by simpa using hv
      have d3 : ¬ a = 0 := by omega
      rw [d1]
      go_enter Tryz.func8, Tryz.ntmps8
      go_wp2_with fail
      rename_i K0 hK0
      have hbf := Blk.new w 24 #[.int .i64 3, .int .i64 a, .int .i64 b]
      have hkf : Kept (fun _ => False) w (w.alloc (.cells #[.int .i64 3, .int .i64 a, .int .i64 b] 24)) := Kept.alloc _ _
      obtain ⟨xf, hxf⟩ : ∃ x, x = w.heap.size := ⟨_, rfl⟩
      rw [← hxf] at hbf ⊢
      generalize w.alloc (.cells #[.int .i64 3, .int .i64 a, .int .i64 b] 24) = wa at hbf hkf ⊢
      clear hxf
      refine strictL ?_
      refine wp_region_held (S := Kept (fun _ => False) wa) (by kernel_rfl) ?_
      simp only [List.size_toArray, List.length_cons, List.length_nil, Nat.reduceAdd]
      have HW1 : Hid (Kept (fun _ => False) wa { wa with drawn := wa.drawn + 1 }) := Lib.hid (Kept.drew wa)
      iterate 12
        first
        | refine rdL 0 12 43 ?_
        | refine rdL 1 11 44 ?_
        | refine rdL 2 10 45 ?_
        | refine rdL 3 9 46 ?_
        | refine rdL 4 8 47 ?_
        | refine rdL 5 7 48 ?_
        | refine rdL 6 6 49 ?_
        | refine rdL 7 5 50 ?_
        | refine rdL 8 4 51 ?_
        | refine rdL 9 3 52 ?_
        | refine rdL 10 2 53 ?_
        | refine rdL 11 1 54 ?_
        refine ⟨_, rfl, rfl, by kernel_rfl, by kernel_rfl, by kernel_rfl, (fun c a w h => by cases h.1), rfl, HW1.out, ?_⟩
        apply Exists.intro
        refine ⟨fun wq hw => ?_, ?_⟩
        · have hb := hbf.kept hw id
          have c1 : wq.cell? ⟨xf, 1, none⟩ = some (.int .i64 a) := hb.cell 1
          have c2 : wq.cell? ⟨xf, 2, none⟩ = some (.int .i64 b) := hb.cell 2
          clear hb
          go_simp
          first | rfl | (rw [if_neg d3]; rfl)
        simp only [Act.put, List.setIfInBounds_toArray, List.set_cons_zero, List.set_cons_succ]
      refine oneL (i := 12) (fuel := 0) (by kernel_rfl) rfl rfl fun K hK' => ?_
      unfold Oper.wp
      go_simp
      refine hK' _ _ HW1.out ?_
      clear hK' K
      refine wpAnyH_done (by kernel_rfl) ⟨rfl, ?_⟩ _
      refine hK0 _ _ ?_
      have hkz : Kept (fun _ => False) w { wa with drawn := wa.drawn + 1 } := hkf.trans HW1.out
      go_wp2
      go_ret
      exact ⟨rfl, hkz⟩
    · have d1 : decide (1 ≤ a) = false := by simpa using hv
      rw [d1]
      go_enter Tryz.func8, Tryz.ntmps8
      go_wp2_with fail
      rename_i K0 hK0
      have hbf := Blk.new w 24 #[.int .i64 3, .int .i64 a, .int .i64 b]
      have hkf : Kept (fun _ => False) w (w.alloc (.cells #[.int .i64 3, .int .i64 a, .int .i64 b] 24)) := Kept.alloc _ _
      obtain ⟨xf, hxf⟩ : ∃ x, x = w.heap.size := ⟨_, rfl⟩
      rw [← hxf] at hbf ⊢
      generalize w.alloc (.cells #[.int .i64 3, .int .i64 a, .int .i64 b] 24) = wa at hbf hkf ⊢
      clear hxf
      refine strictL ?_
      refine wp_region_held (S := Kept (fun _ => False) wa) (by kernel_rfl) ?_
      simp only [List.size_toArray, List.length_cons, List.length_nil, Nat.reduceAdd]
      have HW1 : Hid (Kept (fun _ => False) wa { wa with drawn := wa.drawn + 1 }) := Lib.hid (Kept.drew wa)
      iterate 4
        first
        | refine rdL 0 12 43 ?_
        | refine rdL 1 11 44 ?_
        | refine rdL 2 10 45 ?_
        | refine rdL 3 9 46 ?_
        refine ⟨_, rfl, rfl, by kernel_rfl, by kernel_rfl, by kernel_rfl, (fun c a w h => by cases h.1), rfl, HW1.out, ?_⟩
        apply Exists.intro
        refine ⟨fun wq hw => ?_, ?_⟩
        · have hb := hbf.kept hw id
          have c1 : wq.cell? ⟨xf, 1, none⟩ = some (.int .i64 a) := hb.cell 1
          have c2 : wq.cell? ⟨xf, 2, none⟩ = some (.int .i64 b) := hb.cell 2
          clear hb
          go_simp
          first | rfl | (rw [if_neg d3]; rfl)
        simp only [Act.put, List.setIfInBounds_toArray, List.set_cons_zero, List.set_cons_succ]
      iterate 7
        first
        | refine skL 4 8 47 ?_
        | refine skL 5 7 48 ?_
        | refine skL 6 6 49 ?_
        | refine skL 7 5 50 ?_
        | refine skL 8 4 51 ?_
        | refine skL 9 3 52 ?_
        | refine skL 10 2 53 ?_
        refine ⟨_, rfl, rfl, by kernel_rfl, by kernel_rfl, by kernel_rfl, (fun c a w h => by cases h.1), rfl, HW1.out, ?_⟩
        simp only [Act.put, List.setIfInBounds_toArray, List.set_cons_zero, List.set_cons_succ]
      iterate 1
        refine rdL 11 1 54 ?_
        refine ⟨_, rfl, rfl, by kernel_rfl, by kernel_rfl, by kernel_rfl, (fun c a w h => by cases h.1), rfl, HW1.out, ?_⟩
        apply Exists.intro
        refine ⟨fun wq hw => ?_, ?_⟩
        · have hb := hbf.kept hw id
          have c1 : wq.cell? ⟨xf, 1, none⟩ = some (.int .i64 a) := hb.cell 1
          have c2 : wq.cell? ⟨xf, 2, none⟩ = some (.int .i64 b) := hb.cell 2
          clear hb
          go_simp
          first | rfl | (rw [if_neg d3]; rfl)
        simp only [Act.put, List.setIfInBounds_toArray, List.set_cons_zero, List.set_cons_succ]
      refine oneL (i := 12) (fuel := 0) (by kernel_rfl) rfl rfl fun K hK' => ?_
      unfold Oper.wp
      go_simp
      refine hK' _ _ HW1.out ?_
      clear hK' K
      refine wpAnyH_done (by kernel_rfl) ⟨rfl, ?_⟩ _
      refine hK0 _ _ ?_
      have hkz : Kept (fun _ => False) w { wa with drawn := wa.drawn + 1 } := hkf.trans HW1.out
      go_wp2
      go_ret
      exact ⟨rfl, hkz⟩
  · have hL : letsB kd a b q v = false := by simp [letsB, h0, h1, h2, h3]
    have b0 : (kd == 0) = false := by simpa using h0
    have b1 : (kd == 1) = false := by simpa using h1
    have b2 : (kd == 2) = false := by simpa using h2
    have b3 : (kd == 3) = false := by simpa using h3
    rw [hL]
    clear h0 h1 h2 h3 hL
    go_enter Tryz.func8, Tryz.ntmps8
    go_wp2
    go_ret
    exact ⟨rfl, Kept.alloc _ _⟩
theorem lets_ref (kd a b q v : Int) (w : World) (hq0 : -9223372036854775808 ≤ q) (hq1 : q ≤ 9223372036854775807) (ha1 : a ≤ 9223372036854775807) : Calls Tryz.prog 9 #[.int .i64 kd, .int .i64 a, .int .i64 b, .int .i64 q, .int .i64 v] w fun e w' => e = .returned (.bool (letsB kd a b q v)) ∧ Kept (fun _ => False) w w' := by
  by_cases h0 : kd = 0
  · subst h0
    rw [show letsB 0 a b q v = true from rfl]
    go_enter Tryz.func9, Tryz.ntmps9
    go_wp2
    go_ret
    exact ⟨rfl, Kept.refl _ _⟩
  by_cases h1 : kd = 1
  · subst h1
    rw [show letsB 1 a b q v = (unE v == 0 && itW v == a) from rfl]
    clear h0
    go_enter Tryz.func9, Tryz.ntmps9
    go_wp2_with fail
    refine (unpack_ref v w).mono ?_
    rintro e w1 ⟨rfl, k1⟩
    generalize itN v = xN at *
    generalize itX v = xX at *
    have HK := Lib.hid (k1.trans (Kept.alloc (S := fun _ => False) w1 (.cells #[.int .i64 (itW v), .int .i64 xN, .int .i64 xX] 30)))
    clear k1
    by_cases hE : unE v = 0
    · rw [hE]
      go_wp2
      go_ret
      exact ⟨by simp [hE], HK.out⟩
    · have hE' : (unE v == 0) = false := by simpa using hE
      clear hE
      go_wp2
      go_ret
      exact ⟨by simp only [hE', Bool.false_and]; rfl, HK.out⟩
  by_cases h2 : kd = 2
  · subst h2
    rw [show letsB 2 a b q v = (decide (a ≤ v) && decide (v ≤ b)) from rfl]
    clear h0 h1
    by_cases hv : a ≤ v
    · have d1 : decide (a ≤ v) = true := by simpa using hv
      rw [d1]
      go_enter Tryz.func9, Tryz.ntmps9
      go_wp2
      go_ret
      exact ⟨rfl, Kept.refl _ _⟩
    · have d1 : decide (a ≤ v) = false := by simpa using hv
      rw [d1]
      go_enter Tryz.func9, Tryz.ntmps9
      go_wp2
      go_ret
      exact ⟨rfl, Kept.refl _ _⟩
  by_cases h3 : kd = 3
  · subst h3
    rw [show letsB 3 a b q v = (decide (1 ≤ a) && (q.tmod a == b)) from rfl]
    clear h0 h1 h2
    by_cases hv : 1 ≤ a
    · have d1 : decide (1 ≤ a) = true := by simpa using hv
      have d2 : (a == 0) = false := by simp only [beq_eq_false_iff_ne]; omega
      rw [d1]
      go_enter Tryz.func9, Tryz.ntmps9
      go_wp2
      go_ret
      exact ⟨rfl, Kept.refl _ _⟩
    · have d1 : decide (1 ≤ a) = false := by simpa using hv
      rw [d1]
      go_enter Tryz.func9, Tryz.ntmps9
      go_wp2
      go_ret
      exact ⟨rfl, Kept.refl _ _⟩
  · have hL : letsB kd a b q v = false := by simp [letsB, h0, h1, h2, h3]
    have b0 : (kd == 0) = false := by simpa using h0
    have b1 : (kd == 1) = false := by simpa using h1
    have b2 : (kd == 2) = false := by simpa using h2
    have b3 : (kd == 3) = false := by simpa using h3
    rw [hL]
    clear h0 h1 h2 h3 hL
    go_enter Tryz.func9, Tryz.ntmps9
    go_wp2
    go_ret
    exact ⟨rfl, Kept.refl _ _⟩
end Go.Proofs.YtbmjmamodnapiaaGreatDoor
