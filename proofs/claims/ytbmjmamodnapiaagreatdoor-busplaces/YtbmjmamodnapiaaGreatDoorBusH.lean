/- DERIVED. A gate joined (package gate: Join), lone. -/
import Derived.Test.YtbmjmamodnapiaaGreatDoorBusG
namespace Go.Proofs.YtbmjmamodnapiaaGreatDoor
open Go.RowKit
set_option linter.unusedVariables false
theorem own_baseL {w : World} {b b' : Nat} {e : TypeId} {size n : Nat} {v : Value} {xs : List Value} (h : w.ownsRow b e size v n xs) (hb : b' ≤ b) : w.ownsRow b' e size v n xs := by
  obtain ⟨h1, h2⟩ := h
  refine ⟨h1, ?_⟩
  rcases h2 with h2 | ⟨g, cap, cur, hv, hg, r⟩
  · exact .inl h2
  · exact .inr ⟨g, cap, cur, hv, by omega, r⟩
theorem own_succ {w : World} {b0 n c : Nat} {e : TypeId} {A : Option Addr} {xs : List Value} (h : w.ownsRow b0 e 1 (.slice A (n + 1) c) (n + 1) xs) : ∃ L, A = some ⟨L, 0, none⟩ ∧ b0 ≤ L ∧ n + 1 ≤ c ∧ c ≤ maxLen ∧ ∀ j u, xs[j]? = some u → w.cell? ⟨L, j, none⟩ = some u := by
  rcases h.2 with ⟨_, h2⟩ | ⟨g, cap, cur, hv, hb, hg, h3, h4, _, h6⟩
  · omega
  · simp only [Value.slice.injEq] at hv
    obtain ⟨rfl, -, rfl⟩ := hv
    refine ⟨g, rfl, hb, h3, h4, fun j u hu => ?_⟩
    have hj : j < (n + 1) * 1 := by
      have h1 := h.1
      rcases Nat.lt_or_ge j xs.length with hlt | hge
      · omega
      · rw [List.getElem?_eq_none hge] at hu; cases hu
    exact (h.cellAt j hj).trans hu
theorem GateAt.setHd {w : World} {G : Nat} {p : Option Addr} {f : Nat → Int} (h : GateAt w G p f) (q : Option Addr) : GateAt (w.setCell ⟨G, 0, none⟩ (.pointer q)) G q f where
  hd := World.cell?_setCell_same _ _ _ (by rw [h.hd])
  num j hj := by
    rw [World.cell?_setCell_other _ _ _ _ (by simp)]
    exact h.num j hj
  fz j := by simp [h.fz j]
set_option maxHeartbeats 4000000 in
set_option maxRecDepth 100000 in
theorem gate_join (G i : Nat) (gp : Option Addr) (mv : Value) (ml : List Int) (f : Nat → Int) (x : Int) (w : World) (hg : GateAt w G gp f) (hb : BoxV 214 gp mv w) (hm : MembersAt w mv ml) (hi : i < 64) (hni : (i : Int) ∉ ml) (hml : ml.length ≤ 64)
    (hgne : ∀ K, gp = some ⟨K, 0, none⟩ → K ≠ G) (hmne : ∀ A n c, mv = .slice (some A) n c → A.block ≠ G) :
    Calls Tryz.prog 61 #[.pointer (some ⟨G, 0, none⟩), .nilIface, .int .i64 i, .int .i64 x] w fun e w' => e = .returned (.int .i64 0) ∧ Kept (fun b => b = G) w w' ∧ ∃ K L c, w.heap.size ≤ K ∧ w.heap.size ≤ L ∧ GateAt w' G (some ⟨K, 0, none⟩) (upd f i x) ∧
      Blk w' K 214 #[.slice (some ⟨L, 0, none⟩) (ml.length + 1) c, .int .i64 0] ∧ ml.length + 1 ≤ c ∧ c ≤ maxLen ∧ ∀ j (h : j < (ml ++ [(i : Int)]).length), w'.cell? ⟨L, j, none⟩ = some (.int .i64 (ml ++ [(i : Int)])[j]) := by
  have HG := Lib.hid hg
  have HM0 := Lib.hid (And.intro hb hm)
  have HN := Lib.hid (And.intro hgne hmne)
  clear hg hb hm hgne hmne
  go_enter Tryz.func61, Tryz.ntmps61
  go_wp2_with (go_at_call 78; refine (refused_no _ i _ hi).mono ?_; rintro e w' ⟨rfl, rfl⟩)
  go_loopw [10] (fun _ wr => wr = w) (fun _ _ => 0)
  case atStart => rfl
  case round =>
    subst hrel
    go_wp2_with fail
    refine (box_load_mb ⟨G, 0, none⟩ gp _ HG.out.hd HM0.out.1.held).mono ?_
    rintro e w5 ⟨rfl, k5⟩
    have H5 := Lib.hid k5
    have k5z := Lib.hid k5.size
    clear k5
    go_wp2_with fail
    have ha : Kept (fun _ => False) w5 (w5.alloc (.cells #[.pointer gp, .pointer (some ⟨G, 0, none⟩)] 196)) := Kept.alloc _ _
    have hb14 := Blk.new w5 196 #[.pointer gp, .pointer (some ⟨G, 0, none⟩)]
    generalize w5.alloc (.cells #[.pointer gp, .pointer (some ⟨G, 0, none⟩)] 196) = w6 at *
    obtain ⟨b14, hb⟩ : ∃ x, w5.heap.size = x := ⟨_, rfl⟩
    rw [hb] at hb14 ⊢
    have H6 := Lib.hid (And.intro (H5.out.trans ha) (And.intro hb14 (And.intro hb H5.out.size)))
    clear ha hb14 hb H5
    refine (held_value_mb (some ⟨G, 0, none⟩) gp mv _ (HM0.out.1.kept H6.out.1)).mono ?_
    rintro e w7 ⟨rfl, k7⟩
    have H7 := Lib.hid (H6.out.1.trans k7)
    have H67 := Lib.hid k7
    clear k7
    go_wp2_with fail
    refine (contains_no mv ml i _ (HM0.out.2.kept H7.out) hni).mono ?_
    rintro e w8 ⟨rfl, rfl⟩
    go_wp2_with fail
    refine (gate_set G i gp f x _ (HG.out.kept H7.out id) hi).mono ?_
    rintro e w8 ⟨rfl, hw8⟩
    have hGlt := HG.out.lt
    obtain ⟨q1, q2, q3, q4⟩ := H6.out
    have hne : b14 ≠ G := by have := q1.size; have := k5z.out; omega
    have kG7 : Kept (fun b => b = G) w7 w8 := hw8 ▸ Kept.setCell (S := fun b => b = G) w7 (p := ⟨G, 1 + i, none⟩) (by rfl) _
    have hG8 : GateAt w8 G gp (upd f i x) := hw8 ▸ (HG.out.kept H7.out id).setNum hi x
    have hb8 := (q2.kept H67.out id).kept kG7 hne
    have hB8 : BoxV 214 gp mv w8 := by
      rcases HM0.out.1.kept H7.out with hx | ⟨K, b, h1, h2⟩
      · exact .inl hx
      · exact .inr ⟨K, b, h1, h2.kept kG7 (HN.out.1 K h1)⟩
    have hM8 : MembersAt w8 mv ml := by
      obtain ⟨A, c, h1, h2, h3, h4, h5⟩ := HM0.out.2.kept H7.out
      exact ⟨A, c, h1, h2, h3, h4, fun j hj => by
        obtain ⟨L, k1, k2⟩ := h5 j hj
        exact ⟨L, k1, cell_keep k2 kG7 (HN.out.2 ⟨L, 0, none⟩ _ _ (by rw [h1, k1]))⟩⟩
    have HM := Lib.hid (And.intro hB8 hM8)
    have HG8 := Lib.hid hG8
    have HB8 := Lib.hid hb8
    have HK8 := Lib.hid ((H7.out.mono fun _ _ z => z.elim).trans kG7)
    clear q1 q2 q3 q4 kG7 hG8 hb8 hB8 hM8 hw8 H6 H7 H67 hGlt
    go_wp2_with fail
    rename_i K0 hK0
    refine strictL ?_
    refine wp_region_held (S := Kept (fun b => b = G) w8) (by kernel_rfl) ?_
    simp only [List.size_toArray, List.length_cons, List.length_nil, Nat.reduceAdd]
    have HW1 : Hid (Kept (fun b => b = G) w8 { w8 with drawn := w8.drawn + 1 }) := Lib.hid (Kept.drew w8)
    iterate 7
      first
      | refine rdL 0 11 31 ?_
      | refine rdL 1 10 32 ?_
      | refine rdL 2 9 33 ?_
      | refine rdL 3 8 34 ?_
      | refine rdL 4 7 35 ?_
      | refine rdL 5 6 36 ?_
      | refine rdL 8 5 39 ?_
      refine ⟨_, rfl, rfl, by kernel_rfl, by kernel_rfl, by kernel_rfl, (fun c a w h => by cases h.1), rfl, HW1.out, ?_⟩
      apply Exists.intro
      refine ⟨fun wq hw => ?_, ?_⟩
      · have hb := HB8.out.kept hw hne
        have c0 : wq.cell? ⟨b14, 0, none⟩ = some (.pointer gp) := hb.cell 0
        have c1 : wq.cell? ⟨b14, 1, none⟩ = some (.pointer (some ⟨G, 0, none⟩)) := hb.cell 1
        clear hb
        go_simp
        rfl
      simp only [Act.put, List.setIfInBounds_toArray, List.set_cons_zero, List.set_cons_succ]
    have hkd : Kept (fun _ => False) w8 { w8 with drawn := w8.drawn + 1 } := Kept.drew w8
    clear HW1
    generalize ({ w8 with drawn := w8.drawn + 1 } : World) = wd at hkd ⊢
    have HY0 := Lib.hid hkd
    clear hkd
    refine wpAnyH_all (rs := [6, 9]) (fuel := 4) (by kernel_rfl) (by simp) fun i hi => ?_
    simp only [List.mem_cons, List.not_mem_nil, or_false] at hi
    rcases hi with rfl | rfl
    · refine opL rfl rfl ?_
      unfold Oper.wp
      go_simp
      refine (held_value_mb (some ⟨G, 0, none⟩) gp mv _ (HM.out.1.kept HY0.out)).mono ?_
      rintro e wa1 ⟨rfl, k6⟩
      dsimp only
      have HY1 := Lib.hid (HY0.out.trans k6)
      have HK6 := Lib.hid k6
      clear k6
      refine ⟨HY1.out.mono fun _ _ z => z.elim, ?_⟩
      refine wpAnyH_all (rs := [7, 9]) (fuel := 3) (by kernel_rfl) (by simp) fun i hi => ?_
      simp only [List.mem_cons, List.not_mem_nil, or_false] at hi
      rcases hi with rfl | rfl
      · refine opL rfl rfl ?_
        unfold Oper.wp
        go_simp
        refine (clone_ok mv ml _ (HM.out.2.kept HY1.out) hml).mono ?_
        rintro e wb ⟨v7, rfl, k7, o7⟩
        obtain ⟨vA, vc, rfl⟩ := own_slice o7
        dsimp only
        have HO := Lib.hid (own_baseL o7 HY1.out.size)
        have HY2 := Lib.hid (HY1.out.trans k7)
        have HK7 := Lib.hid k7
        clear k7 o7
        refine ⟨HY2.out.mono fun _ _ z => z.elim, ?_⟩
        refine wpAnyH_all (rs := [9]) (fuel := 2) (by kernel_rfl) (by simp) fun i hi => ?_
        simp only [List.mem_cons, List.not_mem_nil, or_false] at hi
        subst hi
        refine opL rfl rfl ?_
        unfold Oper.wp
        go_simp
        have hal := Kept.alloc (S := fun _ => False) wb (.cells #[.int .i64 i] 3)
        have hbx := Blk.new wb 3 #[.int .i64 (i : Int)]
        generalize wb.alloc (.cells #[.int .i64 i] 3) = wc at hal hbx ⊢
        obtain ⟨xa, hxa⟩ : ∃ xa, xa = wb.heap.size := ⟨_, rfl⟩
        rw [← hxa] at hbx ⊢
        clear hxa
        have HY3 := Lib.hid (HY2.out.trans hal)
        have HAL := Lib.hid hal
        have HX := Lib.hid hbx
        clear hal hbx
        refine ⟨HY3.out.mono fun _ _ z => z.elim, ?_⟩
        have hxc : wc.cell? ⟨xa, 0, none⟩ = some (.int .i64 i) := HX.out.cell 0
        have HY := HY3
        have hO := (own_kept HO.out HAL.out (fun _ _ z => z))
        generalize wc = y at hxc HY hO ⊢
        obtain ⟨i0, hi0, hz0, hz1, hz2⟩ := info_parts Tryz.infoI
        have hY := HY.out
        refine oneL (i := 10) (fuel := 1) (by kernel_rfl) rfl rfl fun K hK' => ?_
        refine wp_append_own y _ _ 198 rfl w8.heap.size 3 i0 (.int .i64 0) 1 8 Tryz.underlying198 hi0 hz0 hz1 hz2 rfl (by decide) (.slice vA ml.length vc) ml.length (ml.map (.int .i64)) rfl hO ⟨xa, 0, none⟩ 1 1 [.int .i64 i] rfl rfl ?_ (by simp [Value.oneCell']) (by unfold maxLen; omega) (by omega) hY.size fun v' u1 h1 h2 h3 => ?_
        · intro j u hu
          cases j with
          | zero => simp at hu; subst hu; simpa [Addr.add] using hxc
          | succ j => simp at hu
        have hu : Kept (fun _ => False) w8 u1 := hY.later (Kept.grown (S := fun b => (Value.slice vA ml.length vc).ownBlock = some b) h2 (fun k hk => hk)) (fun b hb => (hO.lt b hb).1)
        obtain ⟨A', c', rfl⟩ := own_slice h1
        refine hK' _ _ (hu.mono fun _ _ z => z.elim) ?_
        clear hK' K
        have HF := Lib.hid (And.intro hu h1)
        have hGu := HG8.out.kept hu id
        have hPu := HM.out.1.held.kept hu
        have HGU := Lib.hid hGu
        clear h2 h3 hxc hi0 hz0 hz1 hz2 h1 hO hu hY
        refine oneL (i := 11) (fuel := 0) (by kernel_rfl) rfl rfl fun K hK' => ?_
        unfold Oper.wp
        go_simp
        refine (box_cas_mb ⟨G, 0, none⟩ gp _ (ml.length + 1) c' A' u1 HGU.out.hd (HGU.out.fz 0) hPu rfl).mono ?_
        rintro e u2 ⟨rfl, kc, K1, hK1, bK1, u3, k3, hlt3, hu2⟩
        dsimp only
        have kc' : Kept (fun b => b = G) u1 u2 := kc
        have HC := Lib.hid (And.intro kc' (And.intro bK1 (And.intro k3 hu2)))
        refine hK' _ _ ((HF.out.1.mono fun _ _ z => z.elim).trans kc') ?_
        clear hK' K kc kc' bK1 k3 hu2 hGu hPu
        refine wpAnyH_done (by kernel_rfl) ⟨rfl, ?_⟩ _
        refine hK0 _ _ ?_
        go_wp2
        go_ret
        obtain ⟨kc, bK1, k3, hu2⟩ := HC.out
        obtain ⟨hu, h1⟩ := HF.out
        have hsz8 := HK8.out.size
        have hszu := hu.size
        obtain ⟨L, hL, hL8, hc1, hc2, hcell⟩ := own_succ h1
        have hGlt := HG.out.lt
        subst hL
        refine ⟨rfl, (HK8.out.trans (hu.mono fun _ _ z => z.elim)).trans kc, K1, L, c', by omega, by omega, ?_, bK1, hc1, hc2, fun j hj => ?_⟩
        · rw [hu2]
          exact (HGU.out.kept k3 id).setHd _
        · refine cell_keep (hcell j _ ?_) kc (fun e => by have e : L = G := e; omega)
          rw [show ml.map (Value.int .i64) ++ [Value.int .i64 (i : Int)] = (ml ++ [(i : Int)]).map (Value.int .i64) from by simp, List.getElem?_map, List.getElem?_eq_getElem hj]
          rfl
      · refine opL rfl rfl ?_
        unfold Oper.wp
        go_simp
        have hal := Kept.alloc (S := fun _ => False) wa1 (.cells #[.int .i64 i] 3)
        have hbx := Blk.new wa1 3 #[.int .i64 (i : Int)]
        generalize wa1.alloc (.cells #[.int .i64 i] 3) = wc at hal hbx ⊢
        obtain ⟨xa, hxa⟩ : ∃ xa, xa = wa1.heap.size := ⟨_, rfl⟩
        rw [← hxa] at hbx ⊢
        clear hxa
        have HY2 := Lib.hid (HY1.out.trans hal)
        have HAL := Lib.hid hal
        have HX := Lib.hid hbx
        clear hal hbx
        refine ⟨HY2.out.mono fun _ _ z => z.elim, ?_⟩
        refine wpAnyH_all (rs := [7]) (fuel := 2) (by kernel_rfl) (by simp) fun i hi => ?_
        simp only [List.mem_cons, List.not_mem_nil, or_false] at hi
        subst hi
        refine opL rfl rfl ?_
        unfold Oper.wp
        go_simp
        refine (clone_ok mv ml _ (HM.out.2.kept HY2.out) hml).mono ?_
        rintro e wb ⟨v7, rfl, k7, o7⟩
        obtain ⟨vA, vc, rfl⟩ := own_slice o7
        dsimp only
        have HO := Lib.hid (own_baseL o7 HY2.out.size)
        have HY3 := Lib.hid (HY2.out.trans k7)
        have HK7 := Lib.hid k7
        clear k7 o7
        refine ⟨HY3.out.mono fun _ _ z => z.elim, ?_⟩
        have hxc : wb.cell? ⟨xa, 0, none⟩ = some (.int .i64 i) := (HX.out.kept HK7.out id).cell 0
        have HY := HY3
        have hO := HO.out
        generalize wb = y at hxc HY hO ⊢
        obtain ⟨i0, hi0, hz0, hz1, hz2⟩ := info_parts Tryz.infoI
        have hY := HY.out
        refine oneL (i := 10) (fuel := 1) (by kernel_rfl) rfl rfl fun K hK' => ?_
        refine wp_append_own y _ _ 198 rfl w8.heap.size 3 i0 (.int .i64 0) 1 8 Tryz.underlying198 hi0 hz0 hz1 hz2 rfl (by decide) (.slice vA ml.length vc) ml.length (ml.map (.int .i64)) rfl hO ⟨xa, 0, none⟩ 1 1 [.int .i64 i] rfl rfl ?_ (by simp [Value.oneCell']) (by unfold maxLen; omega) (by omega) hY.size fun v' u1 h1 h2 h3 => ?_
        · intro j u hu
          cases j with
          | zero => simp at hu; subst hu; simpa [Addr.add] using hxc
          | succ j => simp at hu
        have hu : Kept (fun _ => False) w8 u1 := hY.later (Kept.grown (S := fun b => (Value.slice vA ml.length vc).ownBlock = some b) h2 (fun k hk => hk)) (fun b hb => (hO.lt b hb).1)
        obtain ⟨A', c', rfl⟩ := own_slice h1
        refine hK' _ _ (hu.mono fun _ _ z => z.elim) ?_
        clear hK' K
        have HF := Lib.hid (And.intro hu h1)
        have hGu := HG8.out.kept hu id
        have hPu := HM.out.1.held.kept hu
        have HGU := Lib.hid hGu
        clear h2 h3 hxc hi0 hz0 hz1 hz2 h1 hO hu hY
        refine oneL (i := 11) (fuel := 0) (by kernel_rfl) rfl rfl fun K hK' => ?_
        unfold Oper.wp
        go_simp
        refine (box_cas_mb ⟨G, 0, none⟩ gp _ (ml.length + 1) c' A' u1 HGU.out.hd (HGU.out.fz 0) hPu rfl).mono ?_
        rintro e u2 ⟨rfl, kc, K1, hK1, bK1, u3, k3, hlt3, hu2⟩
        dsimp only
        have kc' : Kept (fun b => b = G) u1 u2 := kc
        have HC := Lib.hid (And.intro kc' (And.intro bK1 (And.intro k3 hu2)))
        refine hK' _ _ ((HF.out.1.mono fun _ _ z => z.elim).trans kc') ?_
        clear hK' K kc kc' bK1 k3 hu2 hGu hPu
        refine wpAnyH_done (by kernel_rfl) ⟨rfl, ?_⟩ _
        refine hK0 _ _ ?_
        go_wp2
        go_ret
        obtain ⟨kc, bK1, k3, hu2⟩ := HC.out
        obtain ⟨hu, h1⟩ := HF.out
        have hsz8 := HK8.out.size
        have hszu := hu.size
        obtain ⟨L, hL, hL8, hc1, hc2, hcell⟩ := own_succ h1
        have hGlt := HG.out.lt
        subst hL
        refine ⟨rfl, (HK8.out.trans (hu.mono fun _ _ z => z.elim)).trans kc, K1, L, c', by omega, by omega, ?_, bK1, hc1, hc2, fun j hj => ?_⟩
        · rw [hu2]
          exact (HGU.out.kept k3 id).setHd _
        · refine cell_keep (hcell j _ ?_) kc (fun e => by have e : L = G := e; omega)
          rw [show ml.map (Value.int .i64) ++ [Value.int .i64 (i : Int)] = (ml ++ [(i : Int)]).map (Value.int .i64) from by simp, List.getElem?_map, List.getElem?_eq_getElem hj]
          rfl
    · refine opL rfl rfl ?_
      unfold Oper.wp
      go_simp
      have hal := Kept.alloc (S := fun _ => False) wd (.cells #[.int .i64 i] 3)
      have hbx := Blk.new wd 3 #[.int .i64 (i : Int)]
      generalize wd.alloc (.cells #[.int .i64 i] 3) = wc at hal hbx ⊢
      obtain ⟨xa, hxa⟩ : ∃ xa, xa = wd.heap.size := ⟨_, rfl⟩
      rw [← hxa] at hbx ⊢
      clear hxa
      have HY1 := Lib.hid (HY0.out.trans hal)
      have HAL := Lib.hid hal
      have HX := Lib.hid hbx
      clear hal hbx
      refine ⟨HY1.out.mono fun _ _ z => z.elim, ?_⟩
      refine wpAnyH_all (rs := [6]) (fuel := 3) (by kernel_rfl) (by simp) fun i hi => ?_
      simp only [List.mem_cons, List.not_mem_nil, or_false] at hi
      subst hi
      refine opL rfl rfl ?_
      unfold Oper.wp
      go_simp
      refine (held_value_mb (some ⟨G, 0, none⟩) gp mv _ (HM.out.1.kept HY1.out)).mono ?_
      rintro e wa1 ⟨rfl, k6⟩
      dsimp only
      have HY2 := Lib.hid (HY1.out.trans k6)
      have HK6 := Lib.hid k6
      clear k6
      refine ⟨HY2.out.mono fun _ _ z => z.elim, ?_⟩
      refine wpAnyH_all (rs := [7]) (fuel := 2) (by kernel_rfl) (by simp) fun i hi => ?_
      simp only [List.mem_cons, List.not_mem_nil, or_false] at hi
      subst hi
      refine opL rfl rfl ?_
      unfold Oper.wp
      go_simp
      refine (clone_ok mv ml _ (HM.out.2.kept HY2.out) hml).mono ?_
      rintro e wb ⟨v7, rfl, k7, o7⟩
      obtain ⟨vA, vc, rfl⟩ := own_slice o7
      dsimp only
      have HO := Lib.hid (own_baseL o7 HY2.out.size)
      have HY3 := Lib.hid (HY2.out.trans k7)
      have HK7 := Lib.hid k7
      clear k7 o7
      refine ⟨HY3.out.mono fun _ _ z => z.elim, ?_⟩
      have hxc : wb.cell? ⟨xa, 0, none⟩ = some (.int .i64 i) := ((HX.out.kept HK6.out id).kept HK7.out id).cell 0
      have HY := HY3
      have hO := HO.out
      generalize wb = y at hxc HY hO ⊢
      obtain ⟨i0, hi0, hz0, hz1, hz2⟩ := info_parts Tryz.infoI
      have hY := HY.out
      refine oneL (i := 10) (fuel := 1) (by kernel_rfl) rfl rfl fun K hK' => ?_
      refine wp_append_own y _ _ 198 rfl w8.heap.size 3 i0 (.int .i64 0) 1 8 Tryz.underlying198 hi0 hz0 hz1 hz2 rfl (by decide) (.slice vA ml.length vc) ml.length (ml.map (.int .i64)) rfl hO ⟨xa, 0, none⟩ 1 1 [.int .i64 i] rfl rfl ?_ (by simp [Value.oneCell']) (by unfold maxLen; omega) (by omega) hY.size fun v' u1 h1 h2 h3 => ?_
      · intro j u hu
        cases j with
        | zero => simp at hu; subst hu; simpa [Addr.add] using hxc
        | succ j => simp at hu
      have hu : Kept (fun _ => False) w8 u1 := hY.later (Kept.grown (S := fun b => (Value.slice vA ml.length vc).ownBlock = some b) h2 (fun k hk => hk)) (fun b hb => (hO.lt b hb).1)
      obtain ⟨A', c', rfl⟩ := own_slice h1
      refine hK' _ _ (hu.mono fun _ _ z => z.elim) ?_
      clear hK' K
      have HF := Lib.hid (And.intro hu h1)
      have hGu := HG8.out.kept hu id
      have hPu := HM.out.1.held.kept hu
      have HGU := Lib.hid hGu
      clear h2 h3 hxc hi0 hz0 hz1 hz2 h1 hO hu hY
      refine oneL (i := 11) (fuel := 0) (by kernel_rfl) rfl rfl fun K hK' => ?_
      unfold Oper.wp
      go_simp
      refine (box_cas_mb ⟨G, 0, none⟩ gp _ (ml.length + 1) c' A' u1 HGU.out.hd (HGU.out.fz 0) hPu rfl).mono ?_
      rintro e u2 ⟨rfl, kc, K1, hK1, bK1, u3, k3, hlt3, hu2⟩
      dsimp only
      have kc' : Kept (fun b => b = G) u1 u2 := kc
      have HC := Lib.hid (And.intro kc' (And.intro bK1 (And.intro k3 hu2)))
      refine hK' _ _ ((HF.out.1.mono fun _ _ z => z.elim).trans kc') ?_
      clear hK' K kc kc' bK1 k3 hu2 hGu hPu
      refine wpAnyH_done (by kernel_rfl) ⟨rfl, ?_⟩ _
      refine hK0 _ _ ?_
      go_wp2
      go_ret
      obtain ⟨kc, bK1, k3, hu2⟩ := HC.out
      obtain ⟨hu, h1⟩ := HF.out
      have hsz8 := HK8.out.size
      have hszu := hu.size
      obtain ⟨L, hL, hL8, hc1, hc2, hcell⟩ := own_succ h1
      have hGlt := HG.out.lt
      subst hL
      refine ⟨rfl, (HK8.out.trans (hu.mono fun _ _ z => z.elim)).trans kc, K1, L, c', by omega, by omega, ?_, bK1, hc1, hc2, fun j hj => ?_⟩
      · rw [hu2]
        exact (HGU.out.kept k3 id).setHd _
      · refine cell_keep (hcell j _ ?_) kc (fun e => by have e : L = G := e; omega)
        rw [show ml.map (Value.int .i64) ++ [Value.int .i64 (i : Int)] = (ml ++ [(i : Int)]).map (Value.int .i64) from by simp, List.getElem?_map, List.getElem?_eq_getElem hj]
        rfl
end Go.Proofs.YtbmjmamodnapiaaGreatDoor
