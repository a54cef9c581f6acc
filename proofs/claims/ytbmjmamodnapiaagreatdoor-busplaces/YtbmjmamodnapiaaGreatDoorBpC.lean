/- DERIVED. A gate left (package gate: Leave), lone. -/
import Derived.Test.YtbmjmamodnapiaaGreatDoorBpB
namespace Go.Proofs.YtbmjmamodnapiaaGreatDoor
open Go.RowKit
set_option linter.unusedVariables false
theorem own_posF {w : World} {b0 n c : Nat} {e : TypeId} {A : Option Addr} {xs : List Value} (h : w.ownsRow b0 e 1 (.slice A n c) n xs) (hn : 0 < n) : ∃ L, A = some ⟨L, 0, none⟩ ∧ b0 ≤ L ∧ n ≤ c ∧ c ≤ maxLen ∧ L < w.heap.size ∧ (∀ j u, xs[j]? = some u → w.cell? ⟨L, j, none⟩ = some u) ∧ ∀ j, w.frozen? ⟨L, j, none⟩ = false := by
  obtain ⟨m, rfl⟩ : ∃ m, n = m + 1 := ⟨n - 1, by omega⟩
  have h0 := h
  obtain ⟨L, h1, h2, h3, h4, h5⟩ := own_succ h
  subst h1
  refine ⟨L, rfl, h2, h3, h4, (h.lt L rfl).2, h5, fun j => ?_⟩
  rcases h0.2 with ⟨_, h6⟩ | ⟨g, cap, cur, hv, hb, hg, _⟩
  · omega
  · simp only [Value.slice.injEq, Option.some.injEq, Addr.mk.injEq] at hv
    obtain ⟨⟨rfl, -⟩, -⟩ := hv
    simp [World.frozen?, hg]
set_option maxHeartbeats 4000000 in
set_option maxRecDepth 100000 in
theorem gate_leave (G i k : Nat) (gp : Option Addr) (mv : Value) (ml : List Int) (f : Nat → Int) (w : World) (hg : GateAt w G gp f) (hb : BoxV 214 gp mv w) (hm : MembersAt w mv ml) (hi : i < 64) (hk : k < ml.length) (hki : ml[k] = (i : Int)) (hnd : ∀ j (hj : j < k), ml[j] ≠ ml[k]) (hml : ml.length ≤ 64) :
    Calls Tryz.prog 65 #[.pointer (some ⟨G, 0, none⟩), .nilIface, .int .i64 i] w fun e w' => e = .returned (.int .i64 0) ∧ Kept (fun b => b = G) w w' ∧ ∃ K L c, w.heap.size ≤ K ∧ w.heap.size ≤ L ∧ GateAt w' G (some ⟨K, 0, none⟩) f ∧
      Blk w' K 214 #[.slice (some ⟨L, 0, none⟩) (ml.length - 1) c, .int .i64 0] ∧ ml.length - 1 ≤ c ∧ c ≤ maxLen ∧ ∀ j (h : j < (ml.eraseIdx k).length), w'.cell? ⟨L, j, none⟩ = some (.int .i64 (ml.eraseIdx k)[j]) := by
  have HG := Lib.hid hg
  have HM0 := Lib.hid (And.intro hb hm)
  have HI := Lib.hid (And.intro hki hnd)
  clear hg hb hm hki hnd
  go_enter Tryz.func65, Tryz.ntmps65
  go_wp2_with (go_at_call 78; refine (refused_no _ i _ hi).mono ?_; rintro e w' ⟨rfl, rfl⟩)
  go_loopw [8] (fun _ wr => wr = w) (fun _ _ => 0)
  case atStart => rfl
  case round =>
    subst hrel
    go_wp2_with fail
    refine (box_load_mb ⟨G, 0, none⟩ gp _ HG.out.hd HM0.out.1.held).mono ?_
    rintro e w5 ⟨rfl, k5⟩
    have H5 := Lib.hid k5
    have k5z := Lib.hid k5.size
    clear k5
    go_wp2_with fail
    have ha : Kept (fun _ => False) w5 (w5.alloc (.cells #[.pointer gp, .pointer (some ⟨G, 0, none⟩)] 196)) := Kept.alloc _ _
    have hb14 := Blk.new w5 196 #[.pointer gp, .pointer (some ⟨G, 0, none⟩)]
    generalize w5.alloc (.cells #[.pointer gp, .pointer (some ⟨G, 0, none⟩)] 196) = w6 at *
    obtain ⟨b14, hb⟩ : ∃ x, w5.heap.size = x := ⟨_, rfl⟩
    rw [hb] at hb14 ⊢
    have H6 := Lib.hid (And.intro (H5.out.trans ha) (And.intro hb14 (And.intro hb H5.out.size)))
    clear ha hb14 hb H5
    refine (held_value_mb (some ⟨G, 0, none⟩) gp mv _ (HM0.out.1.kept H6.out.1)).mono ?_
    rintro e w7 ⟨rfl, k7⟩
    have H7 := Lib.hid (H6.out.1.trans k7)
    have H67 := Lib.hid k7
    clear k7
    go_wp2_with fail
    have hix := index_at mv ml k w7 (HM0.out.2.kept H7.out) hk HI.out.2
    rw [HI.out.1] at hix
    refine hix.mono ?_
    clear hix
    rintro e w8 ⟨rfl, rfl⟩
    have hk0 : (0 : Int) ≤ k := by omega
    have hk1 : (k : Int) < 64 := by omega
    go_wp2_with fail
    rename_i K0 hK0
    have hGlt := HG.out.lt
    have HB8 := Lib.hid (H6.out.2.1.kept H67.out id)
    have hne : b14 ≠ G := by have := H6.out.2.2; have := k5z.out; omega
    refine strictL ?_
    refine wp_region_held (S := Kept (fun b => b = G) w7) (by kernel_rfl) ?_
    simp only [List.size_toArray, List.length_cons, List.length_nil, Nat.reduceAdd]
    have HW1 : Hid (Kept (fun b => b = G) w7 { w7 with drawn := w7.drawn + 1 }) := Lib.hid (Kept.drew w7)
    iterate 9
      first
      | refine rdL 0 12 27 ?_
      | refine rdL 1 11 28 ?_
      | refine rdL 2 10 29 ?_
      | refine rdL 3 9 30 ?_
      | refine rdL 4 8 31 ?_
      | refine rdL 5 7 32 ?_
      | refine rdL 8 6 35 ?_
      | refine rdL 9 5 36 ?_
      | refine rdL 10 4 37 ?_
      refine ⟨_, rfl, rfl, by kernel_rfl, by kernel_rfl, by kernel_rfl, (fun c a w h => by cases h.1), rfl, HW1.out, ?_⟩
      apply Exists.intro
      refine ⟨fun wq hw => ?_, ?_⟩
      · have hb := HB8.out.kept hw hne
        have c0 : wq.cell? ⟨b14, 0, none⟩ = some (.pointer gp) := hb.cell 0
        have c1 : wq.cell? ⟨b14, 1, none⟩ = some (.pointer (some ⟨G, 0, none⟩)) := hb.cell 1
        clear hb
        go_simp
        rfl
      simp only [Act.put, List.setIfInBounds_toArray, List.set_cons_zero, List.set_cons_succ]
    have hkd : Kept (fun _ => False) w7 { w7 with drawn := w7.drawn + 1 } := Kept.drew w7
    clear HW1
    generalize ({ w7 with drawn := w7.drawn + 1 } : World) = wd at hkd ⊢
    have HY0 := Lib.hid hkd
    clear hkd
    refine oneL (i := 6) (fuel := 3) (by kernel_rfl) rfl rfl fun K hK' => ?_
    unfold Oper.wp
    go_simp
    refine (held_value_mb (some ⟨G, 0, none⟩) gp mv _ (HM0.out.1.kept (H7.out.trans HY0.out))).mono ?_
    rintro e wa ⟨rfl, k6⟩
    dsimp only
    have HY1 := Lib.hid (HY0.out.trans k6)
    clear k6
    refine hK' _ _ (HY1.out.mono fun _ _ z => z.elim) ?_
    clear hK' K
    refine oneL (i := 7) (fuel := 2) (by kernel_rfl) rfl rfl fun K hK' => ?_
    unfold Oper.wp
    go_simp
    refine (clone_ok mv ml _ (HM0.out.2.kept (H7.out.trans HY1.out)) hml).mono ?_
    rintro e wb ⟨v7, rfl, k7, o7⟩
    obtain ⟨vA, vc, rfl⟩ := own_slice o7
    obtain ⟨L, rfl, l1, l2, l3, l4, l5, l6⟩ := own_posF o7 (by omega)
    dsimp only
    have HY2 := Lib.hid (HY1.out.trans k7)
    have HL := Lib.hid (And.intro l1 (And.intro l2 (And.intro l3 (And.intro l4 (And.intro (fun j (h : j < ml.length) => l5 j _ (by rw [List.getElem?_map, List.getElem?_eq_getElem h]; rfl)) l6)))))
    clear k7 o7 l1 l2 l3 l4 l5 l6
    refine hK' _ _ (HY2.out.mono fun _ _ z => z.elim) ?_
    clear hK' K
    refine oneL (i := 11) (fuel := 1) (by kernel_rfl) rfl rfl fun K hK' => ?_
    unfold Oper.wp
    go_simp
    rw [show IntKind.i64.wrap ((k : Int) + 1) = ((k + 1 : Nat) : Int) from by rw [IntKind.wrap_i64]; omega]
    refine (delete_at L vc k ml wb HL.out.2.2.2.2.1 (fun j _ => HL.out.2.2.2.2.2 j) HL.out.2.1 HL.out.2.2.1 hk).mono ?_
    rintro e wc ⟨rfl, k11, m11⟩
    dsimp only
    have hs1 := HY1.out.size
    have hs2 := HL.out.1
    have HY3 := Lib.hid (HY2.out.later k11 (fun b hb => by have hb : b = L := hb; omega))
    have HC := Lib.hid m11
    have hs3 := k11.size
    have hs4 := HL.out.2.2.2.1
    clear k11 m11
    refine hK' _ _ (HY3.out.mono fun _ _ z => z.elim) ?_
    clear hK' K
    refine oneL (i := 12) (fuel := 0) (by kernel_rfl) rfl rfl fun K hK' => ?_
    unfold Oper.wp
    go_simp
    have hGc := HG.out.kept (H7.out.trans HY3.out) id
    refine (box_cas_mb ⟨G, 0, none⟩ gp _ (ml.length - 1) vc (some ⟨L, 0, none⟩) wc hGc.hd (hGc.fz 0) (HM0.out.1.held.kept (H7.out.trans HY3.out)) rfl).mono ?_
    rintro e u2 ⟨rfl, kc, K1, hK1, bK1, u3, k3, hlt3, hu2⟩
    dsimp only
    have kc' : Kept (fun b => b = G) wc u2 := kc
    have HX := Lib.hid (And.intro kc' (And.intro bK1 (And.intro k3 (And.intro hu2 hGc))))
    have hs5 := HY3.out.size
    have hs6 := H7.out.size
    refine hK' _ _ ((HY3.out.mono fun _ _ z => z.elim).trans kc') ?_
    clear hK' K kc kc' bK1 k3 hu2 hGc
    refine wpAnyH_done (by kernel_rfl) ⟨rfl, ?_⟩ _
    refine hK0 _ _ ?_
    go_wp2
    go_ret
    obtain ⟨kc, bK1, k3, hu2, hGc⟩ := HX.out
    refine ⟨rfl, (((H7.out.trans HY3.out).mono fun _ _ z => z.elim).trans kc), K1, L, vc, by omega, by omega, ?_, bK1, ?_, HL.out.2.2.1, fun j hj => ?_⟩
    · rw [hu2]
      exact (hGc.kept k3 id).setHd _
    · have := HL.out.2.1; omega
    · exact cell_keep (HC.out j hj) kc (fun e => by have e : L = G := e; omega)
end Go.Proofs.YtbmjmamodnapiaaGreatDoor
