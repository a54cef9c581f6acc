/- DERIVED. A subscription ended (packages reader: Leave; bus: End), lone. -/
import Derived.Test.YtbmjmamodnapiaaGreatDoorBusJ
import Derived.Test.YtbmjmamodnapiaaGreatDoorBpA
import Derived.Test.YtbmjmamodnapiaaGreatDoorBpC
namespace Go.Proofs.YtbmjmamodnapiaaGreatDoor
open Go.RowKit
set_option linter.unusedVariables false
theorem rd_joined (r M G i : Nat) (j : Bool) (q : Int) (w : World) (h : RdAt w r M G i j q) : Calls Tryz.prog 64 #[.pointer (some ⟨r, 0, none⟩)] w fun e w' => e = .returned (.bool j) ∧ w = w' := by
  have c3 : w.cell? ⟨r, 3, none⟩ = some (.bool j) := Blk.cell h 3
  clear h
  go_enter Tryz.func64, Tryz.ntmps64
  go_wp2
  go_ret
  exact ⟨rfl, rfl⟩
set_option maxHeartbeats 4000000 in
set_option maxRecDepth 100000 in
theorem reader_leave (r M G i k : Nat) (q : Int) (gp : Option Addr) (mv : Value) (ml : List Int) (f : Nat → Int) (w : World) (hr : RdAt w r M G i true q) (hg : GateAt w G gp f) (hb : BoxV 214 gp mv w) (hm : MembersAt w mv ml) (hi : i < 64) (hk : k < ml.length) (hki : ml[k] = (i : Int)) (hnd : ∀ j (hj : j < k), ml[j] ≠ ml[k]) (hml : ml.length ≤ 64) (hrG : r ≠ G) :
    Calls Tryz.prog 39 #[.pointer (some ⟨r, 0, none⟩), .nilIface] w fun e w' => e = .returned (.int .i64 0) ∧ Kept (fun b => b = G ∨ b = r) w w' ∧ ∃ K L c, w.heap.size ≤ K ∧ w.heap.size ≤ L ∧ GateAt w' G (some ⟨K, 0, none⟩) f ∧
      Blk w' K 214 #[.slice (some ⟨L, 0, none⟩) (ml.length - 1) c, .int .i64 0] ∧ ml.length - 1 ≤ c ∧ c ≤ maxLen ∧ ∀ j (h : j < (ml.eraseIdx k).length), w'.cell? ⟨L, j, none⟩ = some (.int .i64 (ml.eraseIdx k)[j]) := by
  have HH := Lib.hid hr
  have HG := Lib.hid (And.intro hg (And.intro hb hm))
  have HI := Lib.hid (And.intro hki hnd)
  have hrlt := Blk.lt hr
  clear hr hg hb hm hki hnd
  go_enter Tryz.func39, Tryz.ntmps39
  go_wp2_with (go_at_call 64; refine (rd_joined r M G i true q _ HH.out).mono ?_; rintro e w' ⟨rfl, rfl⟩)
  rename_i K0 hK0
  refine strictL ?_
  refine wp_region_held (S := Kept (fun b => b = G) w) (by kernel_rfl) ?_
  simp only [List.size_toArray, List.length_cons, List.length_nil, Nat.reduceAdd]
  have HW1 : Hid (Kept (fun b => b = G) w { w with drawn := w.drawn + 1 }) := Lib.hid (Kept.drew w)
  iterate 9
    first
    | refine rdL 0 10 9 ?_
    | refine rdL 1 9 10 ?_
    | refine rdL 2 8 11 ?_
    | refine rdL 3 7 12 ?_
    | refine rdL 4 6 13 ?_
    | refine rdL 5 5 14 ?_
    | refine rdL 6 4 15 ?_
    | refine rdL 7 3 16 ?_
    | refine rdL 8 2 17 ?_
    refine ⟨_, rfl, rfl, by kernel_rfl, by kernel_rfl, by kernel_rfl, (fun c a w h => by cases h.1), rfl, HW1.out, ?_⟩
    apply Exists.intro
    refine ⟨fun wq hw => ?_, ?_⟩
    · have hb := Blk.kept HH.out hw hrG
      have c1 : wq.cell? ⟨r, 1, none⟩ = some (.pointer (some ⟨G, 0, none⟩)) := hb.cell 1
      have c2 : wq.cell? ⟨r, 2, none⟩ = some (.int .i64 i) := hb.cell 2
      clear hb
      go_simp
      rfl
    simp only [Act.put, List.setIfInBounds_toArray, List.set_cons_zero, List.set_cons_succ]
  have hkd : Kept (fun _ => False) w { w with drawn := w.drawn + 1 } := Kept.drew w
  clear HW1
  generalize ({ w with drawn := w.drawn + 1 } : World) = wd at hkd ⊢
  have HY0 := Lib.hid hkd
  clear hkd
  refine oneL (i := 9) (fuel := 1) (by kernel_rfl) rfl rfl fun K hK' => ?_
  unfold Oper.wp
  go_simp
  refine (gate_leave G i k gp mv ml f wd (HG.out.1.kept HY0.out id) (HG.out.2.1.kept HY0.out) (HG.out.2.2.kept HY0.out) hi hk HI.out.1 HI.out.2 hml).mono ?_
  rintro e w1 ⟨rfl, k1, J⟩
  dsimp only
  have H1 := Lib.hid (And.intro k1 J)
  have H1k := Lib.hid ((HY0.out.mono fun _ _ z => z.elim).trans k1)
  clear k1 J
  refine hK' _ _ H1k.out ?_
  clear hK' K
  refine oneL (i := 10) (fuel := 0) (by kernel_rfl) rfl rfl fun K hK' => ?_
  unfold Oper.wp
  go_simp
  refine hK' _ _ H1k.out ?_
  clear hK' K
  refine wpAnyH_done (by kernel_rfl) ⟨rfl, ?_⟩ _
  refine hK0 _ _ ?_
  clear hK0 K0
  have hb := Blk.kept HH.out H1k.out hrG
  have c3 : w1.cell? ⟨r, 3, none⟩ = some (.bool true) := hb.cell 3
  have c4 : w1.cell? ⟨r, 4, none⟩ = some (.int .i64 q) := hb.cell 4
  have z3 : w1.frozen? ⟨r, 3, none⟩ = false := hb.frozen 3
  have z4 : w1.frozen? ⟨r, 4, none⟩ = false := hb.frozen 4
  clear hb
  go_wp2
  go_ret
  obtain ⟨k1, K, L, c, q1, q2, q3, q4, q5, q6, q7⟩ := H1.out
  have hs0 := HY0.out.size
  have ks : Kept (fun b => b = r) w1 ((w1.setCell ⟨r, 3, none⟩ (.bool false)).setCell ⟨r, 4, none⟩ (.int .i64 0)) := (Kept.setCell (S := fun b => b = r) w1 (p := ⟨r, 3, none⟩) rfl _).trans (Kept.setCell (S := fun b => b = r) _ (p := ⟨r, 4, none⟩) rfl _)
  refine ⟨rfl, (H1k.out.mono fun _ _ z => .inl z).trans (ks.mono fun _ _ z => .inr z), K, L, c, by omega, by omega, q3.kept ks (fun e => hrG e.symm), q4.kept ks (by omega), q5, q6, fun j hj => cell_keep (q7 j hj) ks (by show ¬ L = r; omega)⟩
end Go.Proofs.YtbmjmamodnapiaaGreatDoor
