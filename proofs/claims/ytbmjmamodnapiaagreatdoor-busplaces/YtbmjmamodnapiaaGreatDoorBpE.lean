/- DERIVED. A subscription ended (package bus: End), lone; what an ended one answers. -/
import Derived.Test.YtbmjmamodnapiaaGreatDoorBpD
namespace Go.Proofs.YtbmjmamodnapiaaGreatDoor
open Go.RowKit
set_option linter.unusedVariables false
theorem TopicAt.next {w w' : World} {B n : Nat} {S : TSt} {Z : Nat → Prop} {gp : Option Addr} {ml : List Int} {num : Nat → Int} {x : Int} (h : TopicAt w B n S) (k : Kept Z w w') (hz : ∀ y, Z y → y = B + 5 ∨ y = B + 7 ∨ B + 8 < y) (b : Blk w' (B + 5) 151 #[.int .u64 x]) (g : GateAt w' (B + 7) gp num)
    (m : (gp = none ∧ ml = []) ∨ ∃ K L c, gp = some ⟨K, 0, none⟩ ∧ Blk w' K 214 #[.slice (some ⟨L, 0, none⟩) ml.length c, .int .i64 0] ∧ B + 8 < K ∧ B + 8 < L ∧ ml.length ≤ c ∧ c ≤ maxLen ∧ ∀ i (h : i < ml.length), w'.cell? ⟨L, i, none⟩ = some (.int .i64 ml[i])) : TopicAt w' B n { S with gp := gp, ml := ml, num := num, word := x } := by
  have z : ∀ y, y ≤ B + 8 → y ≠ B + 5 → y ≠ B + 7 → ¬ Z y := fun y h1 h2 h3 e => by rcases hz y e with h | h | h <;> omega
  exact ⟨h.ring.kept k (z _ (by omega) (by omega) (by omega)) (z _ (by omega) (by omega) (by omega)), h.cw.kept k (z _ (by omega) (by omega) (by omega)), h.sw.kept k (z _ (by omega) (by omega) (by omega)), h.mul.kept k (z _ (by omega) (by omega) (by omega)), b, h.pl.kept k (z _ (by omega) (by omega) (by omega)), g, h.top.kept k (z _ (by omega) (by omega) (by omega)), m⟩
/-- A subscription that has ended. -/
def EndAt (w : World) (u r : Nat) (kd a b : Int) (i : Nat) : Prop := Blk w u 112 #[.pointer none, .int .i64 kd, .int .i64 a, .int .i64 b, .int .i64 i, .pointer (some ⟨r, 0, none⟩), .pointer none]
theorem over_done (u r i : Nat) (kd a b : Int) (w : World) (h : EndAt w u r kd a b i) : Calls Tryz.prog 38 #[.pointer (some ⟨u, 0, none⟩)] w fun e w' => e = .returned (.bool true) ∧ w = w' := by
  have c0 : w.cell? ⟨u, 0, none⟩ = some (.pointer none) := Blk.cell h 0
  clear h
  go_enter Tryz.func38, Tryz.ntmps38
  go_wp2
  go_ret
  exact ⟨rfl, rfl⟩
theorem next_done (u r i : Nat) (kd a b : Int) (w : World) (h : EndAt w u r kd a b i) : Calls Tryz.prog 19 #[.pointer (some ⟨u, 0, none⟩)] w fun e w' => e = .returned (.int .i64 (-1)) ∧ w = w' := by
  have HH := Lib.hid h
  clear h
  go_enter Tryz.func19, Tryz.ntmps19
  go_wp2_with (go_at_call 38; refine (over_done u r i kd a b _ HH.out).mono ?_; rintro e w' ⟨rfl, rfl⟩)
  go_ret
  exact ⟨rfl, rfl⟩
theorem place_done (u r i : Nat) (kd a b : Int) (w : World) (h : EndAt w u r kd a b i) : Calls Tryz.prog 17 #[.pointer (some ⟨u, 0, none⟩)] w fun e w' => e = .returned (.int .i64 (-1)) ∧ w = w' := by
  have HH := Lib.hid h
  clear h
  go_enter Tryz.func17, Tryz.ntmps17
  go_wp2_with (go_at_call 38; refine (over_done u r i kd a b _ HH.out).mono ?_; rintro e w' ⟨rfl, rfl⟩)
  go_ret
  exact ⟨rfl, rfl⟩
theorem end_done (u r i : Nat) (kd a b : Int) (w : World) (h : EndAt w u r kd a b i) : Calls Tryz.prog 18 #[.pointer (some ⟨u, 0, none⟩), .nilIface] w fun e w' => e = .returned (.int .i64 6) ∧ w = w' := by
  have HH := Lib.hid h
  clear h
  go_enter Tryz.func18, Tryz.ntmps18
  go_wp2_with (go_at_call 38; refine (over_done u r i kd a b _ HH.out).mono ?_; rintro e w' ⟨rfl, rfl⟩)
  go_ret
  exact ⟨rfl, rfl⟩
set_option maxHeartbeats 4000000 in
set_option maxRecDepth 100000 in
theorem sub_end (u r B n i k : Nat) (S : TSt) (kd a b q word' : Int) (w : World) (hu : SubAt w u (B + 8) r kd a b i) (hr : RdAt w r (B + 4) (B + 7) i true q) (hT : TopicAt w B n S) (hi : i < 64) (hk : k < S.ml.length) (hki : S.ml[k] = (i : Int)) (hnd : ∀ j (hj : j < k), S.ml[j] ≠ S.ml[k]) (hml : S.ml.length ≤ 64) (hF : DropF S.word i word') (hu8 : B + 8 < u) (hr8 : B + 8 < r) (hur : u ≠ r) :
    Calls Tryz.prog 18 #[.pointer (some ⟨u, 0, none⟩), .nilIface] w fun e w' => e = .returned (.int .i64 0) ∧ Kept (fun y => y = B + 5 ∨ y = B + 7 ∨ y = r ∨ y = u) w w' ∧ EndAt w' u r kd a b i ∧
      ∃ K, TopicAt w' B n { S with gp := some ⟨K, 0, none⟩, ml := S.ml.eraseIdx k, word := word' } := by
  have HU := Lib.hid hu
  have HR := Lib.hid hr
  have HT := Lib.hid hT
  have HI := Lib.hid (And.intro hki (And.intro hnd hF))
  have hult := Blk.lt hu
  have hrlt := Blk.lt hr
  have c5 : w.cell? ⟨u, 5, none⟩ = some (.pointer (some ⟨r, 0, none⟩)) := Blk.cell hu 5
  obtain ⟨mv, g1, g2, g3, g4⟩ := hT.gates hml
  have HM := Lib.hid (And.intro g1 g2)
  clear hu hr hT hki hnd hF g1 g2 g3 g4
  go_enter Tryz.func18, Tryz.ntmps18
  go_wp2_with (first | (go_at_call 38; refine (sub_over u _ r i kd a b _ HU.out).mono ?_; rintro e w' ⟨rfl, rfl⟩))
  refine (reader_leave r (B + 4) (B + 7) i k q S.gp mv S.ml S.num w HR.out HT.out.gate HM.out.1 HM.out.2 hi hk HI.out.1 HI.out.2.1 hml (by omega)).mono ?_
  rintro e w1 ⟨rfl, k1, J⟩
  have HUk := Lib.hid (Blk.kept HU.out k1 (by omega))
  have hT1 : Blk w1 (B + 8) 93 _ := HT.out.top.kept k1 (by omega)
  have hP1 := HT.out.pl.kept k1 (by omega)
  have hW1 := HT.out.pw.kept k1 (by omega)
  have HX := Lib.hid (And.intro hT1 (And.intro hP1 hW1))
  have H1 := Lib.hid (And.intro k1 J)
  clear k1 J hT1 hP1 hW1 c5
  go_wp2_with fail
  rename_i K0 hK0
  refine strictL ?_
  refine wp_region_held (S := Kept (fun x => x = B + 5) w1) (by kernel_rfl) ?_
  simp only [List.size_toArray, List.length_cons, List.length_nil, Nat.reduceAdd]
  have HW1 : Hid (Kept (fun x => x = B + 5) w1 { w1 with drawn := w1.drawn + 1 }) := Lib.hid (Kept.drew w1)
  iterate 12
    first
    | refine rdL 0 12 18 ?_
    | refine rdL 1 11 19 ?_
    | refine rdL 2 10 20 ?_
    | refine rdL 3 9 21 ?_
    | refine rdL 4 8 22 ?_
    | refine rdL 5 7 23 ?_
    | refine rdL 6 6 24 ?_
    | refine rdL 7 5 25 ?_
    | refine rdL 8 4 26 ?_
    | refine rdL 9 3 27 ?_
    | refine rdL 10 2 28 ?_
    | refine rdL 11 1 29 ?_
    refine ⟨_, rfl, rfl, by kernel_rfl, by kernel_rfl, by kernel_rfl, (fun c a w h => by cases h.1), rfl, HW1.out, ?_⟩
    apply Exists.intro
    refine ⟨fun wq hw => ?_, ?_⟩
    · have hb := Blk.kept HUk.out hw (by omega)
      have ht := HX.out.1.kept hw (by omega)
      have c0 : wq.cell? ⟨u, 0, none⟩ = some (.pointer (some ⟨B + 8, 0, none⟩)) := hb.cell 0
      have c4 : wq.cell? ⟨u, 4, none⟩ = some (.int .i64 i) := hb.cell 4
      have t3 : wq.cell? ⟨B + 8, 3, none⟩ = some (.pointer (some ⟨B + 6, 0, none⟩)) := ht.cell 3
      clear hb ht
      go_simp
      rfl
    simp only [Act.put, List.setIfInBounds_toArray, List.set_cons_zero, List.set_cons_succ]
  have hkd : Kept (fun _ => False) w1 { w1 with drawn := w1.drawn + 1 } := Kept.drew w1
  clear HW1
  generalize ({ w1 with drawn := w1.drawn + 1 } : World) = wd at hkd ⊢
  have HY0 := Lib.hid hkd
  clear hkd
  refine oneL (i := 12) (fuel := 0) (by kernel_rfl) rfl rfl fun K hK' => ?_
  unfold Oper.wp
  go_simp
  refine (drop_ok (B + 6) (B + 5) i S.word word' wd (HX.out.2.1.kept HY0.out id) (HX.out.2.2.kept HY0.out id) (by omega) HI.out.2.2).mono ?_
  rintro e w2 ⟨rfl, k2, b2⟩
  dsimp only
  have H2 := Lib.hid (And.intro ((HY0.out.mono fun _ _ z => z.elim).trans k2) b2)
  clear k2 b2
  refine hK' _ _ H2.out.1 ?_
  clear hK' K
  refine wpAnyH_done (by kernel_rfl) ⟨rfl, ?_⟩ _
  refine hK0 _ _ ?_
  clear hK0 K0
  have hb := Blk.kept HUk.out H2.out.1 (by omega)
  have c0 : w2.cell? ⟨u, 0, none⟩ = some (.pointer (some ⟨B + 8, 0, none⟩)) := hb.cell 0
  have z0 : w2.frozen? ⟨u, 0, none⟩ = false := hb.frozen 0
  have HB := Lib.hid hb
  clear hb
  go_wp2
  go_ret
  obtain ⟨k1, K, L, c, q1, q2, q3, q4, q5, q6, q7⟩ := H1.out
  have ks : Kept (fun y => y = u) w2 (w2.setCell ⟨u, 0, none⟩ (.pointer none)) := Kept.setCell (S := fun y => y = u) w2 (p := ⟨u, 0, none⟩) rfl _
  have k2 := H2.out.1
  have k012 : Kept (fun y => y = B + 5 ∨ y = B + 7 ∨ y = r ∨ y = u) w (w2.setCell ⟨u, 0, none⟩ (.pointer none)) := ((k1.mono fun _ _ z => by rcases z with z | z <;> simp [z]).trans (k2.mono fun _ _ z => .inl z)).trans (ks.mono fun _ _ z => .inr (.inr (.inr z)))
  have htop := HT.out.top.lt
  refine ⟨rfl, k012, HB.out.set_ 0 _, K, HT.out.next k012 (fun y hy => by omega) (H2.out.2.kept ks (by omega)) ((q3.kept k2 (by omega)).kept ks (by omega)) (.inr ⟨K, L, c, rfl, ?_, by omega, by omega, ?_, q6, fun j hj => cell_keep (cell_keep (q7 j hj) k2 (by show ¬ L = B + 5; omega)) ks (by show ¬ L = u; omega)⟩)⟩
  · rw [List.length_eraseIdx_of_lt hk]
    exact (q4.kept k2 (by omega)).kept ks (by omega)
  · rw [List.length_eraseIdx_of_lt hk]; exact q5
end Go.Proofs.YtbmjmamodnapiaaGreatDoor
