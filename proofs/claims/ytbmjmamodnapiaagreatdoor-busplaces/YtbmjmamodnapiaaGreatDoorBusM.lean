/- DERIVED. Values offered (package multi: Offer; bus: Publish), lone. -/
import Derived.Test.YtbmjmamodnapiaaGreatDoorBusL
namespace Go.Proofs.YtbmjmamodnapiaaGreatDoor
open Go.RowKit
set_option linter.unusedVariables false
/-- The stamps when j values have been written from q on. -/
def wrS (st : Nat → Int) (n : Nat) (q : Int) : Nat → Nat → Int
  | 0 => st
  | j + 1 => upd (wrS st n q j) ((q + j) % n).toNat (2 * ((q + j) / n))
/-- The values. -/
def wrV (va : Nat → Int) (n : Nat) (q : Int) (xs : List Int) : Nat → Nat → Int
  | 0 => va
  | j + 1 => upd (wrV va n q xs j) ((q + j) % n).toNat (xs.getD j 0)
theorem MulAt.turned {w w' : World} {M R Rs C Sn n : Nat} {st va st' va' : Nat → Int} {cur seen : Int} {Z : Nat → Prop} (h : MulAt w M R Rs C Sn n st va cur seen) (r : RingAt w' R Rs n st' va') (k : Kept Z w w') (h1 : ¬ Z M) (h2 : ¬ Z C) (h3 : ¬ Z Sn) : MulAt w' M R Rs C Sn n st' va' cur seen := ⟨h.mul.kept k h1, r, h.cw.kept k h2, h.sw.kept k h3⟩
set_option maxHeartbeats 1000000 in
theorem multi_offer {w : World} {M R Rs C Sn n : Nat} {st va : Nat → Int} {cur seen : Int} (H : Value) (V c : Nat) (xs : List Int) (h : MulAt w M R Rs C Sn n st va cur seen) (hv : ∀ i, i < xs.length → w.cell? ⟨V, i, none⟩ = some (.int .i64 (xs.getD i 0))) (hc : xs.length ≤ c) (hcm : c ≤ maxLen)
    (h0 : -1 ≤ cur) (h1 : cur + xs.length < 4611686018427387904) (hk : 1 ≤ xs.length) (hkn : xs.length ≤ n) (hs1 : cur + xs.length - n ≤ seen) (hs : cur + xs.length - n < 0) (d1 : M ≠ Rs) (d2 : C ≠ Rs) (d3 : Sn ≠ Rs) (d4 : V ≠ Rs) (d5 : V ≠ C) (d6 : M ≠ C) (d7 : Sn ≠ C) (d8 : R ≠ C) (d9 : Rs ≠ C) :
    Calls Tryz.prog 43 #[.pointer (some ⟨M, 0, none⟩), .nilIface, H, .slice (some ⟨V, 0, none⟩) xs.length c] w fun e w' => e = .returned (.tuple #[.int .i64 (cur + xs.length), .int .i64 0]) ∧ MulAt w' M R Rs C Sn n (wrS st n (cur + 1) xs.length) (wrV va n (cur + 1) xs xs.length) (cur + xs.length) seen ∧ Kept (fun b => b = C ∨ b = Rs) w w' ∧ w'.heap.size = w.heap.size := by
  have hn := h.ring.pos
  have h2 := h.ring.most
  have HH := Lib.hid h
  have HV := Lib.hid hv
  have HD := Lib.hid (And.intro d1 (And.intro d2 (And.intro d3 (And.intro d4 (And.intro d5 (And.intro d6 (And.intro d7 (And.intro d8 d9))))))))
  clear h hv d1 d2 d3 d4 d5 d6 d7 d8 d9
  unfold maxLen at hcm
  obtain ⟨k, hxk⟩ : ∃ k, k = xs.length := ⟨_, rfl⟩
  rw [← hxk] at h1 hk hkn hs1 hs hc ⊢
  have HX := Lib.hid hxk
  clear hxk
  go_enter Tryz.func43, Tryz.ntmps43
  go_wp2_with fail
  refine (multi_claim H (k : Int) HH.out h0 h1 (by omega) (by omega) hs1 hs).mono ?_
  rintro e w1 ⟨rfl, hw1⟩
  have k1 : Kept (fun b => b = C) w w1 := hw1 ▸ Kept.setCell (S := fun b => b = C) w (p := ⟨C, 0, none⟩) rfl _
  have s1 : w1.heap.size = w.heap.size := by rw [← hw1]; simp [World.setCell]
  have m1 : MulAt w1 M R Rs C Sn n st va (cur + k) seen := ⟨HH.out.mul.kept k1 HD.out.2.2.2.2.2.1, HH.out.ring.kept k1 HD.out.2.2.2.2.2.2.2.1 HD.out.2.2.2.2.2.2.2.2, hw1 ▸ HH.out.cw.set_ 0 _, HH.out.sw.kept k1 HD.out.2.2.2.2.2.2.1⟩
  have H1 := Lib.hid (And.intro k1 (And.intro s1 m1))
  clear k1 s1 m1 hw1
  go_wp2_with fail
  go_loopw [30] (fun q wr => ∃ j : Nat, j ≤ k ∧ q = .int .i64 j ∧ Hid (MulAt wr M R Rs C Sn n (wrS st n (cur + 1) j) (wrV va n (cur + 1) xs j) (cur + k) seen ∧ Kept (fun b => b = Rs) w1 wr ∧ wr.heap.size = w1.heap.size)) (fun q _ => k - (intOf q).toNat)
  case atStart => exact ⟨0, by omega, rfl, Lib.hid ⟨H1.out.2.2, Kept.refl _ _, rfl⟩⟩
  case round =>
    obtain ⟨j, hj, rfl, HR⟩ := hrel
    by_cases hlt : j < k
    · have c1 : wr.cell? ⟨V, j, none⟩ = some (.int .i64 (xs.getD j 0)) := cell_keep (cell_keep (HV.out j (HX.out ▸ hlt)) H1.out.1 (show ¬ V = C from HD.out.2.2.2.2.1)) HR.out.2.1 (show ¬ V = Rs from HD.out.2.2.2.1)
      have HG := Lib.hid (show wrV va n (cur + 1) xs (j + 1) = upd (wrV va n (cur + 1) xs j) ((cur + 1 + j) % n).toNat (xs.getD j 0) from rfl)
      generalize xs.getD j 0 = x at c1 HG
      go_wp2_with fail
      have hw := multi_write (cur + 1 + j) x HR.out.1 (by omega) (by omega)
      refine hw.mono ?_
      clear hw
      rintro e w2 ⟨rfl, r2, k2, s2⟩
      have H2 := Lib.hid (And.intro (HR.out.1.turned r2 k2 HD.out.1 HD.out.2.1 HD.out.2.2.1) (And.intro (HR.out.2.1.trans k2) (s2.trans HR.out.2.2)))
      clear r2 k2 s2
      go_wp2_with fail
      go_roundw
      case rel =>
        refine ⟨j + 1, by omega, by go_num, Lib.hid ⟨?_, H2.out.2⟩⟩
        rw [HG.out]
        exact H2.out.1
      case measure => simp [intOf]; omega
    · have hjk : j = k := by omega
      subst hjk
      go_wp2
      go_ret2
      refine ⟨rfl, ?_, (H1.out.1.mono fun _ _ z => .inl z).trans (HR.out.2.1.mono fun _ _ z => .inr z), HR.out.2.2.trans H1.out.2.1⟩
      exact HR.out.1
set_option maxHeartbeats 4000000 in
set_option maxRecDepth 100000 in
theorem bus_publish (b B n V c : Nat) (ls : List (Int × Nat)) (S : TSt) (name : Int) (xs : List Int) (w : World) (hB : BusIn w b ls (B + 9)) (hl : lookT ls name = some ⟨B + 8, 0, none⟩) (hT : TopicAt w B n S) (hcl : S.closed = false)
    (hv : ∀ i, i < xs.length → w.cell? ⟨V, i, none⟩ = some (.int .i64 (xs.getD i 0))) (hc : xs.length ≤ c) (hcm : c ≤ maxLen) (h0 : -1 ≤ S.cur) (h1 : S.cur + xs.length < 4611686018427387904) (hk : 1 ≤ xs.length) (hkn : xs.length ≤ n) (hs1 : S.cur + xs.length - n ≤ S.seen) (hs : S.cur + xs.length - n < 0) (d4 : V ≠ B) (d5 : V ≠ B + 2) :
    Calls Tryz.prog 20 #[.pointer (some ⟨b, 0, none⟩), .nilIface, .int .i64 name, .slice (some ⟨V, 0, none⟩) xs.length c] w fun e w' => e = .returned (.tuple #[.int .i64 (S.cur + xs.length), .int .i64 0]) ∧ Kept (fun x => x = B + 2 ∨ x = B) w w' ∧
      TopicAt w' B n { S with st := wrS S.st n (S.cur + 1) xs.length, va := wrV S.va n (S.cur + 1) xs xs.length, cur := S.cur + xs.length } := by
  have HB := Lib.hid hB
  have HT := Lib.hid hT
  have HV := Lib.hid hv
  have Hl := Lib.hid (And.intro hl hcl)
  have HH := Lib.hid (And.intro h0 (And.intro h1 (And.intro hk (And.intro hkn (And.intro hs1 hs)))))
  clear hB hT hl hcl hv h0 h1 hkn hs1 hs
  unfold maxLen at hcm
  go_enter Tryz.func20, Tryz.ntmps20
  go_wp2_with fail
  refine (find_ok b ls name w HB.out.at_).mono ?_
  rintro e w1 ⟨rfl, k1⟩
  rw [Hl.out.1]
  have H1 := Lib.hid k1
  clear k1
  have hT1 := HT.out.kept (Z := fun _ => False) H1.out (fun _ z => z.elim)
  have t4 : w1.cell? ⟨B + 8, 4, none⟩ = some (.int .u32 (if S.closed then 1 else 0)) := hT1.top.cell 4
  rw [Hl.out.2] at t4
  have HT1 := Lib.hid hT1
  have T4 := Lib.hid t4
  clear hT1 t4
  go_wp2_with (go_at_call 34; refine (flag_load _ false _ T4.out).mono ?_; rintro e w' ⟨rfl, rfl⟩)
  rename_i K0 hK0
  refine strictL ?_
  refine wp_region_held (S := Kept (fun x => x = B + 2 ∨ x = B) w1) (by kernel_rfl) ?_
  simp only [List.size_toArray, List.length_cons, List.length_nil, Nat.reduceAdd]
  have HW1 : Hid (Kept (fun x => x = B + 2 ∨ x = B) w1 { w1 with drawn := w1.drawn + 1 }) := Lib.hid (Kept.drew w1)
  iterate 11
    first
    | refine rdL 0 15 29 ?_
    | refine rdL 1 14 30 ?_
    | refine rdL 2 13 31 ?_
    | refine rdL 3 12 32 ?_
    | refine rdL 4 11 33 ?_
    | refine rdL 5 10 34 ?_
    | refine rdL 6 9 35 ?_
    | refine rdL 7 8 36 ?_
    | refine rdL 8 7 37 ?_
    | refine rdL 9 6 38 ?_
    | refine rdL 10 5 39 ?_
    refine ⟨_, rfl, rfl, by kernel_rfl, by kernel_rfl, by kernel_rfl, (fun c a w h => by cases h.1), rfl, HW1.out, ?_⟩
    apply Exists.intro
    refine ⟨fun wq hw => ?_, ?_⟩
    · have hb := HT1.out.top.kept hw (by omega)
      have c1 : wq.cell? ⟨B + 8, 1, none⟩ = some (.pointer (some ⟨B + 4, 0, none⟩)) := hb.cell 1
      have c2 : wq.cell? ⟨B + 8, 2, none⟩ = some (.pointer (some ⟨B + 7, 0, none⟩)) := hb.cell 2
      clear hb
      go_simp
      rfl
    simp only [Act.put, List.setIfInBounds_toArray, List.set_cons_zero, List.set_cons_succ]
  have hkd : Kept (fun _ => False) w1 { w1 with drawn := w1.drawn + 1 } := Kept.drew w1
  clear HW1
  generalize ({ w1 with drawn := w1.drawn + 1 } : World) = wd at hkd ⊢
  have HY := Lib.hid hkd
  clear hkd
  refine oneL (i := 11) (fuel := 4) (by kernel_rfl) rfl rfl fun K hK' => ?_
  unfold Oper.wp
  go_simp
  refine (multi_offer _ V c xs (HT1.out.kept (Z := fun _ => False) HY.out (fun _ z => z.elim)).mulAt (fun i hi => cell_keep (cell_keep (HV.out i hi) H1.out id) HY.out id) hc hcm HH.out.1 HH.out.2.1 HH.out.2.2.1 HH.out.2.2.2.1 HH.out.2.2.2.2.1 HH.out.2.2.2.2.2 (by omega) (by omega) (by omega) d4 d5 (by omega) (by omega) (by omega) (by omega)).mono ?_
  rintro e w2 ⟨rfl, m2, k2, s2⟩
  dsimp only
  have H2 := Lib.hid (And.intro m2 (HY.out.mono (fun _ _ z => z.elim) |>.trans k2))
  clear m2 k2 s2
  refine hK' _ _ H2.out.2 ?_
  clear hK' K
  iterate 2
    first
    | refine rdL 12 3 41 ?_
    | refine rdL 13 2 42 ?_
    refine ⟨_, rfl, rfl, by kernel_rfl, by kernel_rfl, by kernel_rfl, (fun c a w h => by cases h.1), rfl, H2.out.2, ?_⟩
    apply Exists.intro
    refine ⟨fun wq hw => ?_, ?_⟩
    · go_simp
      rfl
    simp only [Act.put, List.setIfInBounds_toArray, List.set_cons_zero, List.set_cons_succ]
  refine oneL (i := 14) (fuel := 1) (by kernel_rfl) rfl rfl fun K hK' => ?_
  unfold Oper.wp
  go_simp
  refine hK' _ _ H2.out.2 ?_
  clear hK' K
  refine oneL (i := 15) (fuel := 0) (by kernel_rfl) rfl rfl fun K hK' => ?_
  unfold Oper.wp
  go_simp
  refine hK' _ _ H2.out.2 ?_
  clear hK' K
  refine wpAnyH_done (by kernel_rfl) ⟨rfl, ?_⟩ _
  refine hK0 _ _ ?_
  clear hK0 K0
  go_wp2
  go_ret2
  obtain ⟨m2, k2⟩ := H2.out
  refine ⟨rfl, (H1.out.mono fun _ _ z => z.elim).trans k2, m2.ring, m2.cw, m2.sw, m2.mul, HT1.out.pw.kept k2 (by omega), HT1.out.pl.kept k2 (by omega), HT1.out.gate.kept k2 (by omega), HT1.out.top.kept k2 (by omega), ?_⟩
  rcases HT1.out.mem with hm | ⟨K, L, c', h1, h2, h3, h4, h5, h6, h7⟩
  · exact .inl hm
  · exact .inr ⟨K, L, c', h1, h2.kept k2 (by omega), h3, h4, h5, h6, fun i hi => cell_keep (h7 i hi) k2 (by show ¬ (L = B + 2 ∨ L = B); omega)⟩
end Go.Proofs.YtbmjmamodnapiaaGreatDoor
