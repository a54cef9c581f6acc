/- DERIVED. What is refused while readers hold the writers back (packages multi: Claim, Offer; bus: Publish), lone. -/
import Derived.Test.YtbmjmamodnapiaaGreatDoorBusM
import Derived.Test.YtbmjmamodnapiaaGreatDoorBpF
namespace Go.Proofs.YtbmjmamodnapiaaGreatDoor
open Go.RowKit
set_option linter.unusedVariables false
section
variable {w : World} {M R Rs C Sn n : Nat} {st va : Nat → Int} {cur seen : Int}
theorem MulAt.kept' {Z : Nat → Prop} {w w' : World} {M R Rs C Sn n : Nat} {st va : Nat → Int} {cur seen : Int} (h : MulAt w M R Rs C Sn n st va cur seen) (k : Kept Z w w') (z1 : ¬ Z M) (z2 : ¬ Z R) (z3 : ¬ Z Rs) (z4 : ¬ Z C) (z5 : ¬ Z Sn) : MulAt w' M R Rs C Sn n st va cur seen := ⟨h.mul.kept k z1, h.ring.kept k z2 z3, h.cw.kept k z4, h.sw.kept k z5⟩
/-- What holds the writers back: members, all of them at x. -/
structure HoldAt (w : World) (G : Nat) (x : Int) (gp : Option Addr) (mv : Value) (ml : List Int) (f : Nat → Int) : Prop where
  gate : GateAt w G gp f
  box : BoxV 214 gp mv w
  mem : MembersAt w mv ml
  most : ml.length ≤ 64
  some : 0 < ml.length
  all : ∀ j (h : j < ml.length), ∃ i : Nat, i < 64 ∧ ml[j] = (i : Int) ∧ f i = x
theorem HoldAt.kept {w w' : World} {G : Nat} {x : Int} {gp : Option Addr} {mv : Value} {ml : List Int} {f : Nat → Int} (h : HoldAt w G x gp mv ml f) (k : Kept (fun _ => False) w w') : HoldAt w' G x gp mv ml f := ⟨h.gate.kept k id, h.box.kept k, h.mem.kept k, h.most, h.some, h.all⟩
set_option maxHeartbeats 4000000 in
set_option maxRecDepth 100000 in
theorem free_full (G : Nat) (x k : Int) (gp : Option Addr) (mv : Value) (ml : List Int) (f : Nat → Int) (h : MulAt w M R Rs C Sn n st va cur seen) (hG : HoldAt w G x gp mv ml f) (h0 : -1 ≤ cur) (h1 : cur + k < 4611686018427387904) (hk : 1 ≤ k) (hs : seen < cur + k - n) (hx : x < cur + k - n) (hxc : x ≤ cur) (hx0 : -9223372036854775808 ≤ x) :
    Calls Tryz.prog 91 #[.pointer (some ⟨M, 0, none⟩), .nilIface, .iface 86 (.pointer (some ⟨G, 0, none⟩)), .int .i64 cur, .int .i64 k] w fun e w' => e = .returned (.bool false) ∧ Kept (fun b => b = Sn) w w' ∧ Blk w' Sn 177 #[.int .i64 x] := by
  have hn := h.ring.pos
  have h2 := h.ring.most
  have c3 : w.cell? ⟨M, 3, none⟩ = some (.pointer (some ⟨Sn, 0, none⟩)) := h.mul.cell 3
  have HH := Lib.hid h
  have HG := Lib.hid hG
  have hmn : (if cur < x then cur else x) = x := by rw [if_neg (by omega)]
  have hmt := fun wx => gate_method 344 ⟨G, 0, none⟩ wx
  clear h hG
  go_enter Tryz.func91, Tryz.ntmps91
  go_wp2_with (first | (go_at_call 90; refine (multi_size HH.out).mono ?_; rintro e w' ⟨rfl, rfl⟩) | (go_at_call 85; refine (word_load _ seen _ (HH.out.sw.cell 0)).mono ?_; rintro e w' ⟨rfl, rfl⟩))
  refine (gate_least G x cur gp mv ml f w HG.out.gate HG.out.box HG.out.mem HG.out.most HG.out.some HG.out.all).mono ?_
  rintro e w1 ⟨⟨p, rfl⟩, k1⟩
  have m1 := HH.out.kept' k1 id id id id id
  have c3' : w1.cell? ⟨M, 3, none⟩ = some (.pointer (some ⟨Sn, 0, none⟩)) := m1.mul.cell 3
  have H1 := Lib.hid (And.intro k1 m1)
  clear k1 m1 c3
  go_wp2_with fail
  refine (word_store ⟨Sn, 0, none⟩ x seen w1 (H1.out.2.sw.cell 0) (H1.out.2.sw.frozen 0)).mono ?_
  rintro e w2 ⟨rfl, rfl⟩
  go_wp2
  go_ret
  refine ⟨?_, (H1.out.1.mono fun _ _ z => z.elim).trans (Kept.setCell (S := fun b => b = Sn) w1 (p := ⟨Sn, 0, none⟩) rfl _), H1.out.2.sw.set_ 0 _⟩
  show Ending.returned (.bool (decide (cur + k - (n : Int) ≤ x))) = _
  rw [decide_eq_false (by omega)]
set_option maxHeartbeats 4000000 in
set_option maxRecDepth 100000 in
theorem claim_held (G : Nat) (x k : Int) (gp : Option Addr) (mv : Value) (ml : List Int) (f : Nat → Int) (h : MulAt w M R Rs C Sn n st va cur seen) (hG : HoldAt w G x gp mv ml f) (h0 : -1 ≤ cur) (h1 : cur + k < 4611686018427387904) (hk : 1 ≤ k) (hkn : k ≤ n) (hs : seen < cur + k - n) (hx : x < cur + k - n) (hxc : x ≤ cur) (hx0 : -9223372036854775808 ≤ x) :
    Calls Tryz.prog 67 #[.pointer (some ⟨M, 0, none⟩), .nilIface, .iface 86 (.pointer (some ⟨G, 0, none⟩)), .int .i64 k] w fun e w' => e = .returned (.tuple #[.int .i64 0, .int .i64 3]) ∧ Kept (fun b => b = Sn) w w' ∧ Blk w' Sn 177 #[.int .i64 x] := by
  have hn := h.ring.pos
  have h2 := h.ring.most
  have c2 : w.cell? ⟨M, 2, none⟩ = some (.pointer (some ⟨C, 0, none⟩)) := h.mul.cell 2
  have HH := Lib.hid h
  have HG := Lib.hid hG
  clear h hG
  go_enter Tryz.func67, Tryz.ntmps67
  go_wp2_with (go_at_call 90; refine (multi_size HH.out).mono ?_; rintro e w' ⟨rfl, rfl⟩)
  go_loopw [10] (fun _ wr => wr = w) (fun _ _ => 0)
  case atStart => trivial
  case round =>
    subst hrel
    go_wp2_with (go_at_call 85; refine (word_load _ cur _ (HH.out.cw.cell 0)).mono ?_; rintro e w' ⟨rfl, rfl⟩)
    refine (free_full G x k gp mv ml f HH.out HG.out h0 h1 hk hs hx hxc hx0).mono ?_
    rintro e w1 ⟨rfl, k1⟩
    have H1 := Lib.hid k1
    clear k1
    go_wp2
    go_ret2
    exact ⟨rfl, H1.out⟩
set_option maxHeartbeats 4000000 in
set_option maxRecDepth 100000 in
theorem offer_held (G V c : Nat) (x : Int) (k : Nat) (gp : Option Addr) (mv : Value) (ml : List Int) (f : Nat → Int) (h : MulAt w M R Rs C Sn n st va cur seen) (hG : HoldAt w G x gp mv ml f) (hkc : k ≤ c) (hc : c ≤ maxLen) (h0 : -1 ≤ cur) (h1 : cur + k < 4611686018427387904) (hk : 1 ≤ k) (hkn : k ≤ n) (hs : seen < cur + k - n) (hx : x < cur + k - n) (hxc : x ≤ cur) (hx0 : -9223372036854775808 ≤ x) :
    Calls Tryz.prog 43 #[.pointer (some ⟨M, 0, none⟩), .nilIface, .iface 86 (.pointer (some ⟨G, 0, none⟩)), .slice (some ⟨V, 0, none⟩) k c] w fun e w' => e = .returned (.tuple #[.int .i64 0, .int .i64 3]) ∧ Kept (fun b => b = Sn) w w' ∧ Blk w' Sn 177 #[.int .i64 x] := by
  have HH := Lib.hid h
  have HG := Lib.hid hG
  have HS := Lib.hid (And.intro hs hx)
  have hkn' : (k : Int) ≤ n := by omega
  have hk' : (1 : Int) ≤ k := by omega
  clear h hG hs hx
  unfold maxLen at hc
  go_enter Tryz.func43, Tryz.ntmps43
  go_wp2_with fail
  refine (claim_held G x k gp mv ml f HH.out HG.out h0 h1 hk' hkn' HS.out.1 HS.out.2 hxc hx0).mono ?_
  rintro e w1 ⟨rfl, k1⟩
  have H1 := Lib.hid k1
  clear k1
  go_wp2
  go_ret2
  exact ⟨rfl, H1.out⟩
end
set_option maxHeartbeats 4000000 in
set_option maxRecDepth 100000 in
theorem publish_held (b B n V c k : Nat) (ls : List (Int × Nat)) (S : TSt) (name x : Int) (w : World) (hB : BusIn w b ls (B + 9)) (hl : lookT ls name = some ⟨B + 8, 0, none⟩) (hT : TopicAt w B n S) (hcl : S.closed = false)
    (hkc : k ≤ c) (hcm : c ≤ maxLen) (h0 : -1 ≤ S.cur) (h1 : S.cur + k < 4611686018427387904) (hk : 1 ≤ k) (hkn : k ≤ n) (hs : S.seen < S.cur + k - n) (hx : x < S.cur + k - n) (hxc : x ≤ S.cur) (hx0 : -9223372036854775808 ≤ x) (hml : S.ml.length ≤ 64) (hm0 : 0 < S.ml.length) (hall : ∀ j (h : j < S.ml.length), ∃ i : Nat, i < 64 ∧ S.ml[j] = (i : Int) ∧ S.num i = x) :
    Calls Tryz.prog 20 #[.pointer (some ⟨b, 0, none⟩), .nilIface, .int .i64 name, .slice (some ⟨V, 0, none⟩) k c] w fun e w' => e = .returned (.tuple #[.int .i64 0, .int .i64 3]) ∧ Kept (fun y => y = B + 3) w w' ∧ TopicAt w' B n { S with seen := x } := by
  have HB := Lib.hid hB
  have HT := Lib.hid hT
  have Hl := Lib.hid (And.intro hl hcl)
  have HH := Lib.hid (And.intro h0 (And.intro h1 (And.intro hkn (And.intro hs (And.intro hx (And.intro hxc hx0))))))
  have HA := Lib.hid (And.intro hml (And.intro hm0 hall))
  clear hB hT hl hcl h0 h1 hkn hs hx hxc hx0 hml hm0 hall
  have hcm' := hcm
  unfold maxLen at hcm
  go_enter Tryz.func20, Tryz.ntmps20
  go_wp2_with fail
  refine (find_ok b ls name w HB.out.at_).mono ?_
  rintro e w1 ⟨rfl, k1⟩
  rw [Hl.out.1]
  have H1 := Lib.hid k1
  clear k1
  have hT1 := HT.out.kept (Z := fun _ => False) H1.out (fun _ z => z.elim)
  have t4 : w1.cell? ⟨B + 8, 4, none⟩ = some (.int .u32 (if S.closed then 1 else 0)) := hT1.top.cell 4
  rw [Hl.out.2] at t4
  have HT1 := Lib.hid hT1
  have T4 := Lib.hid t4
  clear hT1 t4
  go_wp2_with (go_at_call 34; refine (flag_load _ false _ T4.out).mono ?_; rintro e w' ⟨rfl, rfl⟩)
  rename_i K0 hK0
  refine strictL ?_
  refine wp_region_held (S := Kept (fun y => y = B + 3) w1) (by kernel_rfl) ?_
  simp only [List.size_toArray, List.length_cons, List.length_nil, Nat.reduceAdd]
  have HW1 : Hid (Kept (fun y => y = B + 3) w1 { w1 with drawn := w1.drawn + 1 }) := Lib.hid (Kept.drew w1)
  iterate 11
    first
    | refine rdL 0 15 29 ?_
    | refine rdL 1 14 30 ?_
    | refine rdL 2 13 31 ?_
    | refine rdL 3 12 32 ?_
    | refine rdL 4 11 33 ?_
    | refine rdL 5 10 34 ?_
    | refine rdL 6 9 35 ?_
    | refine rdL 7 8 36 ?_
    | refine rdL 8 7 37 ?_
    | refine rdL 9 6 38 ?_
    | refine rdL 10 5 39 ?_
    refine ⟨_, rfl, rfl, by kernel_rfl, by kernel_rfl, by kernel_rfl, (fun c a w h => by cases h.1), rfl, HW1.out, ?_⟩
    apply Exists.intro
    refine ⟨fun wq hw => ?_, ?_⟩
    · have hb := HT1.out.top.kept hw (by omega)
      have c1 : wq.cell? ⟨B + 8, 1, none⟩ = some (.pointer (some ⟨B + 4, 0, none⟩)) := hb.cell 1
      have c2 : wq.cell? ⟨B + 8, 2, none⟩ = some (.pointer (some ⟨B + 7, 0, none⟩)) := hb.cell 2
      clear hb
      go_simp
      rfl
    simp only [Act.put, List.setIfInBounds_toArray, List.set_cons_zero, List.set_cons_succ]
  have hkd : Kept (fun _ => False) w1 { w1 with drawn := w1.drawn + 1 } := Kept.drew w1
  clear HW1
  generalize ({ w1 with drawn := w1.drawn + 1 } : World) = wd at hkd ⊢
  have HY := Lib.hid hkd
  clear hkd
  refine oneL (i := 11) (fuel := 4) (by kernel_rfl) rfl rfl fun K hK' => ?_
  unfold Oper.wp
  go_simp
  have HTd := Lib.hid (HT1.out.kept (Z := fun _ => False) HY.out (fun _ z => z.elim))
  obtain ⟨mv, g1, g2, g3, g4⟩ := HTd.out.gates HA.out.1
  have HM := Lib.hid (And.intro g1 g2)
  clear g1 g2 g3 g4
  obtain ⟨h0, h1, hkn, hs, hx, hxc, hx0⟩ := HH.out
  refine (offer_held (B + 7) V c x k S.gp mv S.ml S.num HTd.out.mulAt ⟨HTd.out.gate, HM.out.1, HM.out.2, HA.out.1, HA.out.2.1, HA.out.2.2⟩ hkc hcm' h0 h1 hk hkn hs hx hxc hx0).mono ?_
  clear h0 h1 hkn hs hx hxc hx0
  rintro e w2 ⟨rfl, k2, b2⟩
  dsimp only
  have H2 := Lib.hid (And.intro b2 (HY.out.mono (fun _ _ z => z.elim) |>.trans k2))
  clear k2 b2
  refine hK' _ _ H2.out.2 ?_
  clear hK' K
  iterate 2
    first
    | refine rdL 12 3 41 ?_
    | refine rdL 13 2 42 ?_
    refine ⟨_, rfl, rfl, by kernel_rfl, by kernel_rfl, by kernel_rfl, (fun c a w h => by cases h.1), rfl, H2.out.2, ?_⟩
    apply Exists.intro
    refine ⟨fun wq hw => ?_, ?_⟩
    · go_simp
      rfl
    simp only [Act.put, List.setIfInBounds_toArray, List.set_cons_zero, List.set_cons_succ]
  refine oneL (i := 14) (fuel := 1) (by kernel_rfl) rfl rfl fun K hK' => ?_
  unfold Oper.wp
  go_simp
  refine hK' _ _ H2.out.2 ?_
  clear hK' K
  refine oneL (i := 15) (fuel := 0) (by kernel_rfl) rfl rfl fun K hK' => ?_
  unfold Oper.wp
  go_simp
  refine hK' _ _ H2.out.2 ?_
  clear hK' K
  refine wpAnyH_done (by kernel_rfl) ⟨rfl, ?_⟩ _
  refine hK0 _ _ ?_
  clear hK0 K0
  go_wp2
  go_ret2
  obtain ⟨b2, k2⟩ := H2.out
  refine ⟨rfl, (H1.out.mono fun _ _ z => z.elim).trans k2, HT1.out.ring.kept k2 (by omega) (by omega), HT1.out.cw.kept k2 (by omega), b2, HT1.out.mul.kept k2 (by omega), HT1.out.pw.kept k2 (by omega), HT1.out.pl.kept k2 (by omega), HT1.out.gate.kept k2 (by omega), HT1.out.top.kept k2 (by omega), ?_⟩
  rcases HT1.out.mem with hm | ⟨K, L, c', h1, h2, h3, h4, h5, h6, h7⟩
  · exact .inl hm
  · exact .inr ⟨K, L, c', h1, h2.kept k2 (by omega), h3, h4, h5, h6, fun i hi => cell_keep (h7 i hi) k2 (by show ¬ L = B + 3; omega)⟩
end Go.Proofs.YtbmjmamodnapiaaGreatDoor
