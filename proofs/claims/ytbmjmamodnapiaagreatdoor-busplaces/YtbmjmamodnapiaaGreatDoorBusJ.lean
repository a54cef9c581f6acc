/- DERIVED. A subscription (package bus: Subscribe, Next, Place), lone. -/
import Derived.Test.YtbmjmamodnapiaaGreatDoorBusI
namespace Go.Proofs.YtbmjmamodnapiaaGreatDoor
open Go.RowKit
set_option linter.unusedVariables false
/-- What a gate's box holds, read off a topic. -/
theorem TopicAt.gates {w : World} {B n : Nat} {S : TSt} (h : TopicAt w B n S) (hl : S.ml.length ≤ 64) : ∃ mv, BoxV 214 S.gp mv w ∧ MembersAt w mv S.ml ∧ (∀ K, S.gp = some ⟨K, 0, none⟩ → B + 8 < K) ∧ ∀ A n c, mv = .slice (some A) n c → B + 8 < A.block := by
  rcases h.mem with ⟨e1, e2⟩ | ⟨K, L, c, h1, h2, h3, h4, h5, h6, h7⟩
  · exact ⟨.slice none 0 0, .inl ⟨e1, rfl⟩, ⟨none, 0, by rw [e2]; rfl, by rw [e2]; exact Nat.le_refl _, Nat.zero_le _, fun _ => rfl, fun i hi => by rw [e2] at hi; simp at hi⟩, (fun K e => by rw [e1] at e; cases e), (fun A n c e => by cases e)⟩
  · exact ⟨_, .inr ⟨K, _, h1, h2⟩, ⟨_, c, rfl, h5, h6, (fun e => by cases e), fun i hi => ⟨L, rfl, h7 i hi⟩⟩, (fun K' e => by rw [h1] at e; cases e; exact h3), (fun A n c e => by cases e; exact h4)⟩
theorem TopicAt.word {w w' : World} {B n : Nat} {S : TSt} {x : Int} (h : TopicAt w B n S) (k : Kept (fun y => y = B + 5) w w') (b : Blk w' (B + 5) 151 #[.int .u64 x]) : TopicAt w' B n { S with word := x } := by
  refine ⟨h.ring.kept k (by omega) (by omega), h.cw.kept k (by omega), h.sw.kept k (by omega), h.mul.kept k (by omega), b, h.pl.kept k (by omega), h.gate.kept k (by omega), h.top.kept k (by omega), ?_⟩
  rcases h.mem with hm | ⟨K, L, c, h1, h2, h3, h4, h5, h6, h7⟩
  · exact .inl hm
  · exact .inr ⟨K, L, c, h1, h2.kept k (by omega), h3, h4, h5, h6, fun i hi => cell_keep (h7 i hi) k (by show ¬ L = B + 5; omega)⟩
theorem TopicAt.gated {w w' : World} {B n : Nat} {S : TSt} {Z : Nat → Prop} {gp : Option Addr} {ml : List Int} {num : Nat → Int} (h : TopicAt w B n S) (k : Kept Z w w') (hz : ∀ y, Z y → y = B + 7 ∨ B + 8 < y) (g : GateAt w' (B + 7) gp num)
    (m : (gp = none ∧ ml = []) ∨ ∃ K L c, gp = some ⟨K, 0, none⟩ ∧ Blk w' K 214 #[.slice (some ⟨L, 0, none⟩) ml.length c, .int .i64 0] ∧ B + 8 < K ∧ B + 8 < L ∧ ml.length ≤ c ∧ c ≤ maxLen ∧ ∀ i (h : i < ml.length), w'.cell? ⟨L, i, none⟩ = some (.int .i64 ml[i])) : TopicAt w' B n { S with gp := gp, ml := ml, num := num } := by
  have z : ∀ x, x ≤ B + 8 → x ≠ B + 7 → ¬ Z x := fun x h1 h2 e => by rcases hz x e with h | h <;> omega
  exact ⟨h.ring.kept k (z _ (by omega) (by omega)) (z _ (by omega) (by omega)), h.cw.kept k (z _ (by omega) (by omega)), h.sw.kept k (z _ (by omega) (by omega)), h.mul.kept k (z _ (by omega) (by omega)), h.pw.kept k (z _ (by omega) (by omega)), h.pl.kept k (z _ (by omega) (by omega)), g, h.top.kept k (z _ (by omega) (by omega)), m⟩
/-- A subscription in memory. -/
def SubAt (w : World) (u t r : Nat) (kd a b : Int) (i : Nat) : Prop := Blk w u 112 #[.pointer (some ⟨t, 0, none⟩), .int .i64 kd, .int .i64 a, .int .i64 b, .int .i64 i, .pointer (some ⟨r, 0, none⟩), .pointer none]
theorem c01_if (b : Bool) : c01 b = if b then 1 else 0 := rfl
set_option maxHeartbeats 4000000 in
set_option maxRecDepth 100000 in
theorem bus_subscribe (b B n i : Nat) (ls : List (Int × Nat)) (S : TSt) (name kd fa fb word' : Int) (w : World) (hB : BusIn w b ls (B + 9)) (hl : lookT ls name = some ⟨B + 8, 0, none⟩) (hT : TopicAt w B n S) (hTab : TabAt w)
    (hcl : S.closed = false) (hF : ClaimF S.word i word') (hni : (i : Int) ∉ S.ml) (hml : S.ml.length ≤ 64) (hc0 : -1 ≤ S.cur) (hc1 : S.cur < 4611686018427387904) (hB0 : 0 < B) :
    Calls Tryz.prog 16 #[.pointer (some ⟨b, 0, none⟩), .nilIface, .int .i64 name, .agg #[.int .i64 kd, .int .i64 fa, .int .i64 fb]] w fun e w' => ∃ u r K, e = .returned (.tuple #[.pointer (some ⟨u, 0, none⟩), .int .i64 0]) ∧
      Kept (fun x => x = B + 5 ∨ x = B + 7) w w' ∧ TopicAt w' B n { S with gp := some ⟨K, 0, none⟩, ml := S.ml ++ [(i : Int)], num := upd S.num i S.cur, word := word' } ∧ SubAt w' u (B + 8) r kd fa fb i ∧ RdAt w' r (B + 4) (B + 7) i true (S.cur + 1) ∧ w.heap.size ≤ u ∧ w.heap.size ≤ r ∧ u ≠ r := by
  have HB := Lib.hid hB
  have HT := Lib.hid hT
  have HTab := Lib.hid hTab
  have HF := Lib.hid hF
  have hi := hF.lt
  have Hl := Lib.hid (And.intro hl hcl)
  clear hB hT hTab hF hl hcl
  go_enter Tryz.func16, Tryz.ntmps16
  go_wp2_with fail
  have ka : Kept (fun _ => False) w (w.alloc (.cells #[.int .i64 kd, .int .i64 fa, .int .i64 fb] 24)) := Kept.alloc _ _
  have ba := Blk.new w 24 #[.int .i64 kd, .int .i64 fa, .int .i64 fb]
  obtain ⟨xf, hxf⟩ : ∃ x, x = w.heap.size := ⟨_, rfl⟩
  rw [← hxf] at ba ⊢
  generalize w.alloc (.cells #[.int .i64 kd, .int .i64 fa, .int .i64 fb] 24) = wa at ka ba ⊢
  have HA := Lib.hid (And.intro ka (And.intro ba hxf))
  clear ka ba hxf
  refine (find_ok b ls name wa (HB.out.at_.keep HA.out.1)).mono ?_
  rintro e w1 ⟨rfl, k1⟩
  rw [Hl.out.1]
  have H1 := Lib.hid (HA.out.1.trans k1)
  have HF1 := Lib.hid (HA.out.2.1.kept k1 id)
  clear k1
  have hT1 := HT.out.kept (Z := fun _ => False) H1.out (fun _ z => z.elim)
  have t4 : w1.cell? ⟨B + 8, 4, none⟩ = some (.int .u32 (if S.closed then 1 else 0)) := hT1.top.cell 4
  rw [Hl.out.2] at t4
  have t3 : w1.cell? ⟨B + 8, 3, none⟩ = some (.pointer (some ⟨B + 6, 0, none⟩)) := hT1.top.cell 3
  have HT1 := Lib.hid hT1
  have T4 := Lib.hid t4
  clear hT1 t4
  go_wp2_with (go_at_call 34; refine (flag_load _ false _ T4.out).mono ?_; rintro e w' ⟨rfl, rfl⟩)
  refine (claim_ok (B + 6) (B + 5) i S.word word' w1 HT1.out.pl HT1.out.pw (HTab.out.kept H1.out id) (by omega) HF.out).mono ?_
  rintro e w2 ⟨rfl, k2, bw2⟩
  have H2 := Lib.hid (And.intro k2 bw2)
  clear k2 bw2 t3
  go_wp2_with fail
  rename_i K0 hK0
  refine strictL ?_
  refine wp_region_held (S := Kept (fun _ => False) w2) (by kernel_rfl) ?_
  simp only [List.size_toArray, List.length_cons, List.length_nil, Nat.reduceAdd]
  have HW1 : Hid (Kept (fun _ => False) w2 { w2 with drawn := w2.drawn + 1 }) := Lib.hid (Kept.drew w2)
  have HTop := Lib.hid (HT1.out.top.kept H2.out.1 (by omega))
  iterate 9
    first
    | refine rdL 0 14 43 ?_
    | refine rdL 1 13 44 ?_
    | refine rdL 2 12 45 ?_
    | refine rdL 3 11 46 ?_
    | refine rdL 4 10 47 ?_
    | refine rdL 5 9 48 ?_
    | refine rdL 6 8 49 ?_
    | refine rdL 7 7 50 ?_
    | refine rdL 8 6 51 ?_
    refine ⟨_, rfl, rfl, by kernel_rfl, by kernel_rfl, by kernel_rfl, (fun c a w h => by cases h.1), rfl, HW1.out, ?_⟩
    apply Exists.intro
    refine ⟨fun wq hw => ?_, ?_⟩
    · have hb := HTop.out.kept hw id
      have c1 : wq.cell? ⟨B + 8, 1, none⟩ = some (.pointer (some ⟨B + 4, 0, none⟩)) := hb.cell 1
      have c2 : wq.cell? ⟨B + 8, 2, none⟩ = some (.pointer (some ⟨B + 7, 0, none⟩)) := hb.cell 2
      clear hb
      go_simp
      rfl
    simp only [Act.put, List.setIfInBounds_toArray, List.set_cons_zero, List.set_cons_succ]
  have hkd : Kept (fun _ => False) w2 { w2 with drawn := w2.drawn + 1 } := Kept.drew w2
  clear HW1
  generalize ({ w2 with drawn := w2.drawn + 1 } : World) = wd at hkd ⊢
  refine oneL (i := 9) (fuel := 5) (by kernel_rfl) rfl rfl fun K hK' => ?_
  unfold Oper.wp
  go_simp
  refine (reader_new (B + 4) (B + 7) i wd hi).mono ?_
  rintro e w3 ⟨rfl, hw3⟩
  dsimp only
  have k3 : Kept (fun _ => False) w2 w3 := hkd.trans (hw3 ▸ Kept.alloc _ _)
  have b3 : RdAt w3 wd.heap.size (B + 4) (B + 7) i false 0 := hw3 ▸ Blk.new wd _ _
  have l3 : wd.heap.size < w3.heap.size := by rw [← hw3]; simp
  obtain ⟨r, hr⟩ : ∃ r, r = wd.heap.size := ⟨_, rfl⟩
  rw [← hr] at b3 l3 ⊢
  have hr2 : w2.heap.size ≤ r := by rw [hr]; exact hkd.size
  have H3 := Lib.hid (And.intro k3 (And.intro b3 (And.intro l3 hr2)))
  clear k3 b3 l3 hr2 hr hw3 hkd
  refine hK' _ _ H3.out.1 ?_
  clear hK' K
  iterate 3
    first
    | refine rdL 10 4 42 ?_
    | refine rdL 11 3 53 ?_
    | refine rdL 12 2 54 ?_
    refine ⟨_, rfl, rfl, by kernel_rfl, by kernel_rfl, by kernel_rfl, (fun c a w h => by cases h.1), rfl, H3.out.1, ?_⟩
    apply Exists.intro
    refine ⟨fun wq hw => ?_, ?_⟩
    · go_simp
      rfl
    simp only [Act.put, List.setIfInBounds_toArray, List.set_cons_zero, List.set_cons_succ]
  refine oneL (i := 13) (fuel := 1) (by kernel_rfl) rfl rfl fun K hK' => ?_
  unfold Oper.wp
  go_simp
  refine hK' _ _ H3.out.1 ?_
  clear hK' K
  refine oneL (i := 14) (fuel := 0) (by kernel_rfl) rfl rfl fun K hK' => ?_
  unfold Oper.wp
  go_simp
  refine hK' _ _ H3.out.1 ?_
  clear hK' K
  refine wpAnyH_done (by kernel_rfl) ⟨rfl, ?_⟩ _
  refine hK0 _ _ ?_
  clear hK0 K0
  have hT2 := HT1.out.word H2.out.1 H2.out.2
  have hT3 := hT2.kept (Z := fun _ => False) H3.out.1 (fun _ z => z.elim)
  obtain ⟨mv, g1, g2, g3, g4⟩ := hT3.gates hml
  have hsz1 := H1.out.size
  have hsz2 := H2.out.1.size
  have htop1 := HT1.out.top.lt
  obtain ⟨ra, rb, rc, rd⟩ := H3.out
  have HT3 := Lib.hid hT3
  have HR3 := Lib.hid (And.intro g1 (And.intro g2 (And.intro g3 g4)))
  clear hT2 hT3 g1 g2 g3 g4 ra rb rc
  have HSZ := Lib.hid (And.intro hsz1 (And.intro hsz2 (And.intro htop1 rd)))
  clear hsz1 hsz2 htop1 rd
  go_wp2_with fail
  refine (reader_join r (B + 4) (B + 7) i (B + 1) (B + 2) (B + 3) S.cur 0 S.gp mv S.ml S.num w3 H3.out.2.1 HT3.out.mul HT3.out.cw HT3.out.gate HR3.out.1 HR3.out.2.1 hi hni hml (fun K e => by have := HR3.out.2.2.1 K e; omega) (fun A n c e => by have := HR3.out.2.2.2 A n c e; omega) (by have := HSZ.out; omega) (by omega) (by omega) hc0 hc1).mono ?_
  rintro e w4 ⟨rfl, k4, r4, J⟩
  have H4 := Lib.hid (And.intro k4 (And.intro r4 J))
  clear k4 r4 J
  have bf := HF1.out.kept H2.out.1 (by have := HA.out.2.2; have := HT.out.top.lt; omega)
  have bf4 := (bf.kept H3.out.1 id).kept H4.out.1 (by have := HA.out.2.2; have := HT.out.top.lt; have := HSZ.out; have := HF1.out.lt; omega)
  have f0 : w4.cell? ⟨xf, 0, none⟩ = some (.int .i64 kd) := bf4.cell 0
  have f1 : w4.cell? ⟨xf, 1, none⟩ = some (.int .i64 fa) := bf4.cell 1
  have f2 : w4.cell? ⟨xf, 2, none⟩ = some (.int .i64 fb) := bf4.cell 2
  clear bf bf4
  go_wp2
  go_ret2
  obtain ⟨k4, r4, K, L, c, q1, q2, q3, q4, q5, q6, q7⟩ := H4.out
  have kz : Kept (fun _ => False) w4 (w4.alloc (.cells #[.pointer (some ⟨B + 8, 0, none⟩), .int .i64 kd, .int .i64 fa, .int .i64 fb, .int .i64 i, .pointer (some ⟨r, 0, none⟩), .pointer none] 112)) := Kept.alloc _ _
  have bz := Blk.new w4 112 #[.pointer (some ⟨B + 8, 0, none⟩), .int .i64 kd, .int .i64 fa, .int .i64 fb, .int .i64 i, .pointer (some ⟨r, 0, none⟩), .pointer none]
  have k04 : Kept (fun x => x = B + 5 ∨ x = B + 7) w w4 := (((((H1.out.mono fun _ _ z => z.elim).trans (H2.out.1.mono fun _ _ z => .inl z)).trans (H3.out.1.mono fun _ _ z => z.elim)).trans (k4.mono (S' := fun x => x = B + 5 ∨ x = B + 7 ∨ x = r) fun _ _ z => .inr z)).mono (S' := fun x => x = B + 5 ∨ x = B + 7) fun x hx z => by
    have h1 := H1.out.size
    have h2 := HSZ.out
    rcases z with z | z | z
    · exact .inl z
    · exact .inr z
    · omega)
  have hs1 := H1.out.size
  have hs2 := HSZ.out
  have hs3 := H3.out.1.size
  have hs4 := r4.lt
  have hlen : (S.ml ++ [(i : Int)]).length = S.ml.length + 1 := by simp
  refine ⟨w4.heap.size, r, K, rfl, k04.trans (kz.mono fun _ _ z => z.elim), HT3.out.gated (k4.trans (kz.mono fun _ _ z => z.elim)) (fun y hy => by rcases hy with h | h <;> omega) (q3.kept kz id) (.inr ⟨K, L, c, rfl, ?_, by omega, by omega, by omega, q6, fun j hj => cell_keep (q7 j hj) kz id⟩), bz, Blk.kept r4 kz id, by omega, by omega, by omega⟩
  rw [hlen]
  exact q4.kept kz id
theorem sub_over (u t r i : Nat) (kd a b : Int) (w : World) (h : SubAt w u t r kd a b i) : Calls Tryz.prog 38 #[.pointer (some ⟨u, 0, none⟩)] w fun e w' => e = .returned (.bool false) ∧ w = w' := by
  have c0 : w.cell? ⟨u, 0, none⟩ = some (.pointer (some ⟨t, 0, none⟩)) := Blk.cell h 0
  clear h
  go_enter Tryz.func38, Tryz.ntmps38
  go_wp2
  go_ret
  exact ⟨rfl, rfl⟩
theorem reader_next (r M G i : Nat) (j : Bool) (q : Int) (w : World) (h : RdAt w r M G i j q) : Calls Tryz.prog 41 #[.pointer (some ⟨r, 0, none⟩)] w fun e w' => e = .returned (.int .i64 q) ∧ w = w' := by
  have c0 : w.cell? ⟨r, 4, none⟩ = some (.int .i64 q) := Blk.cell h 4
  clear h
  go_enter Tryz.func41, Tryz.ntmps41
  go_wp2
  go_ret
  exact ⟨rfl, rfl⟩
theorem sub_next (u t r i M G : Nat) (kd a b q : Int) (j : Bool) (w : World) (h : SubAt w u t r kd a b i) (hr : RdAt w r M G i j q) : Calls Tryz.prog 19 #[.pointer (some ⟨u, 0, none⟩)] w fun e w' => e = .returned (.int .i64 q) ∧ w = w' := by
  have c5 : w.cell? ⟨u, 5, none⟩ = some (.pointer (some ⟨r, 0, none⟩)) := Blk.cell h 5
  have HH := Lib.hid (And.intro h hr)
  clear h hr
  go_enter Tryz.func19, Tryz.ntmps19
  go_wp2_with (first | (go_at_call 38; refine (sub_over u t r i kd a b _ HH.out.1).mono ?_; rintro e w' ⟨rfl, rfl⟩) | (go_at_call 41; refine (reader_next r M G i j q _ HH.out.2).mono ?_; rintro e w' ⟨rfl, rfl⟩))
  go_ret
  exact ⟨rfl, rfl⟩
theorem sub_place (u t r i : Nat) (kd a b : Int) (w : World) (h : SubAt w u t r kd a b i) : Calls Tryz.prog 17 #[.pointer (some ⟨u, 0, none⟩)] w fun e w' => e = .returned (.int .i64 i) ∧ w = w' := by
  have c4 : w.cell? ⟨u, 4, none⟩ = some (.int .i64 i) := Blk.cell h 4
  have HH := Lib.hid h
  clear h
  go_enter Tryz.func17, Tryz.ntmps17
  go_wp2_with (go_at_call 38; refine (sub_over u t r i kd a b _ HH.out).mono ?_; rintro e w' ⟨rfl, rfl⟩)
  go_ret
  exact ⟨rfl, rfl⟩
end Go.Proofs.YtbmjmamodnapiaaGreatDoor
