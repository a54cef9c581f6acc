/- DERIVED. A topic in memory; a topic opened (package bus: Open), lone. -/
import Derived.Test.YtbmjmamodnapiaaGreatDoorBusD
namespace Go.Proofs.YtbmjmamodnapiaaGreatDoor
open Go.RowKit
set_option linter.unusedVariables false
/-- A topic's state. -/
structure TSt where
  name : Int
  st : Nat → Int
  va : Nat → Int
  cur : Int
  seen : Int
  gp : Option Addr
  ml : List Int
  num : Nat → Int
  word : Int
  closed : Bool
def c01 (b : Bool) : Int := if b then 1 else 0
/-- A topic, its nine blocks from B on; what its gate's box holds lies behind them. -/
structure TopicAt (w : World) (B n : Nat) (S : TSt) : Prop where
  ring : RingAt w (B + 1) B n S.st S.va
  cw : Blk w (B + 2) 177 #[.int .i64 S.cur]
  sw : Blk w (B + 3) 177 #[.int .i64 S.seen]
  mul : Blk w (B + 4) 125 #[.pointer (some ⟨B + 1, 0, none⟩), .int .i64 0, .pointer (some ⟨B + 2, 0, none⟩), .pointer (some ⟨B + 3, 0, none⟩)]
  pw : Blk w (B + 5) 151 #[.int .u64 S.word]
  pl : Blk w (B + 6) 128 #[.int .i64 64, .slice (some ⟨B + 5, 0, none⟩) 1 1]
  gate : GateAt w (B + 7) S.gp S.num
  top : Blk w (B + 8) 93 #[.int .i64 S.name, .pointer (some ⟨B + 4, 0, none⟩), .pointer (some ⟨B + 7, 0, none⟩), .pointer (some ⟨B + 6, 0, none⟩), .int .u32 (c01 S.closed)]
  mem : (S.gp = none ∧ S.ml = []) ∨ ∃ K L c, S.gp = some ⟨K, 0, none⟩ ∧ Blk w K 214 #[.slice (some ⟨L, 0, none⟩) S.ml.length c, .int .i64 0] ∧ B + 8 < K ∧ B + 8 < L ∧ S.ml.length ≤ c ∧ c ≤ maxLen ∧ ∀ i (h : i < S.ml.length), w.cell? ⟨L, i, none⟩ = some (.int .i64 S.ml[i])
def TSt.new (name : Int) : TSt := ⟨name, fun _ => -2, fun _ => 0, -1, -1, none, [], fun _ => -1, 0, false⟩
/-- A bus whose own blocks, but the first one, lie from lo on. -/
def BusIn (w : World) (b : Nat) (ls : List (Int × Nat)) (lo : Nat) : Prop := ∃ p v, Blk w b 72 #[.pointer p] ∧ BoxV 145 p v w ∧ TopicsAt w v ls ∧ (∀ K, p = some K → lo ≤ K.block) ∧ ∀ A n c, v = .slice (some A) n c → lo ≤ A.block
theorem BusIn.at_ {w : World} {b : Nat} {ls : List (Int × Nat)} {lo : Nat} (h : BusIn w b ls lo) : BusAt w b ls := by
  obtain ⟨p, v, h1, h2, h3, _⟩ := h
  exact ⟨p, v, h1, h2, h3⟩
theorem BusIn.kept {Z : Nat → Prop} {w w' : World} {b : Nat} {ls : List (Int × Nat)} {lo : Nat} (h : BusIn w b ls lo) (k : Kept Z w w') (hb : ¬ Z b) (hz : ∀ x, lo ≤ x → ¬ Z x) (ht : ∀ x, x ∈ ls → ¬ Z x.2) : BusIn w' b ls lo := by
  obtain ⟨p, v, h1, h2, ⟨A, c, rfl, t1, t2, t3, t4⟩, h4, h5⟩ := h
  refine ⟨p, _, h1.kept k hb, ?_, ⟨A, c, rfl, t1, t2, t3, fun i hi => ?_⟩, h4, h5⟩
  · rcases h2 with h2 | ⟨K, q, e1, e2⟩
    · exact .inl h2
    · exact .inr ⟨K, q, e1, e2.kept k (hz _ (h4 _ e1))⟩
  · obtain ⟨L, rfl, q1, q2⟩ := t4 i hi
    exact ⟨L, rfl, cell_keep q1 k (hz L (h5 ⟨L, 0, none⟩ _ _ rfl)), cell_keep q2 k (ht _ (List.getElem_mem hi))⟩
theorem own_lt1 {w : World} {b0 : Nat} {A : Option Addr} {c : Nat} {e : TypeId} {v : Value} (h : w.ownsRow b0 e 1 (.slice A 1 c) 1 [v]) (hz : 0 < 1) : ∃ L, A = some ⟨L, 0, none⟩ ∧ b0 ≤ L ∧ 1 ≤ c ∧ c ≤ maxLen ∧ w.cell? ⟨L, 0, none⟩ = some v ∧ ∃ cur, Blk w L e cur := by
  rcases h.2 with ⟨h1, h2⟩ | ⟨g, cap, cur, hv, hb, hg, h3, h4, _, h6⟩
  · omega
  · simp only [Value.slice.injEq] at hv
    obtain ⟨rfl, -, rfl⟩ := hv
    exact ⟨g, rfl, hb, h3, h4, (h.cellAt 0 (by omega)).trans rfl, cur, hg⟩
theorem TopicAt.kept {Z : Nat → Prop} {w w' : World} {B n : Nat} {S : TSt} (h : TopicAt w B n S) (k : Kept Z w w') (hz : ∀ x, Z x → x < B) : TopicAt w' B n S := by
  have z : ∀ x, B ≤ x → ¬ Z x := fun x hx e => by have := hz x e; omega
  refine ⟨h.ring.kept k (z _ (by omega)) (z _ (by omega)), h.cw.kept k (z _ (by omega)), h.sw.kept k (z _ (by omega)), h.mul.kept k (z _ (by omega)), h.pw.kept k (z _ (by omega)), h.pl.kept k (z _ (by omega)), h.gate.kept k (z _ (by omega)), h.top.kept k (z _ (by omega)), ?_⟩
  rcases h.mem with hm | ⟨K, L, c, h1, h2, h3, h4, h5, h6, h7⟩
  · exact .inl hm
  · exact .inr ⟨K, L, c, h1, h2.kept k (z _ (by omega)), h3, h4, h5, h6, fun i hi => cell_keep (h7 i hi) k (z _ (by show B ≤ L; omega))⟩
theorem Tryz.infoTop : (Tryz.prog.info? 85).map (fun i => (i.zero, i.size, i.bytes)) = some (some (.pointer none), 1, 8) := by kernel_rfl
set_option maxHeartbeats 4000000 in
set_option maxRecDepth 100000 in
theorem bus_open (b : Nat) (name : Int) (n : Nat) (w : World) (hn : 0 < n) (h2 : n ≤ 65536) (hb : (bits BinOp.and IntKind.i64 (n : Int) ((n : Int) - 1) != 0) = false) (hB : Blk w b 72 #[.pointer none]) :
    Calls Tryz.prog 15 #[.pointer (some ⟨b, 0, none⟩), .nilIface, .int .i64 name, .int .i64 n] w fun e w' => e = .returned (.int .i64 0) ∧ Kept (fun x => x = b) w w' ∧ TopicAt w' w.heap.size n (TSt.new name) ∧ BusIn w' b [(name, w.heap.size + 8)] (w.heap.size + 9) := by
  go_enter Tryz.func15, Tryz.ntmps15
  go_wp2_with fail
  refine (multi_new n w hn h2 hb).mono ?_
  rintro e w1 ⟨rfl, m1, m2, m3, m4, m5, m6⟩
  have HM := Lib.hid (And.intro m1 (And.intro m2 (And.intro m3 (And.intro m4 (And.intro m5 m6)))))
  clear m1 m2 m3 m4 m5 m6 hb
  go_wp2_with fail
  refine (bits_new64 w1).mono ?_
  rintro e w2 ⟨rfl, p1, p2, p3, p4⟩
  have HP := Lib.hid (And.intro p1 (And.intro p2 (And.intro p3 p4)))
  clear p1 p2 p3 p4
  go_wp2_with fail
  refine (gate_new w2).mono ?_
  rintro e w3 ⟨rfl, g1, g2, g3⟩
  have HG := Lib.hid (And.intro g1 (And.intro g2 g3))
  clear g1 g2 g3
  go_wp2_with fail
  obtain ⟨m1, m2, m3, m4, m5, m6⟩ := HM.out
  obtain ⟨p1, p2, p3, p4⟩ := HP.out
  obtain ⟨g1, g2, g3⟩ := HG.out
  have e2 : w2.heap.size = w.heap.size + 7 := by omega
  have e3 : w3.heap.size = w.heap.size + 8 := by omega
  have hal : Kept (fun _ => False) w3 (w3.alloc (.cells #[.int .i64 name, .pointer (some ⟨w.heap.size + 4, 0, none⟩), .pointer (some ⟨w2.heap.size, 0, none⟩), .pointer (some ⟨w1.heap.size + 1, 0, none⟩), .int .u32 0] 93)) := Kept.alloc _ _
  have k14 := (p3.trans g2).trans hal
  have k24 := g2.trans hal
  have htop := Blk.new w3 93 #[.int .i64 name, .pointer (some ⟨w.heap.size + 4, 0, none⟩), .pointer (some ⟨w2.heap.size, 0, none⟩), .pointer (some ⟨w1.heap.size + 1, 0, none⟩), .int .u32 0]
  have hT : TopicAt (w3.alloc (.cells #[.int .i64 name, .pointer (some ⟨w.heap.size + 4, 0, none⟩), .pointer (some ⟨w2.heap.size, 0, none⟩), .pointer (some ⟨w1.heap.size + 1, 0, none⟩), .int .u32 0] 93)) w.heap.size n (TSt.new name) := by
    rw [e3] at htop
    simp only [m6, e2] at htop p1 p2 g1 ⊢
    simp only [m6, e2] at k14 k24 hal
    exact ⟨m1.kept k14 id id, m2.kept k14 id, m3.kept k14 id, m4.kept k14 id, p1.kept k24 id, p2.kept k24 id, g1.kept hal id, htop, .inl ⟨rfl, rfl⟩⟩
  have hK := m5.trans k14
  have hsz : (w3.alloc (.cells #[.int .i64 name, .pointer (some ⟨w.heap.size + 4, 0, none⟩), .pointer (some ⟨w2.heap.size, 0, none⟩), .pointer (some ⟨w1.heap.size + 1, 0, none⟩), .int .u32 0] 93)).heap.size = w.heap.size + 9 := by simp [e3]
  have hB4 := hB.kept hK id
  rw [e3]
  generalize w3.alloc (.cells #[.int .i64 name, .pointer (some ⟨w.heap.size + 4, 0, none⟩), .pointer (some ⟨w2.heap.size, 0, none⟩), .pointer (some ⟨w1.heap.size + 1, 0, none⟩), .int .u32 0] 93) = w4 at hT hK hsz hB4 ⊢
  have HT := Lib.hid hT
  have HKK := Lib.hid hK
  have HS := Lib.hid hsz
  have HBB := Lib.hid hB4
  have hbw : b < w.heap.size := hB.lt
  clear m1 m2 m3 m4 m5 p1 p2 p3 g1 g2 e2 e3 hal k14 k24 htop hT hK hsz hB4 hB HM HP HG m6 p4 g3
  go_loopw [14] (fun _ wr => wr = w4) (fun _ _ => 0)
  case atStart => trivial
  case round =>
    subst hrel
    have c0 : wr.cell? ⟨b, 0, none⟩ = some (.pointer none) := HBB.out.cell 0
    have c00 := c0
    go_wp2_with fail
    refine (box_load_tp _ none _ c0 (.inl rfl)).mono ?_
    rintro e w5 ⟨rfl, k5⟩
    have H5 := Lib.hid k5
    clear k5 c0
    go_wp2_with fail
    have ha : Kept (fun _ => False) w5 (w5.alloc (.cells #[.pointer none, .pointer (some ⟨b, 0, none⟩)] 96)) := Kept.alloc _ _
    have hb14 := Blk.new w5 96 #[.pointer none, .pointer (some ⟨b, 0, none⟩)]
    generalize w5.alloc (.cells #[.pointer none, .pointer (some ⟨b, 0, none⟩)] 96) = w6 at *
    obtain ⟨b14, hb⟩ : ∃ x, w5.heap.size = x := ⟨_, rfl⟩
    rw [hb] at hb14 ⊢
    have H6 := Lib.hid (And.intro (H5.out.trans ha) (And.intro hb14 (And.intro hb H5.out.size)))
    clear ha hb14 hb H5
    refine (held_value_tp (some ⟨b, 0, none⟩) none (.slice none 0 0) _ (.inl ⟨rfl, rfl⟩)).mono ?_
    rintro e w7 ⟨rfl, k7⟩
    have H7 := Lib.hid k7
    clear k7
    go_wp2_with fail
    refine (among_ok (.slice none 0 0) [] name _ ⟨none, 0, rfl, Nat.le_refl _, Nat.zero_le _, fun _ => rfl, fun i hi => by simp at hi⟩).mono ?_
    rintro e w8 ⟨rfl, rfl⟩
    rw [show lookT [] name = none from rfl]
    obtain ⟨q1, q2, q3, q4⟩ := H6.out
    have hk7 := q1.trans H7.out
    have hb14 := q2.kept H7.out id
    have hne : b14 ≠ b := by have := wr.heap.size; have := HS.out; omega
    have H8 := Lib.hid (And.intro hk7 hb14)
    clear q1 q2 q3 q4 hk7 hb14 H6 H7
    go_wp2_with fail
    rename_i K0 hK0
    refine strictL ?_
    refine wp_region_held (S := Kept (fun x => x = b) w7) (by kernel_rfl) ?_
    simp only [List.size_toArray, List.length_cons, List.length_nil, Nat.reduceAdd]
    have HW1 : Hid (Kept (fun x => x = b) w7 { w7 with drawn := w7.drawn + 1 }) := Lib.hid (Kept.drew w7)
    iterate 7
      first
      | refine rdL 0 11 46 ?_
      | refine rdL 1 10 47 ?_
      | refine rdL 2 9 48 ?_
      | refine rdL 3 8 49 ?_
      | refine rdL 4 7 50 ?_
      | refine rdL 5 6 51 ?_
      | refine rdL 8 5 54 ?_
      refine ⟨_, rfl, rfl, by kernel_rfl, by kernel_rfl, by kernel_rfl, (fun c a w h => by cases h.1), rfl, HW1.out, ?_⟩
      apply Exists.intro
      refine ⟨fun wq hw => ?_, ?_⟩
      · have hb := H8.out.2.kept hw hne
        have c0 : wq.cell? ⟨b14, 0, none⟩ = some (.pointer none) := hb.cell 0
        have c1 : wq.cell? ⟨b14, 1, none⟩ = some (.pointer (some ⟨b, 0, none⟩)) := hb.cell 1
        clear hb
        go_simp
        rfl
      simp only [Act.put, List.setIfInBounds_toArray, List.set_cons_zero, List.set_cons_succ]
    have hT7 : w7.cell? ⟨b, 0, none⟩ = some (.pointer none) := cell_keep (S := fun _ => False) c00 H8.out.1 (fun z => z)
    have H9 := Lib.hid hT7
    clear hT7 c00
    have hkd : Kept (fun _ => False) w7 { w7 with drawn := w7.drawn + 1 } := Kept.drew w7
    clear HW1
    generalize ({ w7 with drawn := w7.drawn + 1 } : World) = wd at hkd ⊢
    have HY0 := Lib.hid hkd
    clear hkd
    refine wpAnyH_all (rs := [6, 9]) (fuel := 4) (by kernel_rfl) (by simp) fun i hi => ?_
    simp only [List.mem_cons, List.not_mem_nil, or_false] at hi
    rcases hi with rfl | rfl
    · refine opL rfl rfl ?_
      unfold Oper.wp
      go_simp
      refine (held_value_tp (some ⟨b, 0, none⟩) none (.slice none 0 0) _ (.inl ⟨rfl, rfl⟩)).mono ?_
      rintro e w9 ⟨rfl, k9⟩
      dsimp only
      have HY1 := Lib.hid (HY0.out.trans k9)
      have HK9 := Lib.hid k9
      clear k9
      refine ⟨HY1.out.mono fun _ _ z => z.elim, ?_⟩
      refine wpAnyH_all (rs := [7, 9]) (fuel := 3) (by kernel_rfl) (by simp) fun i hi => ?_
      simp only [List.mem_cons, List.not_mem_nil, or_false] at hi
      rcases hi with rfl | rfl
      · refine opL rfl rfl ?_
        unfold Oper.wp
        go_simp
        refine ⟨HY1.out.mono fun _ _ z => z.elim, ?_⟩
        refine wpAnyH_all (rs := [9]) (fuel := 2) (by kernel_rfl) (by simp) fun i hi => ?_
        simp only [List.mem_cons, List.not_mem_nil, or_false] at hi
        subst hi
        refine opL rfl rfl ?_
        unfold Oper.wp
        go_simp
        have hal := Kept.alloc (S := fun _ => False) w9 (.cells #[.pointer (some ⟨w.heap.size + 8, 0, none⟩)] 85)
        have hbx := Blk.new w9 85 #[.pointer (some ⟨w.heap.size + 8, 0, none⟩)]
        generalize w9.alloc (.cells #[.pointer (some ⟨w.heap.size + 8, 0, none⟩)] 85) = wa at hal hbx ⊢
        obtain ⟨xa, hxa⟩ : ∃ xa, xa = w9.heap.size := ⟨_, rfl⟩
        rw [← hxa] at hbx ⊢
        clear hxa
        have HY2 := Lib.hid (HY1.out.trans hal)
        have HX := Lib.hid hbx
        clear hal hbx
        refine ⟨HY2.out.mono fun _ _ z => z.elim, ?_⟩
        have hxc : wa.cell? ⟨xa, 0, none⟩ = some (.pointer (some ⟨w.heap.size + 8, 0, none⟩)) := HX.out.cell 0
        have HY := HY2
        generalize wa = y at hxc HY ⊢
        rename Nat => x
        obtain ⟨i0, hi0, hz0, hz1, hz2⟩ := info_parts Tryz.infoTop
        refine oneL (i := 10) (fuel := 1) (by kernel_rfl) rfl rfl fun K hK' => ?_
        refine wp_append_own y _ _ 98 rfl wr.heap.size 85 i0 (.pointer none) 1 8 Tryz.underlying98 hi0 hz0 hz1 hz2 rfl (by decide) (.slice none 0 0) 0 [] rfl (World.ownsRow_nil _ _ _ _) ⟨x, 0, none⟩ 1 1 [.pointer (some ⟨w.heap.size + 8, 0, none⟩)] rfl rfl ?_ (by simp [Value.oneCell']) (by unfold maxLen; omega) (by omega) (Nat.le_trans H8.out.1.size HY.out.size) fun v' u1 h1 h2 h3 => ?_
        · intro j u hu
          cases j with
          | zero => simp at hu; subst hu; simpa [Addr.add] using hxc
          | succ j => simp at hu
        have kyu : Kept (fun _ => False) y u1 := Kept.grown h2 (fun k hk => by cases hk)
        obtain ⟨A', c', rfl⟩ := own_slice h1
        refine hK' _ _ ((HY.out.trans kyu).mono fun _ _ z => z.elim) ?_
        clear hK' K
        have hu := HY.out.trans kyu
        have hbu := (HBB.out.kept H8.out.1 id).kept hu id
        have hbase := (own_lt1 h1 (by omega))
        have HF := Lib.hid (And.intro hu (And.intro hbu h1))
        clear kyu hu h2 h3 hxc hi0 hz0 hz1 hz2 h1
        refine oneL (i := 11) (fuel := 0) (by kernel_rfl) rfl rfl fun K hK' => ?_
        unfold Oper.wp
        go_simp
        refine (box_cas_tp ⟨b, 0, none⟩ none _ 1 c' A' u1 (HF.out.2.1.cell 0) (HF.out.2.1.frozen 0) (.inl rfl) rfl).mono ?_
        rintro e u2 ⟨rfl, kc, K1, hK1, bK1, u3, k3, hlt3, hu2⟩
        dsimp only
        have kc' : Kept (fun x => x = b) u1 u2 := kc
        have HC := Lib.hid (And.intro kc' (And.intro bK1 (And.intro k3 hu2)))
        refine hK' _ _ ((HF.out.1.mono fun _ _ z => z.elim).trans kc') ?_
        clear hK' K kc kc' bK1 k3 hu2
        refine wpAnyH_done (by kernel_rfl) ⟨rfl, ?_⟩ _
        refine hK0 _ _ ?_
        go_wp2
        go_ret
        obtain ⟨kc, bK1, k3, hu2⟩ := HC.out
        obtain ⟨hu, hbu, h1⟩ := HF.out
        have kall : Kept (fun x => x = b) w u2 := (((HKK.out.trans H8.out.1).trans hu).mono fun _ _ z => z.elim).trans kc
        have kwr : Kept (fun x => x = b) wr u2 := ((H8.out.1.trans hu).mono fun _ _ z => z.elim).trans kc
        have hT := HT.out.kept kwr (fun x e => by omega)
        obtain ⟨L, hL, hL0, hc1, hc2, hc3, cur, hc4⟩ := hbase
        have hsz1 := hu.size
        have hsz2 := H8.out.1.size
        have hsz3 := HS.out
        refine ⟨rfl, kall, hT, some ⟨K1, 0, none⟩, .slice A' 1 c', ?_, .inr ⟨K1, _, rfl, bK1⟩, ⟨A', c', rfl, ?_⟩, (fun K e => by cases e; show w.heap.size + 9 ≤ K1; omega), (fun A n c e => by rw [hL] at e; cases e; show w.heap.size + 9 ≤ L; omega)⟩
        · rw [hu2]
          exact (hbu.kept k3 id).set_ 0 _
        · refine ⟨hc1, hc2, fun e => (by rw [hL] at e; cases e), fun i hi => ?_⟩
          have hi0 : i = 0 := by simp at hi; omega
          subst hi0
          exact ⟨L, hL, cell_keep hc3 kc (fun e => by
            have e : L = b := e
            subst e
            unfold Blk at hc4 hbu
            rw [hc4] at hbu
            simp at hbu), hT.top.cell 0⟩
      · refine opL rfl rfl ?_
        unfold Oper.wp
        go_simp
        have hal := Kept.alloc (S := fun _ => False) w9 (.cells #[.pointer (some ⟨w.heap.size + 8, 0, none⟩)] 85)
        have hbx := Blk.new w9 85 #[.pointer (some ⟨w.heap.size + 8, 0, none⟩)]
        generalize w9.alloc (.cells #[.pointer (some ⟨w.heap.size + 8, 0, none⟩)] 85) = wa at hal hbx ⊢
        obtain ⟨xa, hxa⟩ : ∃ xa, xa = w9.heap.size := ⟨_, rfl⟩
        rw [← hxa] at hbx ⊢
        clear hxa
        have HY2 := Lib.hid (HY1.out.trans hal)
        have HX := Lib.hid hbx
        clear hal hbx
        refine ⟨HY2.out.mono fun _ _ z => z.elim, ?_⟩
        refine wpAnyH_all (rs := [7]) (fuel := 2) (by kernel_rfl) (by simp) fun i hi => ?_
        simp only [List.mem_cons, List.not_mem_nil, or_false] at hi
        subst hi
        refine opL rfl rfl ?_
        unfold Oper.wp
        go_simp
        refine ⟨HY2.out.mono fun _ _ z => z.elim, ?_⟩
        have hxc : wa.cell? ⟨xa, 0, none⟩ = some (.pointer (some ⟨w.heap.size + 8, 0, none⟩)) := HX.out.cell 0
        have HY := HY2
        generalize wa = y at hxc HY ⊢
        rename Nat => x
        obtain ⟨i0, hi0, hz0, hz1, hz2⟩ := info_parts Tryz.infoTop
        refine oneL (i := 10) (fuel := 1) (by kernel_rfl) rfl rfl fun K hK' => ?_
        refine wp_append_own y _ _ 98 rfl wr.heap.size 85 i0 (.pointer none) 1 8 Tryz.underlying98 hi0 hz0 hz1 hz2 rfl (by decide) (.slice none 0 0) 0 [] rfl (World.ownsRow_nil _ _ _ _) ⟨x, 0, none⟩ 1 1 [.pointer (some ⟨w.heap.size + 8, 0, none⟩)] rfl rfl ?_ (by simp [Value.oneCell']) (by unfold maxLen; omega) (by omega) (Nat.le_trans H8.out.1.size HY.out.size) fun v' u1 h1 h2 h3 => ?_
        · intro j u hu
          cases j with
          | zero => simp at hu; subst hu; simpa [Addr.add] using hxc
          | succ j => simp at hu
        have kyu : Kept (fun _ => False) y u1 := Kept.grown h2 (fun k hk => by cases hk)
        obtain ⟨A', c', rfl⟩ := own_slice h1
        refine hK' _ _ ((HY.out.trans kyu).mono fun _ _ z => z.elim) ?_
        clear hK' K
        have hu := HY.out.trans kyu
        have hbu := (HBB.out.kept H8.out.1 id).kept hu id
        have hbase := (own_lt1 h1 (by omega))
        have HF := Lib.hid (And.intro hu (And.intro hbu h1))
        clear kyu hu h2 h3 hxc hi0 hz0 hz1 hz2 h1
        refine oneL (i := 11) (fuel := 0) (by kernel_rfl) rfl rfl fun K hK' => ?_
        unfold Oper.wp
        go_simp
        refine (box_cas_tp ⟨b, 0, none⟩ none _ 1 c' A' u1 (HF.out.2.1.cell 0) (HF.out.2.1.frozen 0) (.inl rfl) rfl).mono ?_
        rintro e u2 ⟨rfl, kc, K1, hK1, bK1, u3, k3, hlt3, hu2⟩
        dsimp only
        have kc' : Kept (fun x => x = b) u1 u2 := kc
        have HC := Lib.hid (And.intro kc' (And.intro bK1 (And.intro k3 hu2)))
        refine hK' _ _ ((HF.out.1.mono fun _ _ z => z.elim).trans kc') ?_
        clear hK' K kc kc' bK1 k3 hu2
        refine wpAnyH_done (by kernel_rfl) ⟨rfl, ?_⟩ _
        refine hK0 _ _ ?_
        go_wp2
        go_ret
        obtain ⟨kc, bK1, k3, hu2⟩ := HC.out
        obtain ⟨hu, hbu, h1⟩ := HF.out
        have kall : Kept (fun x => x = b) w u2 := (((HKK.out.trans H8.out.1).trans hu).mono fun _ _ z => z.elim).trans kc
        have kwr : Kept (fun x => x = b) wr u2 := ((H8.out.1.trans hu).mono fun _ _ z => z.elim).trans kc
        have hT := HT.out.kept kwr (fun x e => by omega)
        obtain ⟨L, hL, hL0, hc1, hc2, hc3, cur, hc4⟩ := hbase
        have hsz1 := hu.size
        have hsz2 := H8.out.1.size
        have hsz3 := HS.out
        refine ⟨rfl, kall, hT, some ⟨K1, 0, none⟩, .slice A' 1 c', ?_, .inr ⟨K1, _, rfl, bK1⟩, ⟨A', c', rfl, ?_⟩, (fun K e => by cases e; show w.heap.size + 9 ≤ K1; omega), (fun A n c e => by rw [hL] at e; cases e; show w.heap.size + 9 ≤ L; omega)⟩
        · rw [hu2]
          exact (hbu.kept k3 id).set_ 0 _
        · refine ⟨hc1, hc2, fun e => (by rw [hL] at e; cases e), fun i hi => ?_⟩
          have hi0 : i = 0 := by simp at hi; omega
          subst hi0
          exact ⟨L, hL, cell_keep hc3 kc (fun e => by
            have e : L = b := e
            subst e
            unfold Blk at hc4 hbu
            rw [hc4] at hbu
            simp at hbu), hT.top.cell 0⟩
    · refine opL rfl rfl ?_
      unfold Oper.wp
      go_simp
      have hal := Kept.alloc (S := fun _ => False) wd (.cells #[.pointer (some ⟨w.heap.size + 8, 0, none⟩)] 85)
      have hbx := Blk.new wd 85 #[.pointer (some ⟨w.heap.size + 8, 0, none⟩)]
      generalize wd.alloc (.cells #[.pointer (some ⟨w.heap.size + 8, 0, none⟩)] 85) = wa at hal hbx ⊢
      obtain ⟨xa, hxa⟩ : ∃ xa, xa = wd.heap.size := ⟨_, rfl⟩
      rw [← hxa] at hbx ⊢
      clear hxa
      have HY1 := Lib.hid (HY0.out.trans hal)
      have HX := Lib.hid hbx
      clear hal hbx
      refine ⟨HY1.out.mono fun _ _ z => z.elim, ?_⟩
      refine wpAnyH_all (rs := [6]) (fuel := 3) (by kernel_rfl) (by simp) fun i hi => ?_
      simp only [List.mem_cons, List.not_mem_nil, or_false] at hi
      subst hi
      refine opL rfl rfl ?_
      unfold Oper.wp
      go_simp
      refine (held_value_tp (some ⟨b, 0, none⟩) none (.slice none 0 0) _ (.inl ⟨rfl, rfl⟩)).mono ?_
      rintro e w9 ⟨rfl, k9⟩
      dsimp only
      have HY2 := Lib.hid (HY1.out.trans k9)
      have HK9 := Lib.hid k9
      clear k9
      refine ⟨HY2.out.mono fun _ _ z => z.elim, ?_⟩
      refine wpAnyH_all (rs := [7]) (fuel := 2) (by kernel_rfl) (by simp) fun i hi => ?_
      simp only [List.mem_cons, List.not_mem_nil, or_false] at hi
      subst hi
      refine opL rfl rfl ?_
      unfold Oper.wp
      go_simp
      refine ⟨HY2.out.mono fun _ _ z => z.elim, ?_⟩
      have hxc : w9.cell? ⟨xa, 0, none⟩ = some (.pointer (some ⟨w.heap.size + 8, 0, none⟩)) := (HX.out.kept HK9.out id).cell 0
      have HY := HY2
      generalize w9 = y at hxc HY ⊢
      rename Nat => x
      obtain ⟨i0, hi0, hz0, hz1, hz2⟩ := info_parts Tryz.infoTop
      refine oneL (i := 10) (fuel := 1) (by kernel_rfl) rfl rfl fun K hK' => ?_
      refine wp_append_own y _ _ 98 rfl wr.heap.size 85 i0 (.pointer none) 1 8 Tryz.underlying98 hi0 hz0 hz1 hz2 rfl (by decide) (.slice none 0 0) 0 [] rfl (World.ownsRow_nil _ _ _ _) ⟨x, 0, none⟩ 1 1 [.pointer (some ⟨w.heap.size + 8, 0, none⟩)] rfl rfl ?_ (by simp [Value.oneCell']) (by unfold maxLen; omega) (by omega) (Nat.le_trans H8.out.1.size HY.out.size) fun v' u1 h1 h2 h3 => ?_
      · intro j u hu
        cases j with
        | zero => simp at hu; subst hu; simpa [Addr.add] using hxc
        | succ j => simp at hu
      have kyu : Kept (fun _ => False) y u1 := Kept.grown h2 (fun k hk => by cases hk)
      obtain ⟨A', c', rfl⟩ := own_slice h1
      refine hK' _ _ ((HY.out.trans kyu).mono fun _ _ z => z.elim) ?_
      clear hK' K
      have hu := HY.out.trans kyu
      have hbu := (HBB.out.kept H8.out.1 id).kept hu id
      have hbase := (own_lt1 h1 (by omega))
      have HF := Lib.hid (And.intro hu (And.intro hbu h1))
      clear kyu hu h2 h3 hxc hi0 hz0 hz1 hz2 h1
      refine oneL (i := 11) (fuel := 0) (by kernel_rfl) rfl rfl fun K hK' => ?_
      unfold Oper.wp
      go_simp
      refine (box_cas_tp ⟨b, 0, none⟩ none _ 1 c' A' u1 (HF.out.2.1.cell 0) (HF.out.2.1.frozen 0) (.inl rfl) rfl).mono ?_
      rintro e u2 ⟨rfl, kc, K1, hK1, bK1, u3, k3, hlt3, hu2⟩
      dsimp only
      have kc' : Kept (fun x => x = b) u1 u2 := kc
      have HC := Lib.hid (And.intro kc' (And.intro bK1 (And.intro k3 hu2)))
      refine hK' _ _ ((HF.out.1.mono fun _ _ z => z.elim).trans kc') ?_
      clear hK' K kc kc' bK1 k3 hu2
      refine wpAnyH_done (by kernel_rfl) ⟨rfl, ?_⟩ _
      refine hK0 _ _ ?_
      go_wp2
      go_ret
      obtain ⟨kc, bK1, k3, hu2⟩ := HC.out
      obtain ⟨hu, hbu, h1⟩ := HF.out
      have kall : Kept (fun x => x = b) w u2 := (((HKK.out.trans H8.out.1).trans hu).mono fun _ _ z => z.elim).trans kc
      have kwr : Kept (fun x => x = b) wr u2 := ((H8.out.1.trans hu).mono fun _ _ z => z.elim).trans kc
      have hT := HT.out.kept kwr (fun x e => by omega)
      obtain ⟨L, hL, hL0, hc1, hc2, hc3, cur, hc4⟩ := hbase
      have hsz1 := hu.size
      have hsz2 := H8.out.1.size
      have hsz3 := HS.out
      refine ⟨rfl, kall, hT, some ⟨K1, 0, none⟩, .slice A' 1 c', ?_, .inr ⟨K1, _, rfl, bK1⟩, ⟨A', c', rfl, ?_⟩, (fun K e => by cases e; show w.heap.size + 9 ≤ K1; omega), (fun A n c e => by rw [hL] at e; cases e; show w.heap.size + 9 ≤ L; omega)⟩
      · rw [hu2]
        exact (hbu.kept k3 id).set_ 0 _
      · refine ⟨hc1, hc2, fun e => (by rw [hL] at e; cases e), fun i hi => ?_⟩
        have hi0 : i = 0 := by simp at hi; omega
        subst hi0
        exact ⟨L, hL, cell_keep hc3 kc (fun e => by
          have e : L = b := e
          subst e
          unfold Blk at hc4 hbu
          rw [hc4] at hbu
          simp at hbu), hT.top.cell 0⟩
end Go.Proofs.YtbmjmamodnapiaaGreatDoor
