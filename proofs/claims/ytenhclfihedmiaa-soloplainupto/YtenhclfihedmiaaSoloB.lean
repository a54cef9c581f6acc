/- DERIVED. The ring with one writer (package solo), walked without a Stepper: Batch, State. Conditions: its blocks are whole. -/
import Derived.Test.YtenhclfihedmiaaSolo
namespace Go.Proofs.Ytenhclfihedmiaa
open Go.RowKit
theorem Try.intInfo : (Try.prog.info? 2).map (fun i => (i.zero, i.size, i.bytes)) = some (some (.int .i64 0), 1, 8) := by kernel_rfl
theorem solo_batch_empty (X : Stepper) (t : Nat) (w : World) (I : Ids) (S : SoloSt) (W : Walks X I) (H : SoloAt w I S) (A : X.at_ t w) (j : Nat) (mo : Int) (hj : j < I.k) (he : S.cursor ≤ S.place j) :
    Calls Try.prog 10 #[.pointer (some ⟨I.so, 0, none⟩), X.v, .int .i64 j, .int .i64 mo] w fun e w' => e = .returned (.tuple #[.slice none 0 0, .int .i64 4]) ∧ Kept X.own w w' ∧ w'.heap.size = w.heap.size ∧ X.at_ (t + 1) w' := by
  have hm := H.most
  have hc6 := H.solo.cell 6
  have hp := H.places.cell j hj
  simp only [soloCells] at hc6
  have hj' : (j : Int) < I.k := by omega
  have HH := Lib.hid H
  have HA := Lib.hid A
  clear H A
  go_enter Try.func10, Try.ntmps10
  go_wp2_with (go_at_call 8; refine (solo_readers _ _ _ HH.out).mono ?_; rintro e w' ⟨rfl, rfl⟩)
  refine (W.s2 _ _ HA.out).mono ?_
  rintro e w1 ⟨rfl, a1, k1, z1⟩
  have H1 := HH.out.stepped W k1
  have hc1 := H1.solo.cell 1
  simp only [soloCells] at hc1
  go_wp2_with fail
  refine (atomic_load _ _ _ hc1).mono ?_
  rintro e w' ⟨rfl, rfl⟩
  have Z := Lib.hid (And.intro z1 a1)
  clear z1 a1 H1 hc1 hc6 hp
  go_wp2
  go_ret2
  exact ⟨rfl, k1, Z.out.1, Z.out.2⟩
def valsN (S : SoloSt) (n : Nat) (p : Int) (m : Nat) : List Value := (List.range m).map fun (i : Nat) => .int .i64 (S.va ((p + 1 + (i : Int)) % (n : Int)).toNat)
theorem valsN_succ (S : SoloSt) (n : Nat) (p : Int) (m : Nat) : valsN S n p (m + 1) = valsN S n p m ++ [.int .i64 (S.va ((p + 1 + (m : Int)) % (n : Int)).toNat)] := by
  simp [valsN, List.range_succ]
def readS (S : SoloSt) (j m : Nat) : SoloSt := { S with num := upd S.num j (S.place j + m), place := upd S.place j (S.place j + m) }
theorem SoloAt.setNum {w : World} {I : Ids} {S : SoloSt} (H : SoloAt w I S) (j : Nat) (hj : j < I.k) (x : Int) : SoloAt (w.setCell ⟨I.nb, j, none⟩ (.int .i64 x)) I { S with num := upd S.num j x } :=
  ⟨H.solo.far H.d1.2.2.1 _, H.ring.far H.d2.2.1 H.d3.1 _, H.nums.set hj x, H.places.far (fun e => H.d3.2.2 e.symm) _, H.most, H.d1, H.d2, H.d3⟩
theorem SoloAt.setPlace {w : World} {I : Ids} {S : SoloSt} (H : SoloAt w I S) (j : Nat) (hj : j < I.k) (x : Int) : SoloAt (w.setCell ⟨I.pb, j, none⟩ (.int .i64 x)) I { S with place := upd S.place j x } :=
  ⟨H.solo.far H.d1.2.2.2 _, H.ring.far H.d2.2.2 H.d3.2.1 _, H.nums.far H.d3.2.2 _, H.places.set hj x, H.most, H.d1, H.d2, H.d3⟩
def BatchPost (X : Stepper) (t : Nat) (w : World) (I : Ids) (S : SoloSt) (j m : Nat) (e : Ending) (w' : World) : Prop :=
  ∃ v, e = .returned (.tuple #[v, .int .i64 0]) ∧ w'.ownsRow w.heap.size 2 1 v m (valsN S I.n (S.place j) m) ∧ SoloAt w' I (readS S j m) ∧ Kept (fun b => b = I.nb ∨ b = I.pb ∨ X.own b) w w' ∧ X.at_ (t + 3 * m + 2) w'
theorem solo_batch (X : Stepper) (t : Nat) (w : World) (I : Ids) (S : SoloSt) (W : Walks X I) (H : SoloAt w I S) (A : X.at_ t w) (j m : Nat) (mo : Int) (hj : j < I.k) (hm : 0 < m) (h1 : -1 ≤ S.place j) (h2 : S.place j + m ≤ S.cursor) (h3 : S.cursor < 4611686018427387904) (h4 : (m : Int) ≤ I.n)
    (hmo : m ≤ max mo 1) (hend : S.place j + m = S.cursor ∨ max mo 1 = m) (hst : ∀ i, i < m → S.st ((S.place j + 1 + i) % I.n).toNat = 2 * ((S.place j + 1 + i) / I.n)) :
    Calls Try.prog 10 #[.pointer (some ⟨I.so, 0, none⟩), X.v, .int .i64 j, .int .i64 mo] w (BatchPost X t w I S j m) := by
  have hk := H.most
  have hn := H.ring.most
  have hc6 := H.solo.cell 6
  have hp := H.places.cell j hj
  simp only [soloCells] at hc6
  have hj' : (j : Int) < I.k := by omega
  have HOLD := Lib.hid (fun (b : Nat) (h : X.own b) => X.old A h)
  have HH := Lib.hid H
  have HA := Lib.hid A
  have HST := Lib.hid hst
  have HE := Lib.hid hend
  have HM := Lib.hid hmo
  obtain ⟨i0, hi0, hz0, hz1, hz2'⟩ := info_parts Try.intInfo
  clear H hst hend hmo A
  by_cases hmo1 : mo < 1
  · go_enter Try.func10, Try.ntmps10
    go_wp2_with (go_at_call 8; refine (solo_readers _ _ _ HH.out).mono ?_; rintro e w' ⟨rfl, rfl⟩)
    refine (W.s2 _ _ HA.out).mono ?_
    rintro e w1 ⟨rfl, a1, k1, z1⟩
    have H1 := HH.out.stepped W k1
    have hc1 := H1.solo.cell 1
    simp only [soloCells] at hc1
    go_wp2_with fail
    refine (atomic_load _ _ _ hc1).mono ?_
    rintro e w' ⟨rfl, rfl⟩
    have ZA := Lib.hid (And.intro k1 (And.intro z1 a1))
    clear z1 a1 k1 H1 hc1 hp hc6
    go_wp2_with fail
    go_loopw [12, 13] (fun o q wr => ∃ i : Nat, i ≤ m ∧ q = .int .i64 (S.place j + 1 + i) ∧ wr.ownsRow w.heap.size 2 1 o i (valsN S I.n (S.place j) i) ∧ Kept X.own w wr ∧ X.at_ (t + 1 + 3 * i) wr) (fun _ q _ => (S.place j + 1 + m - intOf q).toNat)
    case atStart => exact ⟨0, Nat.zero_le _, by simp, ⟨by simp [valsN], .inl ⟨rfl, rfl⟩⟩, ZA.out.1, ZA.out.2.2⟩
    case round =>
      obtain ⟨i, hi, rfl, hown, hkr, har⟩ := hrel
      obtain ⟨A, cap, rfl⟩ := own_slice hown
      have HO := Lib.hid hown
      have HR := Lib.hid (HH.out.stepped W hkr)
      have hsz := hkr.size
      have HKR := Lib.hid hkr
      have HAR := Lib.hid har
      have hi63 : i ≤ 65536 := by omega
      clear hown hkr har
      have hr0 : wr.cell? ⟨I.so, 0, none⟩ = some (.pointer (some ⟨I.rb, 0, none⟩)) := HR.out.solo.cell 0
      by_cases hlt : i < m
      · have hx : S.place j + 1 + i ≤ S.cursor := by omega
        have hx0 : 0 ≤ S.place j + 1 + i := by omega
        have hx1 : (i : Int) < 1 ∨ (i : Int) < mo := by have := HM.out; omega
        have hx2 : (i : Int) < 1 := by omega
        clear hx1
        go_wp2_with fail
        refine (get_ok X W.s1 _ _ _ _ _ _ _ _ HR.out.ring hx0 (by omega) (HST.out i hlt) HAR.out W.rb W.gb).mono ?_
        rintro e w2 ⟨rfl, k2, z2, a2⟩
        have HO1 : w2.ownsRow w.heap.size 2 1 (.slice A i cap) i (valsN S I.n (S.place j) i) := own_kept HO.out k2 (fun b hb hx => by have := HOLD.out b hx; omega)
        have hk2 := HKR.out.trans k2
        have hz2 := hk2.size
        have HA2 := Lib.hid a2
        have HK2 := Lib.hid hk2
        clear k2 z2 a2 hk2
        go_wp2_with (at_builtin; refine wpList_append_own _ rfl _ _ 29 rfl w.heap.size 2 i0 (.int .i64 0) 1 8 Try.underlying29 hi0 hz0 hz1 hz2' rfl (by decide) _ _ _ rfl (HO1.alloc _) ⟨w2.heap.size, 0, none⟩ 1 1 [.int .i64 (S.va ((S.place j + 1 + i) % (I.n : Int)).toNat)] rfl rfl ?c1 ?c2 ?c3 ?c4 ?c5 ?_)
        case c1 => exact cell_one_new _ _ _
        case c2 => simp [Value.oneCell']
        case c3 => unfold maxLen; omega
        case c4 => omega
        case c5 => simp; omega
        intro v' w3 hown1 hg1 _
        have ho1 : w3.ownsRow w.heap.size 2 1 v' (i + 1) (valsN S I.n (S.place j) (i + 1)) := by rw [valsN_succ]; exact hown1
        have hk3 : Kept (fun b => w.heap.size ≤ b) w2 w3 := (Kept.alloc _ _).trans (Kept.grown hg1 (fun k hk => (HO1.lt k hk).1))
        have HO2 := Lib.hid (And.intro ho1 (And.intro (X.keep HA2.out hk3 (fun b hb hx => by have := HOLD.out b hb; omega)) (HK2.out.later hk3 (fun b hb => hb))))
        clear hown1 hg1 ho1 hk3
        go_wp2
        go_roundw
        case rel => exact ⟨i + 1, by omega, by congr 1; omega, HO2.out.1, HO2.out.2.2, HO2.out.2.1⟩
        case measure => simp [intOf]; omega
      · obtain rfl : i = m := by omega
        have hq := HE.out
        by_cases hx : S.place j + 1 + i ≤ S.cursor
        all_goals
          have hx1 : S.place j + 1 + i ≤ S.cursor → ¬ (i : Int) < 1 := fun h => by omega
          clear hq
          try replace hx1 := hx1 hx
          go_wp2_with fail
          refine (W.s2 _ _ HAR.out).mono ?_
          rintro e w2 ⟨rfl, a2, k2, z2⟩
          have HR2 := Lib.hid (HR.out.stepped W k2)
          have hr2 : w2.cell? ⟨I.so, 2, none⟩ = some (.slice (some ⟨I.nb, 0, none⟩) I.k I.k) := HR2.out.solo.cell 2
          have HO1 : w2.ownsRow w.heap.size 2 1 (.slice A i cap) i (valsN S I.n (S.place j) i) := own_kept HO.out k2 (fun b hb hx => by have := HOLD.out b hx; omega)
          have HOO := Lib.hid HO1
          have HA2 := Lib.hid a2
          have HK2 := Lib.hid (HKR.out.trans k2)
          clear a2 k2 z2 HO1 hr0
          go_wp2_with fail
          refine (atomic_store _ _ _ _ (HR2.out.nums.cell j hj) (HR2.out.nums.free _)).mono ?_
          rintro e w' ⟨rfl, rfl⟩
          have H1 := HR2.out.setNum j hj (S.place j + i)
          have H2 := H1.setPlace j hj (S.place j + i)
          have hr6 : (w2.setCell ⟨I.nb, j, none⟩ (.int .i64 (S.place j + i))).cell? ⟨I.so, 6, none⟩ = some (.slice (some ⟨I.pb, 0, none⟩) I.k I.k) := H1.solo.cell 6
          have hpj := H1.places.cell j hj
          have hpf := H1.places.free j
          have HX := Lib.hid H2
          clear H1 H2 hr2
          go_wp2
          go_ret2
          refine ⟨_, rfl, ?_, HX.out, ?_, ?_⟩
          · refine ownsRow_setCell_below (ownsRow_setCell_below HOO.out ?_ _) ?_ _
            · exact HH.out.nums.lt
            · exact HH.out.places.lt
          · exact (HK2.out.mono (fun _ _ e => .inr (.inr e))).trans ((Kept.setCell _ (.inl rfl) _).trans (Kept.setCell _ (.inr (.inl rfl)) _))
          · have e : t + 3 * i + 2 = t + 1 + 3 * i + 1 := by omega
            rw [e]
            exact X.keep HA2.out ((Kept.setCell (S := fun b => b = I.nb ∨ b = I.pb) _ (.inl rfl) _).trans (Kept.setCell (S := fun b => b = I.nb ∨ b = I.pb) _ (.inr rfl) _)) (fun b h e => e.elim (fun e => W.nb (e ▸ h)) (fun e => W.pb (e ▸ h)))
  · go_enter Try.func10, Try.ntmps10
    go_wp2_with (go_at_call 8; refine (solo_readers _ _ _ HH.out).mono ?_; rintro e w' ⟨rfl, rfl⟩)
    refine (W.s2 _ _ HA.out).mono ?_
    rintro e w1 ⟨rfl, a1, k1, z1⟩
    have H1 := HH.out.stepped W k1
    have hc1 := H1.solo.cell 1
    simp only [soloCells] at hc1
    go_wp2_with fail
    refine (atomic_load _ _ _ hc1).mono ?_
    rintro e w' ⟨rfl, rfl⟩
    have ZA := Lib.hid (And.intro k1 (And.intro z1 a1))
    clear z1 a1 k1 H1 hc1 hp hc6
    go_wp2_with fail
    go_loopw [12, 13] (fun o q wr => ∃ i : Nat, i ≤ m ∧ q = .int .i64 (S.place j + 1 + i) ∧ wr.ownsRow w.heap.size 2 1 o i (valsN S I.n (S.place j) i) ∧ Kept X.own w wr ∧ X.at_ (t + 1 + 3 * i) wr) (fun _ q _ => (S.place j + 1 + m - intOf q).toNat)
    case atStart => exact ⟨0, Nat.zero_le _, by simp, ⟨by simp [valsN], .inl ⟨rfl, rfl⟩⟩, ZA.out.1, ZA.out.2.2⟩
    case round =>
      obtain ⟨i, hi, rfl, hown, hkr, har⟩ := hrel
      obtain ⟨A, cap, rfl⟩ := own_slice hown
      have HO := Lib.hid hown
      have HR := Lib.hid (HH.out.stepped W hkr)
      have hsz := hkr.size
      have HKR := Lib.hid hkr
      have HAR := Lib.hid har
      have hi63 : i ≤ 65536 := by omega
      clear hown hkr har
      have hr0 : wr.cell? ⟨I.so, 0, none⟩ = some (.pointer (some ⟨I.rb, 0, none⟩)) := HR.out.solo.cell 0
      by_cases hlt : i < m
      · have hx : S.place j + 1 + i ≤ S.cursor := by omega
        have hx0 : 0 ≤ S.place j + 1 + i := by omega
        have hx1 : (i : Int) < 1 ∨ (i : Int) < mo := by have := HM.out; omega
        have hx2 : (i : Int) < mo := by omega
        clear hx1
        go_wp2_with fail
        refine (get_ok X W.s1 _ _ _ _ _ _ _ _ HR.out.ring hx0 (by omega) (HST.out i hlt) HAR.out W.rb W.gb).mono ?_
        rintro e w2 ⟨rfl, k2, z2, a2⟩
        have HO1 : w2.ownsRow w.heap.size 2 1 (.slice A i cap) i (valsN S I.n (S.place j) i) := own_kept HO.out k2 (fun b hb hx => by have := HOLD.out b hx; omega)
        have hk2 := HKR.out.trans k2
        have hz2 := hk2.size
        have HA2 := Lib.hid a2
        have HK2 := Lib.hid hk2
        clear k2 z2 a2 hk2
        go_wp2_with (at_builtin; refine wpList_append_own _ rfl _ _ 29 rfl w.heap.size 2 i0 (.int .i64 0) 1 8 Try.underlying29 hi0 hz0 hz1 hz2' rfl (by decide) _ _ _ rfl (HO1.alloc _) ⟨w2.heap.size, 0, none⟩ 1 1 [.int .i64 (S.va ((S.place j + 1 + i) % (I.n : Int)).toNat)] rfl rfl ?c1 ?c2 ?c3 ?c4 ?c5 ?_)
        case c1 => exact cell_one_new _ _ _
        case c2 => simp [Value.oneCell']
        case c3 => unfold maxLen; omega
        case c4 => omega
        case c5 => simp; omega
        intro v' w3 hown1 hg1 _
        have ho1 : w3.ownsRow w.heap.size 2 1 v' (i + 1) (valsN S I.n (S.place j) (i + 1)) := by rw [valsN_succ]; exact hown1
        have hk3 : Kept (fun b => w.heap.size ≤ b) w2 w3 := (Kept.alloc _ _).trans (Kept.grown hg1 (fun k hk => (HO1.lt k hk).1))
        have HO2 := Lib.hid (And.intro ho1 (And.intro (X.keep HA2.out hk3 (fun b hb hx => by have := HOLD.out b hb; omega)) (HK2.out.later hk3 (fun b hb => hb))))
        clear hown1 hg1 ho1 hk3
        go_wp2
        go_roundw
        case rel => exact ⟨i + 1, by omega, by congr 1; omega, HO2.out.1, HO2.out.2.2, HO2.out.2.1⟩
        case measure => simp [intOf]; omega
      · obtain rfl : i = m := by omega
        have hq := HE.out
        by_cases hx : S.place j + 1 + i ≤ S.cursor
        all_goals
          have hx1 : S.place j + 1 + i ≤ S.cursor → ¬ (i : Int) < mo := fun h => by omega
          clear hq
          try replace hx1 := hx1 hx
          go_wp2_with fail
          refine (W.s2 _ _ HAR.out).mono ?_
          rintro e w2 ⟨rfl, a2, k2, z2⟩
          have HR2 := Lib.hid (HR.out.stepped W k2)
          have hr2 : w2.cell? ⟨I.so, 2, none⟩ = some (.slice (some ⟨I.nb, 0, none⟩) I.k I.k) := HR2.out.solo.cell 2
          have HO1 : w2.ownsRow w.heap.size 2 1 (.slice A i cap) i (valsN S I.n (S.place j) i) := own_kept HO.out k2 (fun b hb hx => by have := HOLD.out b hx; omega)
          have HOO := Lib.hid HO1
          have HA2 := Lib.hid a2
          have HK2 := Lib.hid (HKR.out.trans k2)
          clear a2 k2 z2 HO1 hr0
          go_wp2_with fail
          refine (atomic_store _ _ _ _ (HR2.out.nums.cell j hj) (HR2.out.nums.free _)).mono ?_
          rintro e w' ⟨rfl, rfl⟩
          have H1 := HR2.out.setNum j hj (S.place j + i)
          have H2 := H1.setPlace j hj (S.place j + i)
          have hr6 : (w2.setCell ⟨I.nb, j, none⟩ (.int .i64 (S.place j + i))).cell? ⟨I.so, 6, none⟩ = some (.slice (some ⟨I.pb, 0, none⟩) I.k I.k) := H1.solo.cell 6
          have hpj := H1.places.cell j hj
          have hpf := H1.places.free j
          have HX := Lib.hid H2
          clear H1 H2 hr2
          go_wp2
          go_ret2
          refine ⟨_, rfl, ?_, HX.out, ?_, ?_⟩
          · refine ownsRow_setCell_below (ownsRow_setCell_below HOO.out ?_ _) ?_ _
            · exact HH.out.nums.lt
            · exact HH.out.places.lt
          · exact (HK2.out.mono (fun _ _ e => .inr (.inr e))).trans ((Kept.setCell _ (.inl rfl) _).trans (Kept.setCell _ (.inr (.inl rfl)) _))
          · have e : t + 3 * i + 2 = t + 1 + 3 * i + 1 := by omega
            rw [e]
            exact X.keep HA2.out ((Kept.setCell (S := fun b => b = I.nb ∨ b = I.pb) _ (.inl rfl) _).trans (Kept.setCell (S := fun b => b = I.nb ∨ b = I.pb) _ (.inr rfl) _)) (fun b h e => e.elim (fun e => W.nb (e ▸ h)) (fun e => W.pb (e ▸ h)))
end Go.Proofs.Ytenhclfihedmiaa
