/- DERIVED. The ring with one writer (package solo): New, State, Read, walked; the document's SameNumbers. Conditions: sizes that are powers of two up to 65536, up to 64 readers. -/
import Derived.Test.YtenhclfihedmiaaSoloB
namespace Go.Proofs.Ytenhclfihedmiaa
open Go.RowKit

theorem Try.atomInfo : (Try.prog.info? 53).map (fun i => (i.zero, i.size, i.bytes)) = some (some (.agg #[.int .i64 0]), 1, 8) := by kernel_rfl
def soloZero : SoloSt := { next := 0, cached := -1, published := -1, cursor := -1, num := fun _ => -1, place := fun _ => -1, st := fun _ => -2, va := fun _ => 0 }
theorem made_one (k j : Nat) (h : j < k) : (madeCells #[.int .i64 0] k)[j]? = some (.int .i64 0) := by
  unfold madeCells
  rw [Array.getElem?_map, Array.getElem?_range, if_pos h]
  simp [Nat.mod_one]
def zeroS (c : Int) (j : Nat) : SoloSt := { soloZero with cursor := c, num := fun i => if i < j then -1 else 0, place := fun i => if i < j then -1 else 0 }
theorem nums_made {w w' : World} {b k : Nat} {t : TypeId} (H : Blk w b t (madeCells #[.int .i64 0] k)) (hk : Kept (fun _ => False) w w') : NumsAt w' b k (fun i => if i < 0 then -1 else 0) where
  cell := fun i hi => by
    have := (H.kept hk id).cell i
    rw [made_one k i hi] at this
    simpa using this
  free := fun i => (H.kept hk id).frozen i
  lt := (H.kept hk id).lt
def madeW1 (w1 : World) (rb k : Nat) : World := (((w1.alloc (.cells (madeCells #[.int .i64 0] k) 53)).alloc (.cells (madeCells #[.int .i64 0] k) 2)).alloc
    (.cells #[.pointer (some ⟨rb, 0, none⟩), .int .i64 0, .slice (some ⟨w1.heap.size, 0, none⟩) k k, .int .i64 0, .int .i64 (-1), .int .i64 (-1), .slice (some ⟨w1.heap.size + 1, 0, none⟩) k k] 56)).drew
theorem solo_made1 {w1 : World} {rb gb n k : Nat} (H : RingAt w1 rb gb n (fun _ => -2) (fun _ => 0)) (hk : k ≤ 64) : SoloAt (madeW1 w1 rb k)
    ⟨w1.heap.size + 1 + 1, rb, gb, w1.heap.size, w1.heap.size + 1, n, k⟩ (zeroS 0 0) := by
  have b1 := Blk.new w1 53 (madeCells #[.int .i64 0] k)
  have b2 := Blk.new (w1.alloc (.cells (madeCells #[.int .i64 0] k) 53)) 2 (madeCells #[.int .i64 0] k)
  have b3 := Blk.new ((w1.alloc (.cells (madeCells #[.int .i64 0] k) 53)).alloc (.cells (madeCells #[.int .i64 0] k) 2)) 56 #[.pointer (some ⟨rb, 0, none⟩), .int .i64 0, .slice (some ⟨w1.heap.size, 0, none⟩) k k, .int .i64 0, .int .i64 (-1), .int .i64 (-1), .slice (some ⟨w1.heap.size + 1, 0, none⟩) k k]
  simp only [World.size_alloc] at b2 b3
  have h1 := H.rlt
  have h2 := H.glt
  exact { solo := b3.drew, ring := H.kept (S := fun _ => False) ((((Kept.alloc _ _).trans (Kept.alloc _ _)).trans (Kept.alloc _ _)).trans (Kept.drew _)) id id, nums := nums_made b1 (((Kept.alloc _ _).trans (Kept.alloc _ _)).trans (Kept.drew _)), places := nums_made b2 ((Kept.alloc _ _).trans (Kept.drew _)), most := hk, d1 := ⟨(by dsimp only; omega), (by dsimp only; omega), (by dsimp only; omega), (by dsimp only; omega)⟩, d2 := ⟨H.ne, (by dsimp only; omega), (by dsimp only; omega)⟩, d3 := ⟨(by dsimp only; omega), (by dsimp only; omega), (by dsimp only; omega)⟩ }
def madeW2 (w1 : World) (rb k : Nat) : World := (((w1.alloc (.cells (madeCells #[.int .i64 0] k) 2)).alloc (.cells (madeCells #[.int .i64 0] k) 53)).alloc
    (.cells #[.pointer (some ⟨rb, 0, none⟩), .int .i64 0, .slice (some ⟨w1.heap.size + 1, 0, none⟩) k k, .int .i64 0, .int .i64 (-1), .int .i64 (-1), .slice (some ⟨w1.heap.size, 0, none⟩) k k] 56)).drew
theorem solo_made2 {w1 : World} {rb gb n k : Nat} (H : RingAt w1 rb gb n (fun _ => -2) (fun _ => 0)) (hk : k ≤ 64) : SoloAt (madeW2 w1 rb k)
    ⟨w1.heap.size + 1 + 1, rb, gb, w1.heap.size + 1, w1.heap.size, n, k⟩ (zeroS 0 0) := by
  have b1 := Blk.new w1 2 (madeCells #[.int .i64 0] k)
  have b2 := Blk.new (w1.alloc (.cells (madeCells #[.int .i64 0] k) 2)) 53 (madeCells #[.int .i64 0] k)
  have b3 := Blk.new ((w1.alloc (.cells (madeCells #[.int .i64 0] k) 2)).alloc (.cells (madeCells #[.int .i64 0] k) 53)) 56 #[.pointer (some ⟨rb, 0, none⟩), .int .i64 0, .slice (some ⟨w1.heap.size + 1, 0, none⟩) k k, .int .i64 0, .int .i64 (-1), .int .i64 (-1), .slice (some ⟨w1.heap.size, 0, none⟩) k k]
  simp only [World.size_alloc] at b2 b3
  have h1 := H.rlt
  have h2 := H.glt
  exact { solo := b3.drew, ring := H.kept (S := fun _ => False) ((((Kept.alloc _ _).trans (Kept.alloc _ _)).trans (Kept.alloc _ _)).trans (Kept.drew _)) id id, nums := nums_made b2 ((Kept.alloc _ _).trans (Kept.drew _)), places := nums_made b1 (((Kept.alloc _ _).trans (Kept.alloc _ _)).trans (Kept.drew _)), most := hk, d1 := ⟨(by dsimp only; omega), (by dsimp only; omega), (by dsimp only; omega), (by dsimp only; omega)⟩, d2 := ⟨H.ne, (by dsimp only; omega), (by dsimp only; omega)⟩, d3 := ⟨(by dsimp only; omega), (by dsimp only; omega), (by dsimp only; omega)⟩ }
def NewPost (w : World) (n k : Nat) (e : Ending) (w' : World) : Prop :=
  ∃ I : Ids, I.n = n ∧ I.k = k ∧ w.heap.size ≤ I.so ∧ w.heap.size ≤ I.rb ∧ w.heap.size ≤ I.gb ∧ w.heap.size ≤ I.nb ∧ w.heap.size ≤ I.pb ∧
    e = .returned (.tuple #[.pointer (some ⟨I.so, 0, none⟩), .int .i64 0]) ∧ SoloAt w' I soloZero ∧ Below w.heap.size w w'
theorem solo_new (n k : Nat) (w : World) (hn : 0 < n) (h2 : n ≤ 65536) (hk : k ≤ 64) (hb : (bits BinOp.and IntKind.i64 (n : Int) ((n : Int) - 1) != 0) = false) : Calls Try.prog 6 #[.int .i64 n, .int .i64 k] w (NewPost w n k) := by
  obtain ⟨i0, hi, hz0, hz1, hz2⟩ := info_parts Try.intInfo
  obtain ⟨i1, hj, hy0, hy1, hy2⟩ := info_parts Try.atomInfo
  have hmk0 := fun wx => run_make (P := Try.prog) wx 29 2 i0 _ Try.underlying29 hi hz0 .i64 .i64 k k (by omega) (by omega) (by rw [hz2]; omega) (by omega)
  have hmk1 := fun wx => run_make (P := Try.prog) wx 54 53 i1 _ Try.underlying54 hj hy0 .i64 .i64 k k (by omega) (by omega) (by rw [hy2]; omega) (by omega)
  simp only [Int.toNat_natCast, hz1, hy1, Value.cells, Nat.mul_one] at hmk0 hmk1
  have hk' : (k : Int) ≤ 64 := by omega
  clear hi hz0 hz1 hz2 hj hy0 hy1 hy2
  go_enter Try.func6, Try.ntmps6
  go_wp2_with fail
  refine (new_ok n w hn h2 hb).mono ?_
  rintro e w1 ⟨rfl, HR, hbel, hsz⟩
  have HH := Lib.hid (And.intro HR (And.intro hbel hsz))
  clear HR hbel hsz
  go_wp2_with fail
  have hz2 : w.heap.size + 2 ≤ w1.heap.size := Nat.le_of_eq HH.out.2.2.symm
  have HB0 : Below w.heap.size w (madeW1 w1 (w.heap.size + 1) k) := (((HH.out.2.1.alloc HH.out.2.1.size _).alloc (by simp; omega) _).alloc (by simp; omega) _).drew
  have HB2 : Below w.heap.size w (madeW2 w1 (w.heap.size + 1) k) := (((HH.out.2.1.alloc HH.out.2.1.size _).alloc (by simp; omega) _).alloc (by simp; omega) _).drew
  have HB1 := Lib.hid HB0
  have HB3 := Lib.hid HB2
  clear HB0 HB2
  go_region
  · go_wp2_with fail
    have HM := Lib.hid (solo_made1 HH.out.1 hk)
    have HB := HB1
    show Calls Try.prog 19 _ (madeW1 w1 (w.heap.size + 1) k) _
    generalize madeW1 w1 (w.heap.size + 1) k = w2 at HM HB ⊢
    clear HB1 HB3
    have hc := HM.out.solo.cell 1
    have hf := HM.out.solo.frozen 1
    refine (atomic_store _ _ _ _ hc hf).mono ?_
    rintro e w' ⟨rfl, rfl⟩
    have H1 := Lib.hid (show SoloAt _ _ (zeroS (-1) 0) from HM.out.own (i := 1) (u := .int .i64 (-1)) (by simp [soloCells, zeroS, soloZero]) rfl rfl rfl rfl)
    have HB1 := Lib.hid (HB.out.setCell (p := ⟨w1.heap.size + 1 + 1, 1, none⟩) (by show w.heap.size ≤ w1.heap.size + 1 + 1; omega) (.int .i64 (-1)))
    go_wp2_with fail
    go_loopw [37] (fun i wr => ∃ j : Nat, j ≤ k ∧ i = .int .i64 j ∧ SoloAt wr ⟨w1.heap.size + 1 + 1, w.heap.size + 1, w.heap.size, w1.heap.size, w1.heap.size + 1, n, k⟩ (zeroS (-1) j) ∧ Below w.heap.size w wr) (fun i _ => k - (intOf i).toNat)
    case atStart => exact ⟨0, Nat.zero_le _, rfl, H1.out, HB1.out⟩
    case round =>
      obtain ⟨j, hj, rfl, Hr, hb⟩ := hrel
      have c2 := Hr.solo.cell 2
      have HR := Lib.hid Hr
      have HBR := Lib.hid hb
      simp only [soloCells] at c2
      clear Hr hb hc hf
      by_cases hlt : j < k
      · go_wp2_with fail
        refine (atomic_store _ _ _ _ (HR.out.nums.cell j hlt) (HR.out.nums.free _)).mono ?_
        rintro e w' ⟨rfl, rfl⟩
        have H3 := HR.out.setNum j hlt (-1)
        have H4 := H3.setPlace j hlt (-1)
        have c6 := H3.solo.cell 6
        have cp := H3.places.cell j hlt
        have fp := H3.places.free j
        simp only [soloCells] at c6
        have HX := Lib.hid H4
        clear H3 H4 c2
        go_wp2
        go_roundw
        case rel =>
          refine ⟨j + 1, by omega, by go_num, ?_, (HBR.out.setCell (by dsimp only; omega) _).setCell (by dsimp only; omega) _⟩
          have e : zeroS (-1) (j + 1) = { zeroS (-1) j with num := upd (zeroS (-1) j).num j (-1), place := upd (zeroS (-1) j).place j (-1) } := by simp only [zeroS, fill_succ]
          rw [e]
          exact HX.out
        case measure => simp [intOf]; omega
      · go_wp2
        go_ret2
        obtain rfl : k = j := by omega
        refine ⟨⟨w1.heap.size + 1 + 1, w.heap.size + 1, w.heap.size, w1.heap.size, w1.heap.size + 1, n, k⟩, rfl, rfl, (by dsimp only; omega), (by dsimp only; omega), (by dsimp only; omega), (by dsimp only; omega), (by dsimp only; omega), rfl, ?_, HBR.out⟩
        exact ⟨HR.out.solo, HR.out.ring, ⟨fun i hi => by rw [HR.out.nums.cell i hi]; simp [zeroS, soloZero]; omega, HR.out.nums.free, HR.out.nums.lt⟩, ⟨fun i hi => by rw [HR.out.places.cell i hi]; simp [zeroS, soloZero]; omega, HR.out.places.free, HR.out.places.lt⟩, HR.out.most, HR.out.d1, HR.out.d2, HR.out.d3⟩
  · go_wp2_with fail
    have HM := Lib.hid (solo_made2 HH.out.1 hk)
    have HB := HB3
    show Calls Try.prog 19 _ (madeW2 w1 (w.heap.size + 1) k) _
    generalize madeW2 w1 (w.heap.size + 1) k = w2 at HM HB ⊢
    clear HB1 HB3
    have hc := HM.out.solo.cell 1
    have hf := HM.out.solo.frozen 1
    refine (atomic_store _ _ _ _ hc hf).mono ?_
    rintro e w' ⟨rfl, rfl⟩
    have H1 := Lib.hid (show SoloAt _ _ (zeroS (-1) 0) from HM.out.own (i := 1) (u := .int .i64 (-1)) (by simp [soloCells, zeroS, soloZero]) rfl rfl rfl rfl)
    have HB1 := Lib.hid (HB.out.setCell (p := ⟨w1.heap.size + 1 + 1, 1, none⟩) (by show w.heap.size ≤ w1.heap.size + 1 + 1; omega) (.int .i64 (-1)))
    go_wp2_with fail
    go_loopw [37] (fun i wr => ∃ j : Nat, j ≤ k ∧ i = .int .i64 j ∧ SoloAt wr ⟨w1.heap.size + 1 + 1, w.heap.size + 1, w.heap.size, w1.heap.size + 1, w1.heap.size, n, k⟩ (zeroS (-1) j) ∧ Below w.heap.size w wr) (fun i _ => k - (intOf i).toNat)
    case atStart => exact ⟨0, Nat.zero_le _, rfl, H1.out, HB1.out⟩
    case round =>
      obtain ⟨j, hj, rfl, Hr, hb⟩ := hrel
      have c2 := Hr.solo.cell 2
      have HR := Lib.hid Hr
      have HBR := Lib.hid hb
      simp only [soloCells] at c2
      clear Hr hb hc hf
      by_cases hlt : j < k
      · go_wp2_with fail
        refine (atomic_store _ _ _ _ (HR.out.nums.cell j hlt) (HR.out.nums.free _)).mono ?_
        rintro e w' ⟨rfl, rfl⟩
        have H3 := HR.out.setNum j hlt (-1)
        have H4 := H3.setPlace j hlt (-1)
        have c6 := H3.solo.cell 6
        have cp := H3.places.cell j hlt
        have fp := H3.places.free j
        simp only [soloCells] at c6
        have HX := Lib.hid H4
        clear H3 H4 c2
        go_wp2
        go_roundw
        case rel =>
          refine ⟨j + 1, by omega, by go_num, ?_, (HBR.out.setCell (by dsimp only; omega) _).setCell (by dsimp only; omega) _⟩
          have e : zeroS (-1) (j + 1) = { zeroS (-1) j with num := upd (zeroS (-1) j).num j (-1), place := upd (zeroS (-1) j).place j (-1) } := by simp only [zeroS, fill_succ]
          rw [e]
          exact HX.out
        case measure => simp [intOf]; omega
      · go_wp2
        go_ret2
        obtain rfl : k = j := by omega
        refine ⟨⟨w1.heap.size + 1 + 1, w.heap.size + 1, w.heap.size, w1.heap.size + 1, w1.heap.size, n, k⟩, rfl, rfl, (by dsimp only; omega), (by dsimp only; omega), (by dsimp only; omega), (by dsimp only; omega), (by dsimp only; omega), rfl, ?_, HBR.out⟩
        exact ⟨HR.out.solo, HR.out.ring, ⟨fun i hi => by rw [HR.out.nums.cell i hi]; simp [zeroS, soloZero]; omega, HR.out.nums.free, HR.out.nums.lt⟩, ⟨fun i hi => by rw [HR.out.places.cell i hi]; simp [zeroS, soloZero]; omega, HR.out.places.free, HR.out.places.lt⟩, HR.out.most, HR.out.d1, HR.out.d2, HR.out.d3⟩

theorem same_from_eq {xs ys : List Int} (hl : xs.length = ys.length) (h : ∀ i, i < xs.length → xs.getD i 0 = ys.getD i 0) : xs = ys := by
  apply List.ext_getElem hl
  intro i h1 h2
  have := h i h1
  simpa [List.getD_eq_getElem?_getD, h1, h2] using this
theorem same_numbers (a b : Value) (xs ys : List Int) (w : World) (ha : IntsAt w a xs) (hb : IntsAt w b ys) (hx : xs.length ≤ maxLen) : Calls Try.prog 11 #[a, b] w fun e w' => e = .returned (.bool (decide (xs = ys))) ∧ ∃ k, w.drewN k = w' := by
  obtain ⟨A, c, rfl, hA⟩ := ha
  obtain ⟨B, d, rfl, hB⟩ := hb
  unfold maxLen at hx
  by_cases hl : xs.length = ys.length
  · have HL := Lib.hid hl
    have hne : ((xs.length : Int) != (ys.length : Int)) = false := by simp [hl]
    have HA := Lib.hid hA
    have HB := Lib.hid hB
    clear hl hA hB
    go_enter Try.func11, Try.ntmps11
    go_wp2
    go_loopw [5] (fun i wr => ∃ j : Nat, j ≤ xs.length ∧ i = .int .i64 j ∧ (∀ i, i < j → xs.getD i 0 = ys.getD i 0) ∧ ∃ k, w.drewN k = wr) (fun i _ => xs.length - (intOf i).toNat)
    case atStart => exact ⟨0, Nat.zero_le _, rfl, fun i hi => absurd hi (by omega), 0, rfl⟩
    case round =>
      obtain ⟨j, hj, rfl, hs, k, rfl⟩ := hrel
      have HS := Lib.hid hs
      clear hs
      by_cases hlt : j < xs.length
      · obtain ⟨b1, o1, rfl, _, e1⟩ := HA.out j hlt
        obtain ⟨b2, o2, rfl, _, e2⟩ := HB.out j (by rw [← HL.out]; exact hlt)
        have hlt' : j < ys.length := by rw [← HL.out]; exact hlt
        obtain ⟨x, hx'⟩ : ∃ x, x = xs.getD j 0 := ⟨_, rfl⟩
        obtain ⟨y, hy'⟩ : ∃ y, y = ys.getD j 0 := ⟨_, rfl⟩
        rw [← hx'] at e1
        rw [← hy'] at e2
        have HX := Lib.hid hx'
        have HY := Lib.hid hy'
        have b0 : (0 : Int) ≤ j := by omega
        have b1' : (j : Int) < xs.length := by omega
        have b2' : (j : Int) < ys.length := by omega
        clear hx' hy'
        go_wp2_with fail
        by_cases hxy : x = y
        · subst hxy
          go_quiet (fail)
          go_wp2
          go_roundw
          case rel => 
            refine ⟨j + 1, by omega, by go_num, fun i hi => ?_, _, rfl⟩
            by_cases h : i = j
            · subst h; rw [← HX.out, ← HY.out]
            · exact HS.out i (by omega)
          case measure => simp [intOf]; omega
        · have hne' : (x != y) = true := by rw [bne_iff_ne]; exact hxy
          go_quiet (fail)
          go_wp2
          go_ret
          refine ⟨?_, _, (World.drewN_drewN ..).symm⟩
          have : ¬ xs = ys := fun e => hxy (by rw [HX.out, HY.out, e])
          simp [this]
      · go_wp2
        go_ret
        refine ⟨?_, _, rfl⟩
        have : xs = ys := same_from_eq HL.out (fun i hi => HS.out i (by omega))
        simp [this]
  · have hne : ((xs.length : Int) != (ys.length : Int)) = true := by rw [bne_iff_ne]; omega
    go_enter Try.func11, Try.ntmps11
    go_wp2
    go_ret
    exact ⟨by simp; intro e; exact hl (by rw [e]), 0, rfl⟩

def listN (f : Nat → Int) (k : Nat) : List Int := (List.range k).map f
theorem listN_succ (f : Nat → Int) (k : Nat) : listN f (k + 1) = listN f k ++ [f k] := by simp [listN, List.range_succ]
def StatePost (w : World) (I : Ids) (S : SoloSt) (e : Ending) (w' : World) : Prop :=
  ∃ v, e = .returned (.tuple #[.int .i64 S.next, .int .i64 S.cursor, v]) ∧ w'.ownsRow w.heap.size 2 1 v I.k ((listN S.num I.k).map (Value.int .i64)) ∧ Below w.heap.size w w'
theorem solo_state (w : World) (I : Ids) (S : SoloSt) (H : SoloAt w I S) : Calls Try.prog 12 #[.pointer (some ⟨I.so, 0, none⟩)] w (StatePost w I S) := by
  have hk := H.most
  have c2 := H.solo.cell 2
  simp only [soloCells] at c2
  have HH := Lib.hid H
  obtain ⟨i0, hi0, hz0, hz1, hz2⟩ := info_parts Try.intInfo
  clear H
  go_enter Try.func12, Try.ntmps12
  go_wp2
  go_loopw [4, 13] (fun o i wr => ∃ j : Nat, j ≤ I.k ∧ i = .int .i64 j ∧ wr.ownsRow w.heap.size 2 1 o j ((listN S.num j).map (Value.int .i64)) ∧ Below w.heap.size w wr) (fun _ i _ => I.k - (intOf i).toNat)
  case atStart => exact ⟨0, Nat.zero_le _, rfl, ⟨by simp [listN], .inl ⟨rfl, rfl⟩⟩, Below.refl _ _⟩
  case round =>
    obtain ⟨j, hj, rfl, hown, hb⟩ := hrel
    obtain ⟨A, cap, rfl⟩ := own_slice hown
    have HO := Lib.hid hown
    have HR := Lib.hid (HH.out.kept (Kept.of_below (S := fun _ => False) hb) id id id id id)
    have d2 : wr.cell? ⟨I.so, 2, none⟩ = some (.slice (some ⟨I.nb, 0, none⟩) I.k I.k) := HR.out.solo.cell 2
    clear hown c2
    by_cases hlt : j < I.k
    · have hcell := HR.out.nums.cell j hlt
      have hb1 : w.heap.size ≤ wr.heap.size := hb.size
      go_wp2_with (first
        | (go_at_call 22; refine (atomic_load _ _ _ hcell).mono ?_; rintro e w' ⟨rfl, rfl⟩)
        | (at_builtin; refine wpList_append_own _ rfl _ _ 29 rfl w.heap.size 2 i0 (.int .i64 0) 1 8 Try.underlying29 hi0 hz0 hz1 hz2 rfl (by decide) _ _ _ rfl (HO.out.alloc _) ⟨wr.heap.size, 0, none⟩ 1 1 [.int .i64 (S.num j)] rfl rfl ?c1 ?c2 ?c3 ?c4 ?c5 ?_))
      case c1 => exact cell_one_new _ _ _
      case c2 => simp [Value.oneCell']
      case c3 => unfold maxLen; omega
      case c4 => omega
      case c5 => simp; omega
      intro v' w3 hown1 hg1 _
      have ho1 : w3.ownsRow w.heap.size 2 1 v' (j + 1) ((listN S.num (j + 1)).map (Value.int .i64)) := by rw [listN_succ, List.map_append]; exact hown1
      have hb3 : Below w.heap.size w w3 := (hb.alloc hb.size _).grown hg1 (by simp; omega) (fun k hk => (HO.out.lt k hk).1)
      have HO2 := Lib.hid (And.intro ho1 hb3)
      clear hown1 hg1 ho1 hb3
      go_wp2
      go_roundw
      case rel => exact ⟨j + 1, by omega, by go_num, HO2.out.1, HO2.out.2⟩
      case measure => simp [intOf]; omega
    · have d1 : wr.cell? ⟨I.so, 1, none⟩ = some (.int .i64 S.cursor) := HR.out.solo.cell 1
      have d3 : wr.cell? ⟨I.so, 3, none⟩ = some (.int .i64 S.next) := HR.out.solo.cell 3
      go_wp2
      go_quiet ((go_at_call 22; exact quietS (atomic_load _ _ _ d1)))
      go_wp2
      go_ret3
      have ej : j = I.k := by omega
      exact ⟨_, rfl, by rw [← ej]; exact HO.out, Below.drewN hb nq⟩
end Go.Proofs.Ytenhclfihedmiaa
