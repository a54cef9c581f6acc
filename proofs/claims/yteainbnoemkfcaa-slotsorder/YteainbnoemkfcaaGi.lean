/- DERIVED. A slice of operations that is handed in, opened. -/
import Derived.Test.YteainbnoemkfcaaGh
import Derived.Laws.Cover1
import Derived.Test.YteainbnoemkfcaaGg
import Derived.Test.YteainbnoemkfcaaGe
import Derived.Test.YteainbnoemkfcaaGd
import Derived.OpenShut
import Derived.JoinedCond
import Derived.Carry
import Derived.Deep.Slices
/- DERIVED. The ring of slots (package slots), lone: There, Highest and Get at sequences in bounds; Stamps, Values, the state; a ring begun with its first items. -/
namespace Go.Proofs.Yteainbnoemkfcaa
open Go.RowKit
set_option linter.unusedVariables false
theorem Try.info64 : (Try.prog.info? 2).map (fun i => (i.zero, i.size, i.bytes)) = some (some (.int .i64 0), 1, 8) := by kernel_rfl
def rowN (f : Nat → Int) (k : Nat) : List Int := (List.range k).map f
theorem rowN_succ (f : Nat → Int) (k : Nat) : rowN f (k + 1) = rowN f k ++ [f k] := by simp [rowN, List.range_succ]
theorem rowN_len (f : Nat → Int) (k : Nat) : (rowN f k).length = k := by simp [rowN]
def NumsRow (w0 : World) (n : Nat) (xs : List Int) (e : Ending) (w' : World) : Prop := ∃ v, e = .returned v ∧ w'.ownsRow w0.heap.size 2 1 v n (xs.map (Value.int .i64)) ∧ Below w0.heap.size w0 w'
theorem cell_new1 (w : World) (v : Value) (t : TypeId) : ∀ j u, [v][j]? = some u → (w.alloc (.cells #[v] t)).cell? ((⟨w.heap.size, 0, none⟩ : Addr).add j) = some u := by
  intro j u h
  cases j with
  | zero =>
    simp only [List.getElem?_cons_zero, Option.some.injEq] at h
    subst h
    exact (Blk.new w t #[v]).cell 0
  | succ j => simp at h
theorem stamps_ok (w : World) (rb sb n : Nat) (st va : Nat → Int) (H : RingAt w rb sb n st va) : Calls Try.prog 21 #[.pointer (some ⟨rb, 0, none⟩)] w (NumsRow w n (rowN st n)) := by
  have hn := H.pos
  have h2 := H.most
  have hr := H.ring
  have HH := Lib.hid H
  obtain ⟨i0, hi0, hz0, hz1, hz2⟩ := info_parts Try.info64
  clear H
  go_enter Try.func21, Try.ntmps21
  go_wp2_with (go_at_call 14; refine (size_ring _ _ n _ _ hr).mono ?_; rintro e w' ⟨rfl, rfl⟩)
  clear hr
  go_loopw [3, 7] (fun o i wr => ∃ j : Nat, j ≤ n ∧ i = .int .i64 j ∧ wr.ownsRow w.heap.size 2 1 o j ((rowN st j).map (Value.int .i64)) ∧ Below w.heap.size w wr) (fun _ i _ => n - (intOf i).toNat)
  case atStart => exact ⟨0, Nat.zero_le _, rfl, ⟨by simp [rowN], .inl ⟨rfl, rfl⟩⟩, Below.refl _ _⟩
  case round =>
    obtain ⟨j, hj, rfl, hown, hb⟩ := hrel
    obtain ⟨A, cap, rfl⟩ := own_slice hown
    have HO := Lib.hid hown
    have HR := Lib.hid (HH.out.kept (Kept.of_below (S := fun _ => False) hb) id id)
    have d2 := HR.out.ring
    clear hown
    by_cases hlt : j < n
    · have hcell := HR.out.stamp j hlt
      have hb1 : w.heap.size ≤ wr.heap.size := hb.size
      go_wp2_with (first
        | (go_at_call 39; refine (atomic_load _ _ _ hcell).mono ?_; rintro e w' ⟨rfl, rfl⟩)
        | (at_builtin; refine wpList_append_own _ rfl _ _ 22 rfl w.heap.size 2 i0 (.int .i64 0) 1 8 Try.underlying22 hi0 hz0 hz1 hz2 rfl (by decide) _ _ _ rfl (HO.out.alloc _) ⟨wr.heap.size, 0, none⟩ 1 1 [.int .i64 (st j)] rfl rfl ?c1 ?c2 ?c3 ?c4 ?c5 ?_))
      case c1 => exact cell_new1 _ _ _
      case c2 => simp [Value.oneCell']
      case c3 => unfold maxLen; omega
      case c4 => omega
      case c5 => simp; omega
      intro v' w3 hown1 hg1 _
      have ho1 : w3.ownsRow w.heap.size 2 1 v' (j + 1) ((rowN st (j + 1)).map (Value.int .i64)) := by rw [rowN_succ, List.map_append]; exact hown1
      have hb3 : Below w.heap.size w w3 := (hb.alloc hb.size _).grown hg1 (by simp; omega) (fun k hk => (HO.out.lt k hk).1)
      have HO2 := Lib.hid (And.intro ho1 hb3)
      clear hown1 hg1 ho1 hb3
      go_wp2
      go_roundw
      case rel => exact ⟨j + 1, by omega, by go_num, HO2.out.1, HO2.out.2⟩
      case measure => simp [intOf]; omega
    · go_wp2
      go_ret
      have ej : j = n := by omega
      exact ⟨_, rfl, by rw [← ej]; exact HO.out, hb⟩
theorem values_ok (w : World) (rb sb n : Nat) (st va : Nat → Int) (H : RingAt w rb sb n st va) : Calls Try.prog 22 #[.pointer (some ⟨rb, 0, none⟩)] w (NumsRow w n (rowN va n)) := by
  have hn := H.pos
  have h2 := H.most
  have hr := H.ring
  have HH := Lib.hid H
  obtain ⟨i0, hi0, hz0, hz1, hz2⟩ := info_parts Try.info64
  clear H
  go_enter Try.func22, Try.ntmps22
  go_wp2_with (go_at_call 14; refine (size_ring _ _ n _ _ hr).mono ?_; rintro e w' ⟨rfl, rfl⟩)
  clear hr
  go_loopw [3, 7] (fun o i wr => ∃ j : Nat, j ≤ n ∧ i = .int .i64 j ∧ wr.ownsRow w.heap.size 2 1 o j ((rowN va j).map (Value.int .i64)) ∧ Below w.heap.size w wr) (fun _ i _ => n - (intOf i).toNat)
  case atStart => exact ⟨0, Nat.zero_le _, rfl, ⟨by simp [rowN], .inl ⟨rfl, rfl⟩⟩, Below.refl _ _⟩
  case round =>
    obtain ⟨j, hj, rfl, hown, hb⟩ := hrel
    obtain ⟨A, cap, rfl⟩ := own_slice hown
    have HO := Lib.hid hown
    have HR := Lib.hid (HH.out.kept (Kept.of_below (S := fun _ => False) hb) id id)
    have d2 := HR.out.ring
    clear hown
    by_cases hlt : j < n
    · have hcell := HR.out.value j hlt
      have hb1 : w.heap.size ≤ wr.heap.size := hb.size
      go_wp2_with (first
        | (go_at_call 39; refine (atomic_load _ _ _ hcell).mono ?_; rintro e w' ⟨rfl, rfl⟩)
        | (at_builtin; refine wpList_append_own _ rfl _ _ 22 rfl w.heap.size 2 i0 (.int .i64 0) 1 8 Try.underlying22 hi0 hz0 hz1 hz2 rfl (by decide) _ _ _ rfl (HO.out.alloc _) ⟨wr.heap.size, 0, none⟩ 1 1 [.int .i64 (va j)] rfl rfl ?c1 ?c2 ?c3 ?c4 ?c5 ?_))
      case c1 => exact cell_new1 _ _ _
      case c2 => simp [Value.oneCell']
      case c3 => unfold maxLen; omega
      case c4 => omega
      case c5 => simp; omega
      intro v' w3 hown1 hg1 _
      have ho1 : w3.ownsRow w.heap.size 2 1 v' (j + 1) ((rowN va (j + 1)).map (Value.int .i64)) := by rw [rowN_succ, List.map_append]; exact hown1
      have hb3 : Below w.heap.size w w3 := (hb.alloc hb.size _).grown hg1 (by simp; omega) (fun k hk => (HO.out.lt k hk).1)
      have HO2 := Lib.hid (And.intro ho1 hb3)
      clear hown1 hg1 ho1 hb3
      go_wp2
      go_roundw
      case rel => exact ⟨j + 1, by omega, by go_num, HO2.out.1, HO2.out.2⟩
      case measure => simp [intOf]; omega
    · go_wp2
      go_ret
      have ej : j = n := by omega
      exact ⟨_, rfl, by rw [← ej]; exact HO.out, hb⟩
theorem there_x (X : Stepper) (hs : X.Steps Try.prog 40) (t rb sb n : Nat) (st va : Nat → Int) (q : Int) (w : World) (H : RingAt w rb sb n st va) (h0 : 0 ≤ q) (h1 : q < 4611686018427387904) (A : X.at_ t w) (n1 : ¬ X.own rb) (n2 : ¬ X.own sb) :
    Calls Try.prog 26 #[.pointer (some ⟨rb, 0, none⟩), X.v, .int .i64 q] w fun e w' => e = .returned (.bool (st (q % n).toNat == 2 * (q / n))) ∧ Kept X.own w w' ∧ w'.heap.size = w.heap.size ∧ X.at_ (t + 1) w' := by
  have hn := H.pos
  have h2 := H.most
  have hr := H.ring
  have hb0 : 0 ≤ q % (n : Int) := Int.emod_nonneg _ (by omega)
  have hb1 : q % (n : Int) < n := Int.emod_lt_of_pos _ (by omega)
  have hd0 : 0 ≤ q / (n : Int) := Int.ediv_nonneg h0 (by omega)
  have hd1 : q / (n : Int) ≤ q := Int.ediv_le_self _ h0
  have HH := Lib.hid H
  have HN1 := Lib.hid n1
  have HN2 := Lib.hid n2
  clear H n1 n2
  go_enter Try.func26, Try.ntmps26
  go_wp2_with (go_at_call 38; refine (good_yes _ _ n _ q _ hr hn h0 h1).mono ?_; rintro e w' ⟨rfl, rfl⟩)
  go_wp2_with fail
  refine (hs t _ A).mono ?_
  rintro e w1 ⟨rfl, A1, K1, Z1⟩
  have H1 := HH.out.kept K1 HN1.out HN2.out
  have hr1 := H1.ring
  have hs1 := H1.stamp (q % (n : Int)).toNat (by omega)
  have HK := Lib.hid (And.intro K1 (And.intro Z1 A1))
  clear K1 Z1 A1 A hr H1
  go_wp2
  go_quiet (first | (go_at_call 18; exact quietS (slot_yes _ _ n _ q _ hr1 hn h2 h0 h1)) | (go_at_call 19; exact quietS (lap_yes _ _ n _ q _ hr1 hn h2 h0 h1)) | (go_at_call 39; exact quietS (atomic_load _ _ _ hs1)))
  go_wp2
  go_ret
  refine ⟨rfl, HK.out.1.trans (Kept.drewN _ _ nq), HK.out.2.1, X.keep HK.out.2.2 (Kept.drewN (fun _ => False) _ nq) (fun _ _ h => h)⟩
end Go.Proofs.Yteainbnoemkfcaa
/- DERIVED. The ring of slots (package slots), lone: Highest; the state; a ring begun with its first items; nil and zero rings. -/
namespace Go.Proofs.Yteainbnoemkfcaa
open Go.RowKit
set_option linter.unusedVariables false
/-- Highest: the answer, and how many steps. -/
def highR (st : Nat → Int) (n : Nat) : Nat → Int → Int × Nat
  | 0, q => (q - 1, 0)
  | k + 1, q => if st (q % n).toNat = 2 * (q / n) then ((highR st n k (q + 1)).1, (highR st n k (q + 1)).2 + 1) else (q - 1, 1)
def highN (n : Nat) (a b : Int) : Nat := (min (min b (a + n - 1)) 4611686018427387903 + 1 - a).toNat
set_option maxRecDepth 100000 in
theorem highest_x (X : Stepper) (hs : X.Steps Try.prog 40) (t rb sb n : Nat) (st va : Nat → Int) (a b : Int) (w : World) (H : RingAt w rb sb n st va) (h0 : 0 ≤ a) (h1 : a < 4611686018427387904) (hab : a ≤ b) (hb : b < 9223372036854775808) (A : X.at_ t w) (n1 : ¬ X.own rb) (n2 : ¬ X.own sb) :
    Calls Try.prog 27 #[.pointer (some ⟨rb, 0, none⟩), X.v, .int .i64 a, .int .i64 b] w fun e w' => e = .returned (.int .i64 (highR st n (highN n a b) a).1) ∧ Kept X.own w w' ∧ w'.heap.size = w.heap.size ∧ X.at_ (t + (highR st n (highN n a b) a).2) w' := by
  have hn := H.pos
  have h2 := H.most
  have hr := H.ring
  have HH := Lib.hid H
  have HN1 := Lib.hid n1
  have HN2 := Lib.hid n2
  have HA := Lib.hid A
  clear H n1 n2 A
  go_enter Try.func27, Try.ntmps27
  obtain ⟨Y, e1⟩ : ∃ Y, (if a + (n : Int) - 1 < b then a + (n : Int) - 1 else b) = Y := ⟨_, rfl⟩
  obtain ⟨M, e2⟩ : ∃ M, (if 4611686018427387903 < Y then 4611686018427387903 else Y) = M := ⟨_, rfl⟩
  obtain ⟨m0, m1, m2, m3⟩ : a - 1 ≤ M ∧ M ≤ 4611686018427387903 ∧ (M + 1 - a).toNat = highN n a b ∧ a ≤ M := by
    unfold highN
    rw [← e2, ← e1]
    split <;> split <;> omega
  generalize highN n a b = kk at m2 ⊢
  have hk := Lib.hid m2
  clear m2
  go_wp2_with (first | (go_at_call 38; refine (good_yes _ _ n _ a _ hr hn h0 h1).mono ?_; rintro e w' ⟨rfl, rfl⟩) | (go_at_call 14; refine (size_ring _ _ n _ _ hr).mono ?_; rintro e w' ⟨rfl, rfl⟩))
  clear e1 e2 hr hab hb
  have hk := hk.out
  go_loopw [10] (fun i wr => ∃ j : Nat, j ≤ kk ∧ i = .int .i64 (a + j) ∧ (highR st n kk a).1 = (highR st n (kk - j) (a + j)).1 ∧ (highR st n kk a).2 = (highR st n (kk - j) (a + j)).2 + j ∧ Kept X.own w wr ∧ wr.heap.size = w.heap.size ∧ X.at_ (t + j) wr) (fun i _ => kk - (intOf i - a).toNat)
  case atStart => exact ⟨0, Nat.zero_le _, by simp, by simp, by simp, Kept.refl _ _, rfl, HA.out⟩
  case round =>
    obtain ⟨j, hj, rfl, r1, r2, K1, Z1, A1⟩ := hrel
    have HK := Lib.hid (And.intro r1 (And.intro r2 (And.intro K1 (And.intro Z1 A1))))
    clear r1 r2 K1 Z1 A1
    by_cases hlt : j < kk
    · go_wp2_with fail
      refine (there_x X hs (t + j) rb sb n st va (a + j) wr (HH.out.kept HK.out.2.2.1 HN1.out HN2.out) (by omega) (by omega) HK.out.2.2.2.2 HN1.out HN2.out).mono ?_
      rintro e w1 ⟨rfl, K2, Z2, A2⟩
      obtain ⟨r1, r2, K1, Z1, A1⟩ := HK.out
      obtain ⟨k, hkk⟩ : ∃ k, kk - j = k + 1 := ⟨kk - j - 1, by omega⟩
      rw [hkk] at r1 r2
      simp only [highR] at r1 r2
      by_cases heq : st ((a + j) % (n : Int)).toNat = 2 * ((a + j) / (n : Int))
      · rw [if_pos heq] at r1 r2
        have hB : (st ((a + j) % (n : Int)).toNat == 2 * ((a + j) / (n : Int))) = true := by simpa using heq
        rw [hB]
        have HX := Lib.hid (And.intro r1 (And.intro r2 (And.intro (K1.trans K2) (And.intro (Z2.trans Z1) A2))))
        have Hk := Lib.hid hkk
        clear r1 r2 K1 Z1 A1 K2 Z2 A2 HK heq hB hkk
        go_wp2
        go_roundw
        case rel =>
          obtain ⟨x1, x2, x3, x4, x5⟩ := HX.out
          have hkk := Hk.out
          rw [show a + (j : Int) + 1 = a + ((j + 1 : Nat) : Int) from by omega, show k = kk - (j + 1) from by omega] at x1 x2
          exact ⟨j + 1, by omega, by go_num, x1, by omega, x3, x4, x5⟩
        case measure => simp [intOf]; omega
      · rw [if_neg heq] at r1 r2
        have hB : (st ((a + j) % (n : Int)).toNat == 2 * ((a + j) / (n : Int))) = false := by simpa using heq
        rw [hB]
        have HX := Lib.hid (And.intro r1 (And.intro r2 (And.intro (K1.trans K2) (And.intro (Z2.trans Z1) A2))))
        clear r1 r2 K1 Z1 A1 K2 Z2 A2 HK heq hB hkk
        go_wp2
        go_ret
        obtain ⟨x1, x2, x3, x4, x5⟩ := HX.out
        exact ⟨by rw [x1]; rfl, x3, x4, by rw [x2]; rw [show t + (1 + j) = t + j + 1 from by omega]; exact x5⟩
    · have ej : j = kk := by omega
      subst ej
      go_wp2
      go_ret
      obtain ⟨r1, r2, K1, Z1, A1⟩ := HK.out
      simp only [Nat.sub_self, highR] at r1 r2
      exact ⟨by rw [r1]; exact congrArg (fun z => Ending.returned (.int .i64 z)) (by omega), K1, Z1, by rw [r2]; simpa using A1⟩
end Go.Proofs.Yteainbnoemkfcaa
/- DERIVED. The ring of slots (package slots), lone: the state; a ring begun with its first items. -/
namespace Go.Proofs.Yteainbnoemkfcaa
open Go.RowKit
set_option linter.unusedVariables false
theorem row_cells {w : World} {base g cap n : Nat} {e : TypeId} {xs : List Value} (h : w.ownsRow base e 1 (.slice (some ⟨g, 0, none⟩) n cap) n xs) : ∀ j u, xs[j]? = some u → w.cell? ((⟨g, 0, none⟩ : Addr).add j) = some u := by
  intro j u hj
  have hl : xs.length = n := by simpa using h.1
  have hjl : j < xs.length := (List.getElem?_eq_some_iff.1 hj).1
  have hc := h.cellAt (g := g) j (by omega)
  have e0 : (⟨g, 0, none⟩ : Addr).add j = ⟨g, j, none⟩ := by unfold Addr.add; split <;> simp_all
  rw [e0, hc, hj]
theorem row_addr {w : World} {base : Nat} {e : TypeId} {size n cap : Nat} {A : Option Addr} {xs : List Value} (h : w.ownsRow base e size (.slice A n cap) n xs) (hn : 0 < n) : ∃ g, A = some ⟨g, 0, none⟩ ∧ base ≤ g ∧ g < w.heap.size := by
  rcases h.2 with ⟨e, _⟩ | ⟨g, cap', cur, e, hg, hh, _⟩
  · cases e; omega
  · cases e
    refine ⟨g, rfl, hg, ?_⟩
    rcases Nat.lt_or_ge g w.heap.size with hlt | hge
    · exact hlt
    · rw [Array.getElem?_eq_none hge] at hh; cases hh
theorem row_cap {w : World} {base n cap size : Nat} {A : Option Addr} {e : TypeId} {xs : List Value} (h : w.ownsRow base e size (.slice A n cap) n xs) : n ≤ cap := by
  rcases h.2 with ⟨e, _⟩ | ⟨g, cap', cur, e, hg, _, h1, _⟩
  · cases e; omega
  · cases e; exact h1
set_option maxRecDepth 100000 in
theorem state_ok (w : World) (rb sb n : Nat) (st va : Nat → Int) (H : RingAt w rb sb n st va) : Calls Try.prog 33 #[.pointer (some ⟨rb, 0, none⟩)] w (NumsRow w (n + n) (rowN st n ++ rowN va n)) := by
  have hn := H.pos
  have h2 := H.most
  have HH := Lib.hid H
  obtain ⟨i0, hi0, hz0, hz1, hz2⟩ := info_parts Try.info64
  clear H
  go_enter Try.func33, Try.ntmps33
  go_wp2_with fail
  refine (stamps_ok w rb sb n st va HH.out).mono ?_
  rintro e w1 ⟨v1, rfl, o1, B1⟩
  obtain ⟨A1, c1, rfl⟩ := own_slice o1
  have HO := Lib.hid (And.intro o1 B1)
  clear o1 B1
  go_wp2_with fail
  refine (values_ok w1 rb sb n st va (HH.out.kept (Kept.of_below (S := fun _ => False) HO.out.2) id id)).mono ?_
  rintro e w2 ⟨v2, rfl, o2, B2⟩
  obtain ⟨A2, c2, rfl⟩ := own_slice o2
  obtain ⟨o1, B1⟩ := HO.out
  clear HO
  have k1 := own_kept o1 (Kept.of_below (S := fun _ => False) B2) (fun _ _ h => h)
  have z1 := B1.size
  have z2 := B2.size
  obtain ⟨g2, rfl, hg2, hl2⟩ := row_addr o2 hn
  have B := B1.trans (B2.mono z1)
  have HO := Lib.hid (And.intro o2 B)
  have hc2 := row_cap o2
  clear o1 B1 B2 o2 B
  go_wp2_with (at_builtin; refine wpList_append_own _ rfl _ _ 22 rfl w.heap.size 2 i0 (.int .i64 0) 1 8 Try.underlying22 hi0 hz0 hz1 hz2 rfl (by decide) _ _ _ rfl k1 ⟨g2, 0, none⟩ n c2 ((rowN va n).map (Value.int .i64)) rfl (by simp [rowN]) ?c1 ?c2 ?c3 ?c4 ?c5 ?_)
  case c1 => exact row_cells HO.out.1
  case c2 => simp [Value.oneCell']
  case c3 => unfold maxLen; omega
  case c4 => omega
  case c5 => omega
  intro v3 w3 hown hgrow hl3
  have k4 : w3.ownsRow w.heap.size 2 1 v3 (n + n) ((rowN st n ++ rowN va n).map (Value.int .i64)) := by rw [List.map_append]; exact hown
  have hb3 := (HO.out.2).grown hgrow (by omega) (fun k hk => (k1.lt k hk).1)
  clear hown hgrow
  go_wp2
  go_ret
  exact ⟨_, rfl, k4, hb3⟩
end Go.Proofs.Yteainbnoemkfcaa
/- DERIVED. The ring of slots (package slots), lone: a ring begun with its first items. -/
namespace Go.Proofs.Yteainbnoemkfcaa
open Go.RowKit
set_option linter.unusedVariables false
/-- A slice of numbers that reads as a list. -/
structure NumsIn (w : World) (A : Option Addr) (c : Nat) (xs : List Int) : Prop where
  le : xs.length ≤ c
  max : c ≤ maxLen
  cells : ∀ i, i < xs.length → ∃ b o, A = some ⟨b, o, none⟩ ∧ w.cell? ⟨b, o + i, none⟩ = some (.int .i64 (xs.getD i 0))
theorem NumsIn.kept {w w' : World} {A : Option Addr} {c : Nat} {xs : List Int} {Z : Nat → Prop} (h : NumsIn w A c xs) (hk : Kept Z w w') (hz : ∀ b, b < w.heap.size → ¬ Z b) : NumsIn w' A c xs :=
  ⟨h.le, h.max, fun i hi => by
    obtain ⟨b, o, h1, h2⟩ := h.cells i hi
    have hb : b < w.heap.size := by
      rcases Nat.lt_or_ge b w.heap.size with hlt | hge
      · exact hlt
      · simp [World.cell?, Array.getElem?_eq_none hge] at h2
    exact ⟨b, o, h1, (World.cell?_of_block (w := w) (a := ⟨b, o + i, none⟩) (hk.block b hb (hz b hb))).trans h2⟩⟩
/-- Put without a Stepper. -/
theorem put_n (rb sb n : Nat) (st va : Nat → Int) (q v : Int) (w : World) (H : RingAt w rb sb n st va) (h0 : 0 ≤ q) (h1 : q < 4611686018427387904) :
    Calls Try.prog 23 #[.pointer (some ⟨rb, 0, none⟩), .nilIface, .int .i64 q, .int .i64 v] w fun e w' => e = .returned (.int .i64 0) ∧
      RingAt w' rb sb n (upd st (q % n).toNat (2 * (q / n))) (upd va (q % n).toNat v) ∧ Kept (fun b => b = sb) w w' ∧ w'.heap.size = w.heap.size ∧ ∀ b, NearB w b → NearB w' b := by
  have hn := H.pos
  have h2 := H.most
  have hr := H.ring
  have hb0 : 0 ≤ q % (n : Int) := Int.emod_nonneg _ (by omega)
  have hb1 : q % (n : Int) < n := Int.emod_lt_of_pos _ (by omega)
  have hd0 : 0 ≤ q / (n : Int) := Int.ediv_nonneg h0 (by omega)
  have hd1 : q / (n : Int) ≤ q := Int.ediv_le_self _ h0
  have HH := Lib.hid H
  clear H
  go_enter Try.func23, Try.ntmps23
  go_wp2_with (go_at_call 38; refine (good_yes _ _ n _ q _ hr hn h0 h1).mono ?_; rintro e w' ⟨rfl, rfl⟩)
  go_quiet (first | (go_at_call 18; exact quietS (slot_yes _ _ n _ q _ hr hn h2 h0 h1)) | (go_at_call 19; exact quietS (lap_yes _ _ n _ q _ hr hn h2 h0 h1)))
  generalize hi : (q % (n : Int)).toNat = i at *
  have hi' : i < n := by omega
  have HI := Lib.hid hi
  clear hi
  have H1 := HH.out.drewN nq
  have hw1 : Kept (fun b => b = sb) w (w.drewN nq) ∧ (w.drewN nq).heap.size = w.heap.size ∧ ∀ b, NearB w b → NearB (w.drewN nq) b := ⟨Kept.drewN _ _ _, rfl, fun _ h => h⟩
  generalize World.drewN _ nq = w1 at H1 hw1 ⊢
  have HW := Lib.hid hw1
  clear hw1
  go_wp2_with fail
  refine (step_nil _).mono ?_
  rintro e w' ⟨rfl, rfl⟩
  go_wp2_with fail
  refine (atomic_store _ _ _ _ (H1.stamp i hi') (H1.free _)).mono ?_
  rintro e w' ⟨rfl, rfl⟩
  have H2 := H1.setStamp hi' (2 * (q / n) - 1)
  go_wp2_with fail
  refine (step_nil _).mono ?_
  rintro e w' ⟨rfl, rfl⟩
  go_wp2_with fail
  refine (atomic_store _ _ _ _ (H2.value i hi') (H2.free _)).mono ?_
  rintro e w' ⟨rfl, rfl⟩
  have H3 := H2.setValue hi' v
  go_wp2_with fail
  refine (step_nil _).mono ?_
  rintro e w' ⟨rfl, rfl⟩
  go_wp2_with fail
  refine (atomic_store _ _ _ _ (H3.stamp i hi') (H3.free _)).mono ?_
  rintro e w' ⟨rfl, rfl⟩
  have H4 := Lib.hid (H3.setStamp hi' (2 * (q / n)))
  clear H1 H2 H3 hr
  go_wp2
  go_ret
  rw [HI.out]
  obtain ⟨k1, k2, k3⟩ := HW.out
  refine ⟨rfl, by rw [← upd_upd st i (2 * (q / n) - 1)]; exact H4.out, ?_, by simp [k2], fun b h => (((k3 b h).set_).set_).set_⟩
  have S : ∀ (w : World) (i : Nat) (u : Value), Kept (fun b => b = sb) w (w.setCell ⟨sb, i, none⟩ u) := fun w i u => Kept.setCell (S := fun b => b = sb) w (p := ⟨sb, i, none⟩) rfl u
  exact ((k1.trans (S _ _ _)).trans (S _ _ _)).trans (S _ _ _)
/-- The first items, laid. -/
def begS (n : Nat) (vs : List Int) : Nat → (Nat → Int) × (Nat → Int)
  | 0 => (fun _ => -2, fun _ => 0)
  | k + 1 => (upd (begS n vs k).1 (((k : Int) % n).toNat) (2 * ((k : Int) / n)), upd (begS n vs k).2 (((k : Int) % n).toNat) (vs.getD k 0))
set_option maxRecDepth 100000 in
theorem begun_ok (w : World) (A : Option Addr) (c n : Nat) (vs : List Int) (hn : 0 < n) (h2 : n ≤ 65536) (hbt : (bits BinOp.and IntKind.i64 (n : Int) ((n : Int) - 1) != 0) = false) (hx : NumsIn w A c ((n : Int) :: vs)) (hlen : vs.length ≤ 4611686018427387903) :
    Calls Try.prog 30 #[.slice A (vs.length + 1) c] w fun e w' => e = .returned (.pointer (some ⟨w.heap.size + 1, 0, none⟩)) ∧ RingAt w' (w.heap.size + 1) w.heap.size n (begS n vs vs.length).1 (begS n vs vs.length).2 ∧ Below w.heap.size w w' ∧ w'.heap.size = w.heap.size + 2 ∧ NearB w' w.heap.size ∧ NearB w' (w.heap.size + 1) := by
  have hle := hx.le
  have hmx := hx.max
  simp only [List.length_cons] at hle
  obtain ⟨B, o, rfl, c0⟩ := hx.cells 0 (by simp)
  have hcell : ∀ i, i < vs.length → w.cell? ⟨B, o + 1 + i, none⟩ = some (.int .i64 (vs.getD i 0)) := fun i hi => by
    obtain ⟨b', o', e, h⟩ := hx.cells (i + 1) (by simpa using hi)
    cases e
    rw [show o + 1 + i = o + (i + 1) from by omega]
    simpa using h
  simp only [Nat.add_zero, List.getD_cons_zero] at c0
  have hB : B < w.heap.size := by
    rcases Nat.lt_or_ge B w.heap.size with hlt | hge
    · exact hlt
    · simp [World.cell?, Array.getElem?_eq_none hge] at c0
  unfold maxLen at hmx
  clear hx
  have HC := Lib.hid hcell
  have HBT := Lib.hid hbt
  clear hcell hbt
  have hn1 : (1 : Int) ≤ n := by omega
  have hn2 : (n : Int) ≤ 65536 := by omega
  have hn3 : ((vs.length : Int) + 1 == 0) = false := by simp; omega
  go_enter Try.func30, Try.ntmps30
  go_wp2_with fail
  refine (new_near n w hn h2 HBT.out).mono ?_
  rintro e w1 ⟨rfl, H1, B1, Z1⟩
  have HX := Lib.hid (And.intro H1 (And.intro B1 Z1))
  clear H1 B1 Z1 c0
  go_wp2
  · go_loopw [32] (fun i wr => ∃ j : Nat, j ≤ vs.length ∧ i = .int .i64 j ∧ RingAt wr (w.heap.size + 1) w.heap.size n (begS n vs j).1 (begS n vs j).2 ∧ Below w.heap.size w wr ∧ wr.heap.size = w.heap.size + 2 ∧ NearB wr w.heap.size ∧ NearB wr (w.heap.size + 1)) (fun i _ => vs.length - (intOf i).toNat)
    case atStart => exact ⟨0, Nat.zero_le _, rfl, HX.out⟩
    case round =>
      obtain ⟨j, hj, rfl, H1, B1, Z1⟩ := hrel
      by_cases hlt : j < vs.length
      · exfalso
        omega
      · have ej : j = vs.length := by omega
        subst ej
        have HY := Lib.hid (And.intro H1 (And.intro B1 Z1))
        clear H1 B1 Z1
        go_wp2
        go_ret
        exact ⟨rfl, HY.out⟩
  · go_loopw [32] (fun i wr => ∃ j : Nat, j ≤ vs.length ∧ i = .int .i64 j ∧ RingAt wr (w.heap.size + 1) w.heap.size n (begS n vs j).1 (begS n vs j).2 ∧ Below w.heap.size w wr ∧ wr.heap.size = w.heap.size + 2 ∧ NearB wr w.heap.size ∧ NearB wr (w.heap.size + 1)) (fun i _ => vs.length - (intOf i).toNat)
    case atStart => exact ⟨0, Nat.zero_le _, rfl, HX.out⟩
    case round =>
      obtain ⟨j, hj, rfl, H1, B1, Z1⟩ := hrel
      by_cases hlt : j < vs.length
      · have c1 : wr.cell? ⟨B, o + 1 + j, none⟩ = some (.int .i64 (vs.getD j 0)) := (World.cell?_of_block (w := w) (B1.block B hB)).trans (HC.out j hlt)
        have HY := Lib.hid (And.intro H1 (And.intro B1 Z1))
        clear H1 B1 Z1
        obtain ⟨x, hx⟩ : ∃ x, vs.getD j 0 = x := ⟨_, rfl⟩
        rw [hx] at c1
        have HVX := Lib.hid hx
        clear hx
        go_wp2_with fail
        refine (put_n (w.heap.size + 1) w.heap.size n _ _ j x wr HY.out.1 (by omega) (by omega)).mono ?_
        rintro e w2 ⟨rfl, H2, K2, Z2, N2⟩
        have B2 : Below w.heap.size w w2 := HY.out.2.1.trans (K2.to_below (B := w.heap.size) (fun k hk => by omega) (by rw [HY.out.2.2.1]; omega))
        have HZ := Lib.hid (And.intro H2 (And.intro B2 (And.intro (Z2.trans HY.out.2.2.1) (And.intro (N2 _ HY.out.2.2.2.1) (N2 _ HY.out.2.2.2.2)))))
        clear H2 K2 B2 Z2 N2 HY c1
        go_wp2
        go_roundw
        case rel => exact ⟨j + 1, by omega, by go_num, by simp only [begS]; rw [HVX.out]; exact HZ.out⟩
        case measure => simp [intOf]; omega
      · have ej : j = vs.length := by omega
        subst ej
        have HY := Lib.hid (And.intro H1 (And.intro B1 Z1))
        clear H1 B1 Z1
        go_wp2
        go_ret
        exact ⟨rfl, HY.out⟩
end Go.Proofs.Yteainbnoemkfcaa
/- DERIVED. A run by a schedule on a ring of slots (package slots: Play), goroutine 0 alone. -/
namespace Go.Proofs.Yteainbnoemkfcaa
open Go.RowKit Go.Turn Go.Tame Go.Conc
set_option linter.unusedVariables false
theorem NumsIn.blocks {w w' : World} {A : Option Addr} {c : Nat} {xs : List Int} (h : NumsIn w A c xs) (hb : ∀ b, b < w.heap.size → w'.heap[b]? = w.heap[b]?) : NumsIn w' A c xs :=
  ⟨h.le, h.max, fun i hi => by
    obtain ⟨b, o, h1, h2⟩ := h.cells i hi
    exact ⟨b, o, h1, (World.cell?_of_block (w := w) (a := ⟨b, o + i, none⟩) (hb b (lt_of_cell h2))).trans h2⟩⟩
theorem Old.below {B : Nat} {a b c : World} (h : Old B a b) (k : Below b.heap.size b c) (hB : B ≤ b.heap.size) : Old B a c :=
  h.trans ⟨k.size, fun i hi => k.block i (by omega), k.os, k.output⟩
/-- The operations that are handed in. -/
structure OpsCells (W0 : World) (good : OpI → Prop) (w0 : World) (n : Nat) (A : Nat → Option Addr) (len : Nat → Nat) (ops : Nat → List OpI) : Prop where
  len : ∀ i, i < n → (ops i).length = min (len i) 65536
  good : ∀ i, i < n → ∀ o ∈ ops i, good o
  cells : ∀ i, i < n → ∀ j (h : j < (ops i).length), ∃ b o cs t r, A i = some ⟨b, o, none⟩ ∧ w0.heap[b]? = some (.cells cs t r) ∧ (r.2 < big ∨ b < W0.heap.size) ∧ ∀ m, m < 4 → cs[o + j * 4 + m]? = (ops i)[j].cells[m]?
theorem OpsCells.opsIn {I : Inner} {good : OpI → Prop} {a0 : I.A} {W0 w0 w1 : World} {n : Nat} {A : Nat → Option Addr} {len : Nat → Nat} {ops : Nat → List OpI} (h : OpsCells W0 good w0 n A len ops) (ho : Old w0.heap.size w0 w1) (hat : I.At a0 w1) (hbi : ∀ b, I.BI b → (∃ c t r, w1.heap[b]? = some (.cells c t r) ∧ r.2 < big) ∧ w0.heap.size ≤ b) : OpsIn W0 I good a0 w1 n A len ops where
  at_ := hat
  bi := fun b hb => (hbi b hb).1
  len := h.len
  good := h.good
  cells := fun i hi j hj => by
    obtain ⟨b, o, cs, t, r, h1, h2, h3, h4⟩ := h.cells i hi j hj
    have hlt := lt_of_some h2
    exact ⟨b, o, cs, t, r, h1, (ho.block b hlt).trans h2, h3, fun z => by have := (hbi b z).2; omega, h4⟩
/-- What a Play leaves. -/
structure PlayDone (W0 : World) (rn : Nat) (R : Run RSt2) (n : Nat) (w0 : World) (v : Value) (w' : World) : Prop where
  ex : ∃ (ab : Nat) (ov tv : Value) (H : Nat → Prop), w0.heap.size ≤ ab ∧ v = .agg #[.slice (some ⟨ab, 0, none⟩) n n, ov, tv, .bool (decide (0 < R.m.left n))] ∧
    w'.ownsRow w0.heap.size 3 1 ov R.order.length (R.order.map (Value.int .i64)) ∧
    w'.ownsRow w0.heap.size 2 1 tv (rn + rn) ((rowN R.m.s.1.1 rn ++ rowN R.m.s.1.2 rn).map (Value.int .i64)) ∧
    AnsAll w' ab n R.m.s.2 H ∧ (∀ (b : Nat) (c : Array Value) (t : TypeId) (r : Nat × Nat), (b < W0.heap.size ∨ r.2 < big) → w0.heap[b]? = some (.cells c t r) → ¬ H b) ∧ ∀ b, tv.ownBlock = some b → ¬ H b
  size : w0.heap.size ≤ w'.heap.size
  near : ∀ (b : Nat) (c : Array Value) (t : TypeId) (r : Nat × Nat), (b < W0.heap.size ∨ r.2 < big) → w0.heap[b]? = some (.cells c t r) → w'.heap[b]? = some (.cells c t r)
  io : w'.os = w0.os ∧ w'.output = w0.output
set_option maxHeartbeats 2000000 in
set_option maxRecDepth 100000 in
theorem play_calls (hP : Prog Try.prog) (Post : Value → World → Prop) (W0 : World) (rn : Nat) (hrn : 0 < rn) (hr2 : rn ≤ 65536) (hbt : (bits BinOp.and IntKind.i64 (rn : Int) ((rn : Int) - 1) != 0) = false) (vs : List Int) (hlen : vs.length ≤ 4611686018427387903) (sA : Option Addr) (sc : Nat)
    (good : OpI → Prop) (doT : Nat → DoQ RSt) (Tb To nt cp : Nat) (hnt : nt ≤ maxLen) (hpos : 0 < nt) (A : Nat → Option Addr) (len cap : Nat → Nat) (ops : Nat → List OpI) (sv : Value) (xs : List Int) (most : Int) (w0 : World)
    (hstart : NumsIn w0 sA sc ((rn : Int) :: vs)) (hrows : RowsAt w0 Tb To (min nt 64) A len cap) (hin : OpsCells W0 good w0 (min nt 64) A len ops) (hsch : SchI W0 sv xs (fun b => ∃ i o, i < min nt 64 ∧ A i = some ⟨b, o, none⟩) w0)
    (hD : ∀ (rb sb : Nat) (B : OpsB) i, DoLaw (B.on (ringI rb sb rn) good) i (doT i) 32 #[.pointer (some ⟨rb, 0, none⟩)] #[]) (hO : ∀ (rb sb : Nat) (B : OpsB) i, DoOk (B.on (ringI rb sb rn) good) i (doT i)) :
    Ccalls (lgA hP Post W0) 10 #[.slice sA (vs.length + 1) sc, .slice (some ⟨Tb, To, none⟩) nt cp, sv, .int .i64 most] () w0 fun v _ w' => PlayDone W0 rn (playRun (brQ doT ops) (min nt 64) (heldI most 1048576).toNat xs (begS rn vs vs.length, fun _ => [])) (min nt 64) w0 v w' := by
  intro c mid hR
  have HR := Lib.hid hR
  clear hR
  have hs : ¬ (lgA hP Post W0).strict := fun h => h
  rw [show Frame.enter Try.prog 10 #[.slice sA (vs.length + 1) sc, .slice (some ⟨Tb, To, none⟩) nt cp, sv, .int .i64 most] .normal = Frame.at { (default : Frame) with fn := 10, kind := .normal } ⟨#[.slice sA (vs.length + 1) sc, .slice (some ⟨Tb, To, none⟩) nt cp, sv, .int .i64 most] ++ Array.replicate (Try.f10.ntmps - 4) undef, []⟩ [.code (Try.f10.body.getD .skip)] from by simp [Frame.enter, Frame.at, Try.func10]; rfl]
  simp only [Try.f10, Option.getD_some, Nat.reduceSub, Array.replicate_succ, Array.replicate_zero, List.push_toArray, List.append_toArray, List.nil_append, List.cons_append]
  refine Lg.move _ (fun _ _ => step_seq) (fun h => h) ?_
  refine Lg.code fun K hK y τ n' hy => ?_
  have hold : Old w0.heap.size w0 y := by rw [hy]; exact (Old.refl _ (y.re τ n')).re
  have hsz : y.heap.size = w0.heap.size := by rw [hy]; rfl
  clear hy
  go_wp2
  refine hK _ _ (fun h => absurd h hs) ?_
  clear hK K
  have hold1 := hold.new (show w0.heap.size ≤ y.heap.size by omega) (.cells #[.slice none 0 0, .slice none 0 0, .slice none 0 0, .bool false] 31)
  have hb8 := Blk.new y 31 #[.slice none 0 0, .slice none 0 0, .slice none 0 0, .bool false]
  have hsz1 : (y.alloc (.cells #[.slice none 0 0, .slice none 0 0, .slice none 0 0, .bool false] 31)).heap.size = w0.heap.size + 1 := by simp [hsz]
  rw [hsz] at hb8
  generalize y.alloc (.cells #[.slice none 0 0, .slice none 0 0, .slice none 0 0, .bool false] 31) = w1 at hb8 hold1 hsz1 ⊢
  obtain ⟨b8, h8⟩ : ∃ b8, b8 = w0.heap.size := ⟨_, rfl⟩
  rw [← h8] at hb8 ⊢
  have HZ2 := Lib.hid h8
  clear h8 hsz hold
  refine Lg.move _ (fun _ _ => step_seq) (fun h => h) ?_
  refine Lg.code fun K hK z τ n' hz => ?_
  subst hz
  have hold1 := hold1.re
  have hb8 : Blk z b8 _ _ := hb8
  have hsz1 : z.heap.size = w0.heap.size + 1 := hsz1
  have HST := Lib.hid (hstart.blocks hold1.block)
  have HOLD := Lib.hid hold1
  have HB8 := Lib.hid hb8
  have HZ := Lib.hid hsz1
  clear hstart hold1 hb8 hsz1
  go_wp2_with fail
  refine (begun_ok z sA sc rn vs hrn hr2 hbt HST.out hlen).mono ?_
  rintro e w2 ⟨rfl, H1, B1, Z1, N1, N2⟩
  have hold2 := HOLD.out.below B1 (by have := HZ.out; omega)
  have hb8 : Blk w2 b8 _ _ := HB8.out.below B1 HB8.out.lt
  have hlb8 := HB8.out.lt
  have hge0 := HZ.out
  generalize z.heap.size = sb at H1 N1 N2 hlb8 hge0 ⊢
  generalize hrb : sb + 1 = rb at H1 N2 ⊢
  have hrat : RAt rb sb rn (begS rn vs vs.length) w2 := ⟨H1, N2, N1⟩
  have hge : w0.heap.size + 1 ≤ sb ∧ w0.heap.size + 1 ≤ rb ∧ rb ≠ sb := by omega
  have hin2 : OpsIn W0 (ringI rb sb rn) good (begS rn vs vs.length) w2 (min nt 64) A len ops := hin.opsIn hold2 hrat fun b hb => by
    rcases hb with rfl | rfl
    · obtain ⟨c, t, e⟩ := N2; exact ⟨⟨c, t, _, e, by decide⟩, by omega⟩
    · obtain ⟨c, t, e⟩ := N1; exact ⟨⟨c, t, _, e, by decide⟩, by omega⟩
  have hrows2 := hrows.later hold2
  have hsch2 : SchI W0 sv xs (fun b => (ringI rb sb rn).BI b ∨ ∃ i o, i < min nt 64 ∧ A i = some ⟨b, o, none⟩) w2 := hsch.later hold2 fun b hb hz => by
    rcases hz with (e | e) | hz
    · omega
    · omega
    · exact hz
  have HIN := Lib.hid hin2
  have HRO := Lib.hid hrows2
  have HSC := Lib.hid hsch2
  have HO2 := Lib.hid hold2
  have HB2 := Lib.hid hb8
  have HGE := Lib.hid hge
  clear hin hin2 hrows hrows2 hsch hsch2 hold2 hb8 hrat H1 N1 N2 B1 Z1 HST HOLD HB8 HZ hge hge0 hrb
  go_wp2
  refine hK _ _ (fun h => absurd h hs) ?_
  clear hK K
  refine Lg.move _ (fun _ _ => step_seq) (fun h => h) ?_
  refine Lg.move _ (fun _ _ => step_region) (fun h => h) ?_
  refine Lg.pre 0 5 3 (by simp) fun K hK u τ n' hu => ?_
  subst hu
  have hin2 : OpsIn W0 (ringI rb sb rn) good (begS rn vs vs.length) u (min nt 64) A len ops := HIN.out.later (w0 := u.re τ n') (Old.refl _ (u.re τ n')).re
  have hrows2 := HRO.out.later (w0 := u.re τ n') (Old.refl _ (u.re τ n')).re
  have hsch2 := HSC.out.later (w0 := u.re τ n') (Old.refl _ (u.re τ n')).re (fun _ _ h => h)
  have hold2 := HO2.out.re
  have hb8 : Blk u b8 _ _ := HB2.out
  have HIN2 := Lib.hid hin2
  have HRO2 := Lib.hid hrows2
  have HSC2 := Lib.hid hsch2
  have HO := Lib.hid hold2
  have HB := Lib.hid hb8
  clear hin2 hrows2 hsch2 hold2 hb8 HIN HRO HSC HO2 HB2
  simp only [List.drop_zero, List.take_succ_cons, List.take_zero]
  go_wp2
  refine hK _ _ (fun h => absurd h hs) ?_
  clear hK K
  have hops := ops_calls hP Post W0 (ringI rb sb rn) good (begS rn vs vs.length) doT Tb To nt cp hnt hpos 32 #[.pointer (some ⟨rb, 0, none⟩)] #[] A len cap ops sv xs most u HRO2.out HIN2.out HSC2.out do_enters (fun B i => hD rb sb B i) (fun B i => hO rb sb B i)
  refine Lg.call (i := 5) (rest := [6, 7]) (f := 31) (args := #[.slice (some ⟨Tb, To, none⟩) nt cp, .func (.func 32) #[.pointer (some ⟨rb, 0, none⟩)] #[], sv, .int .i64 most]) rfl rfl (fun y => by go_simp) hops ?_
  rintro vv t'' w4 hdone
  have HOPS := Lib.hid hdone
  obtain ⟨B, ov, hBn, hBo, hBa, hvv0, hov0, H, hrep, hH⟩ := hdone.ex
  clear hdone hops
  obtain ⟨R, hR⟩ : ∃ R : Run RSt2, R = playRun (brQ doT ops) (min nt 64) (heldI most 1048576).toNat xs (begS rn vs vs.length, fun _ => []) := ⟨_, rfl⟩
  have eR : playRun (brT (B.on (ringI rb sb rn) good) doT) (min nt 64) (heldI most 1048576).toNat xs (begS rn vs vs.length, fun _ => []) = R := by
    rw [hR]
    exact congrArg (fun b => playRun b (min nt 64) (heldI most 1048576).toNat xs (begS rn vs vs.length, fun _ => [])) ((br_q (I := ringI rb sb rn) (good := good) B doT).trans (congrArg (brQ doT) hBo))
  have key : ∀ R' : Run RSt2, playRun (brT (B.on (ringI rb sb rn) good) doT) (min nt 64) (heldI most 1048576).toNat xs (begS rn vs vs.length, fun _ => []) = R' → vv = .agg #[.slice (some ⟨B.ab, 0, none⟩) (min nt 64 : Nat) (min nt 64 : Nat), ov, .slice none 0 0, .bool (decide (0 < R'.m.left (min nt 64)))] ∧ w4.ownsRow u.heap.size 3 1 ov R'.order.length (R'.order.map (Value.int .i64)) ∧ AnsAll w4 B.ab B.n R'.m.s.2 (fun b => H b ∧ ¬ (b = rb ∨ b = sb)) ∧ RAt rb sb rn R'.m.s.1 w4 := by
    rintro _ rfl
    exact ⟨hvv0, hov0, hrep.answers, hrep.at_⟩
  obtain ⟨hvv, hov, hans, hrat⟩ := key R eR
  rw [← hR] at HR
  rw [hBn] at hans
  obtain ⟨stk, hst⟩ : ∃ stk : Bool, stk = decide (0 < R.m.left (min nt 64)) := ⟨_, rfl⟩
  rw [← hst] at hvv
  clear key hrep eR hvv0 hov0 hBo
  have HRR := Lib.hid hR
  clear hR
  generalize min nt 64 = n at *
  obtain ⟨oA, oc, rfl⟩ := own_slice hov
  obtain ⟨oL, hoL⟩ : ∃ oL, oL = R.order.length := ⟨_, rfl⟩
  rw [← hoL] at hvv
  obtain ⟨ab, hab⟩ : ∃ ab, ab = B.ab := ⟨_, rfl⟩
  rw [← hab] at hvv hBa hans
  subst hvv
  have HX := Lib.hid (And.intro hans (And.intro hrat (And.intro hov (And.intro hBa (And.intro hoL (And.intro hst hH))))))
  have hb8 : Blk w4 b8 _ _ := HOPS.out.near b8 _ _ (0, 0) (.inr ⟨by decide, fun z => by have := HGE.out; rcases z with e | e <;> (have := HZ2.out; omega)⟩) HB.out
  clear hans hrat hov hBa hoL hst hH
  have HB4 := Lib.hid hb8
  clear hb8 hab
  rw [Frame.finish_at]
  walk_nrm
  refine (show (lgA hP Post W0).T _ (Frame.at _ ⟨_, []⟩ (.inRegion _ (List.range' 6 (2 + 0)) :: _)) (c :: mid) w4 from ?_)
  refine Lg.pre 6 2 0 (by simp) fun K hK q τ2 n2 hq => ?_
  simp only [List.drop_succ_cons, List.drop_zero, List.take_succ_cons, List.take_zero]
  go_wp2
  refine hK _ _ (fun h => absurd h hs) ?_
  clear hK K
  have hb4 : Blk q b8 31 #[.slice none 0 0, .slice none 0 0, .slice none 0 0, .bool false] := by have := HB4.out; rw [hq] at this; exact this
  have hh : w4.heap = q.heap ∧ w4.os = q.os ∧ w4.output = q.output := by rw [hq]; exact ⟨rfl, rfl, rfl⟩
  clear hq HB4
  obtain ⟨b10, h10⟩ : ∃ b10, b10 = q.heap.size := ⟨_, rfl⟩
  rw [← h10]
  obtain ⟨w5, hw5, hb10, f1, f2, f3⟩ : ∃ w5, w5 = (q.alloc (.cells #[.slice (some ⟨ab, 0, none⟩) n n, .slice oA oL oc, .slice none 0 0, .bool stk] 31)) ∧ Blk w5 b10 31 #[.slice (some ⟨ab, 0, none⟩) n n, .slice oA oL oc, .slice none 0 0, .bool stk] ∧ (∀ b, b < w4.heap.size → w5.heap[b]? = w4.heap[b]?) ∧ w5.heap.size = w4.heap.size + 1 ∧ w5.os = w4.os ∧ w5.output = w4.output := by
    refine ⟨_, rfl, h10 ▸ Blk.new q _ _, fun b hb => ?_, ?_, hh.2.1.symm, hh.2.2.symm⟩
    · rw [hh.1] at hb ⊢; exact Below.heap_alloc _ _ _ hb
    · rw [hh.1]; simp
  rw [← hw5]
  clear hw5
  have hg10 : w4.heap.size ≤ b10 := by rw [h10, hh.1]; exact Nat.le_refl _
  have HG10 := Lib.hid hg10
  have h84 : b8 < w4.heap.size := by rw [hh.1]; exact hb4.lt
  have hb8 : Blk w5 b8 31 #[.slice none 0 0, .slice none 0 0, .slice none 0 0, .bool false] := (f1 b8 h84).trans (by rw [hh.1]; exact hb4)
  clear h10 hh hb4 hg10
  refine Lg.move _ (fun _ _ => step_region_end) (fun h => h) ?_
  refine Lg.move _ (fun _ _ => step_seq) (fun h => h) ?_
  refine Lg.code fun K hK p τ3 n3 hp => ?_
  subst hp
  have hb10 : Blk p b10 _ _ := hb10
  have hb8 : Blk p b8 _ _ := hb8
  have hrat5 : RAt rb sb rn R.m.s.1 p := RAt.law _ w4 p HX.out.2.1 fun b hb => f1 b (by rcases hb with rfl | rfl <;> (first | exact HX.out.2.1.r.rlt | exact HX.out.2.1.r.glt))
  have HF := Lib.hid (And.intro f1 (And.intro f2 f3))
  have HB10 := Lib.hid hb10
  have HB8 := Lib.hid hb8
  have HRA := Lib.hid hrat5
  clear f1 f2 f3 hb10 hb8 hrat5
  go_wp2_with fail
  refine (state_ok p rb sb rn _ _ HRA.out.r).mono ?_
  rintro e w6 ⟨tv, rfl, ht, B6⟩
  obtain ⟨tA, tc, rfl⟩ := own_slice ht
  have hb10 : Blk w6 b10 _ _ := HB10.out.below B6 HB10.out.lt
  have c2 := hb10.cell 2
  have z2 := hb10.frozen 2
  simp at c2
  have HT := Lib.hid ht
  have HB6 := Lib.hid B6
  clear ht B6
  have HBX := Lib.hid hb10
  clear hb10
  go_wp2
  refine hK _ _ (fun h => absurd h hs) ?_
  clear hK K c2 z2
  have hb8 : Blk w6 b8 _ _ := HB8.out.below HB6.out HB8.out.lt
  have hne : b8 ≠ b10 := by have := HG10.out; omega
  have hb10 := (HBX.out).set_ 2 (.slice tA (rn + rn) tc)
  have hb8 := hb8.far (p := ⟨b10, 2, none⟩) hne (.slice tA (rn + rn) tc)
  simp only [List.setIfInBounds_toArray, List.set_cons_zero, List.set_cons_succ] at hb10
  obtain ⟨w7, hw7, g1, g2, g3⟩ : ∃ w7, w7 = w6.setCell ⟨b10, 2, none⟩ (.slice tA (rn + rn) tc) ∧ (∀ b, b ≠ b10 → w7.heap[b]? = w6.heap[b]?) ∧ w7.heap.size = w6.heap.size ∧ w7.os = w6.os ∧ w7.output = w6.output := ⟨_, rfl, fun b hb => Below.heap_setCell _ _ _ _ hb, by simp [World.setCell], rfl, rfl⟩
  rw [← hw7] at hb8 hb10 ⊢
  clear hw7 HBX
  refine Lg.move _ (fun _ _ => step_seq) (fun h => h) ?_
  refine Lg.code fun K hK v τ4 n4 hv => ?_
  subst hv
  have hb10 : Blk v b10 _ _ := hb10
  have hb8 : Blk v b8 _ _ := hb8
  have o0 := hb8.cell 0
  have o1 := hb8.cell 1
  have o2 := hb8.cell 2
  have o3 := hb8.cell 3
  have z0 := hb8.frozen 0
  have z1 := hb8.frozen 1
  have z2 := hb8.frozen 2
  have z3 := hb8.frozen 3
  have e0 := hb10.cell 0
  have e1 := hb10.cell 1
  have e2 := hb10.cell 2
  have e3 := hb10.cell 3
  simp at o0 o1 o2 o3 e0 e1 e2 e3
  have HC8 := Lib.hid hb8
  have HG := Lib.hid (And.intro g1 (And.intro g2 g3))
  clear hb8 hb10 g1 g2 g3
  go_wp2
  refine hK _ _ (fun h => absurd h hs) ?_
  clear hK K o0 o1 o2 o3 z0 z1 z2 z3 e0 e1 e2 e3
  have hb8 := (((HC8.out.set_ 0 (.slice (some ⟨ab, 0, none⟩) n n)).set_ 1 (.slice oA oL oc)).set_ 2 (.slice tA (rn + rn) tc)).set_ 3 (.bool stk)
  simp only [List.setIfInBounds_toArray, List.set_cons_zero, List.set_cons_succ] at hb8
  obtain ⟨w9, hw9, k1, k2, k3⟩ : ∃ w9, w9 = (((v.setCell ⟨b8, 0, none⟩ (.slice (some ⟨ab, 0, none⟩) n n)).setCell ⟨b8, 1, none⟩ (.slice oA oL oc)).setCell ⟨b8, 2, none⟩ (.slice tA (rn + rn) tc)).setCell ⟨b8, 3, none⟩ (.bool stk) ∧ (∀ b, b ≠ b8 → w9.heap[b]? = v.heap[b]?) ∧ w9.heap.size = v.heap.size ∧ w9.os = v.os ∧ w9.output = v.output :=
    ⟨_, rfl, fun b hb => by rw [Below.heap_setCell _ _ _ _ hb, Below.heap_setCell _ _ _ _ hb, Below.heap_setCell _ _ _ _ hb, Below.heap_setCell _ _ _ _ hb], by simp [World.setCell], rfl, rfl⟩
  rw [← hw9] at hb8 ⊢
  clear hw9 HC8
  refine Lg.move _ (fun _ _ => step_ret) (fun h => h) ?_
  refine Lg.leave rfl Try.func10 rfl (v := .agg #[.slice (some ⟨ab, 0, none⟩) n n, .slice oA oL oc, .slice tA (rn + rn) tc, .bool stk]) (fun y τ n' hy => ?_) (HR.out _ _ _ ?_)
  · have c0 : y.cell? ⟨b8, 0, none⟩ = some (.slice (some ⟨ab, 0, none⟩) n n) := by have := hb8.cell 0; rw [hy] at this; exact this
    have c1 : y.cell? ⟨b8, 1, none⟩ = some (.slice oA oL oc) := by have := hb8.cell 1; rw [hy] at this; exact this
    have c2 : y.cell? ⟨b8, 2, none⟩ = some (.slice tA (rn + rn) tc) := by have := hb8.cell 2; rw [hy] at this; exact this
    have c3 : y.cell? ⟨b8, 3, none⟩ = some (.bool stk) := by have := hb8.cell 3; rw [hy] at this; exact this
    simp [results, Try.f10, go_sem, c0, c1, c2, c3]
  obtain ⟨hans, hrat, hov, hBa, hoL, hst, hH⟩ := HX.out
  obtain ⟨f1, f2, f3⟩ := HF.out
  obtain ⟨g1, g2, g3⟩ := HG.out
  have b6 := HB6.out
  have hG := HG10.out
  have hge := HGE.out
  have h8 := HZ2.out
  have hops := HOPS.out
  have ho := HO.out
  have s0 := ho.size
  have s1 := hops.size
  have s6 := b6.size
  have f2 : p.heap.size = w4.heap.size + 1 := f2
  have g2 : v.heap.size = w6.heap.size := g2
  have l8 := HB.out.lt
  subst hoL
  have far : ∀ b, b < w4.heap.size → b ≠ b8 → w9.heap[b]? = w4.heap[b]? := fun b h1 h2 => by
    rw [k1 b h2, show v.heap[b]? = w6.heap[b]? from g1 b (by omega), b6.block b (by omega)]
    exact f1 b h1
  have nbi : ∀ b, b < w0.heap.size → ¬ (ringI rb sb rn).BI b := fun b hb e => by rcases e with e | e <;> omega
  have nb8 : ¬ H b8 := hH b8 _ _ (0, 0) (.inr ⟨by decide, fun e => by rcases e with e | e <;> omega⟩) HB.out
  have hlt : ∀ b, H b ∧ ¬ (b = rb ∨ b = sb) → b < w4.heap.size := fun b hb => by
    obtain ⟨c, t, r, h1, _⟩ := hans.near b hb
    exact lt_of_some h1
  refine ⟨⟨ab, .slice oA R.order.length oc, .slice tA (rn + rn) tc, _, by omega, by rw [hst], ?_, ?_, hans.same fun b hb => far b (hlt b hb) (fun e => nb8 (e ▸ hb.1)), fun b c t r hc hb hH2 => ?_, fun b hb hb2 => ?_⟩, by omega, fun b c t r hc hb => ?_, ?_⟩
  · refine own_base (own_same hov fun b hb => ?_) (show w0.heap.size ≤ u.heap.size by omega)
    rcases hov.2 with ⟨e, _⟩ | ⟨g', cp2, cur, e, hg2, hh2, _⟩
    · rw [e] at hb; simp [Value.ownBlock] at hb
    · rw [e] at hb
      simp only [Value.ownBlock, Option.some.injEq] at hb
      subst hb
      exact far _ (lt_of_some hh2) (by omega)
  · refine own_base (own_same HT.out fun b hb => ?_) (show w0.heap.size ≤ p.heap.size by omega)
    rcases HT.out.2 with ⟨e, _⟩ | ⟨g', cp2, cur, e, hg2, hh2, _⟩
    · rw [e] at hb; simp [Value.ownBlock] at hb
    · rw [e] at hb
      simp only [Value.ownBlock, Option.some.injEq] at hb
      subst hb
      have := HB10.out.lt
      rw [k1 _ (by omega)]
      exact g1 _ (by omega)
  · have hb0 := lt_of_some hb
    exact hH b c t r (hc.imp id fun z => ⟨z, nbi b hb0⟩) ((ho.block b hb0).trans hb) hH2.1
  · rcases HT.out.2 with ⟨e, _⟩ | ⟨g', cp2, cur, e, hg2, hh2, _⟩
    · rw [e] at hb; simp [Value.ownBlock] at hb
    · rw [e] at hb
      simp only [Value.ownBlock, Option.some.injEq] at hb
      subst hb
      have := hlt _ hb2
      omega
  · have h1 := lt_of_some hb
    have h2 := hops.near b c t r (hc.imp id fun z => ⟨z, nbi b h1⟩) ((ho.block b h1).trans hb)
    rw [far b (lt_of_some h2) (by omega)]
    exact h2
  · exact ⟨k3.1.trans (g3.1.trans (b6.os.trans (f3.1.trans (hops.io.1.trans ho.io.1)))), k3.2.trans (g3.2.trans (b6.output.trans (f3.2.trans (hops.io.2.trans ho.io.2))))⟩
end Go.Proofs.Yteainbnoemkfcaa
/- DERIVED. A constant run of Puts and Gets, computed. -/
namespace Go.Proofs.Yteainbnoemkfcaa
open Go.RowKit Go.Turn Go.Tame Go.Conc
set_option linter.unusedVariables false
/-- The operations of the fixed run. -/
def fixOps : Nat → List OpI
  | 0 => [⟨2, 0, 0, 0⟩]
  | 1 => [⟨1, 2, 9, 0⟩]
  | _ => []
def fixRun : Run RSt2 := playRun (brQ (fun _ => doR0 2) fixOps) 2 99 [0, 1, 1, 0, 0, 1] (begS 2 [7] 1, fun _ => [])
theorem fix_ans0 : fixRun.m.s.2 0 = [⟨false, 10, []⟩] := by kernel_rfl
theorem fix_ans1 : fixRun.m.s.2 1 = [⟨true, 0, []⟩] := by decide
theorem fix_state : fixRun.m.s.1.1 0 = 2 ∧ fixRun.m.s.1.1 1 = -2 ∧ fixRun.m.s.1.2 0 = 9 ∧ fixRun.m.s.1.2 1 = 0 := by decide
theorem fix_left : fixRun.m.left 2 = 0 := by decide
end Go.Proofs.Yteainbnoemkfcaa
/- DERIVED. Numbers compared by the document's answer (package carillonref01: SameNumbers). -/
namespace Go.Proofs.Yteainbnoemkfcaa
open Go.RowKit
set_option linter.unusedVariables false
theorem same_from_eq {xs ys : List Int} (hl : xs.length = ys.length) (h : ∀ i, i < xs.length → xs.getD i 0 = ys.getD i 0) : xs = ys := by
  apply List.ext_getElem hl
  intro i h1 h2
  have := h i h1
  simpa [List.getD_eq_getElem?_getD, h1, h2] using this
theorem same_numbers (a b : Value) (xs ys : List Int) (w : World) (ha : IntsAt w a xs) (hb : IntsAt w b ys) (hx : xs.length ≤ maxLen) : Calls Try.prog 20 #[a, b] w fun e w' => e = .returned (.bool (decide (xs = ys))) ∧ ∃ k, w.drewN k = w' := by
  obtain ⟨A, c, rfl, hA⟩ := ha
  obtain ⟨B, d, rfl, hB⟩ := hb
  unfold maxLen at hx
  by_cases hl : xs.length = ys.length
  · have HL := Lib.hid hl
    have hne : ((xs.length : Int) != (ys.length : Int)) = false := by simp [hl]
    have HA := Lib.hid hA
    have HB := Lib.hid hB
    clear hl hA hB
    go_enter Try.func20, Try.ntmps20
    go_wp2
    go_loopw [5] (fun i wr => ∃ j : Nat, j ≤ xs.length ∧ i = .int .i64 j ∧ (∀ i, i < j → xs.getD i 0 = ys.getD i 0) ∧ ∃ k, w.drewN k = wr) (fun i _ => xs.length - (intOf i).toNat)
    case atStart => exact ⟨0, Nat.zero_le _, rfl, fun i hi => absurd hi (by omega), 0, rfl⟩
    case round =>
      obtain ⟨j, hj, rfl, hs, k, rfl⟩ := hrel
      have HS := Lib.hid hs
      clear hs
      by_cases hlt : j < xs.length
      · obtain ⟨b1, o1, rfl, _, e1⟩ := HA.out j hlt
        obtain ⟨b2, o2, rfl, _, e2⟩ := HB.out j (by rw [← HL.out]; exact hlt)
        have hlt' : j < ys.length := by rw [← HL.out]; exact hlt
        obtain ⟨x, hx'⟩ : ∃ x, x = xs.getD j 0 := ⟨_, rfl⟩
        obtain ⟨y, hy'⟩ : ∃ y, y = ys.getD j 0 := ⟨_, rfl⟩
        rw [← hx'] at e1
        rw [← hy'] at e2
        have HX := Lib.hid hx'
        have HY := Lib.hid hy'
        have b0 : (0 : Int) ≤ j := by omega
        have b1' : (j : Int) < xs.length := by omega
        have b2' : (j : Int) < ys.length := by omega
        clear hx' hy'
        go_wp2_with fail
        by_cases hxy : x = y
        · subst hxy
          go_quiet (fail)
          go_wp2
          go_roundw
          case rel => 
            refine ⟨j + 1, by omega, by go_num, fun i hi => ?_, _, rfl⟩
            by_cases h : i = j
            · subst h; rw [← HX.out, ← HY.out]
            · exact HS.out i (by omega)
          case measure => simp [intOf]; omega
        · have hne' : (x != y) = true := by rw [bne_iff_ne]; exact hxy
          go_quiet (fail)
          go_wp2
          go_ret
          refine ⟨?_, _, (World.drewN_drewN ..).symm⟩
          have : ¬ xs = ys := fun e => hxy (by rw [HX.out, HY.out, e])
          simp [this]
      · go_wp2
        go_ret
        refine ⟨?_, _, rfl⟩
        have : xs = ys := same_from_eq HL.out (fun i hi => HS.out i (by omega))
        simp [this]
  · have hne : ((xs.length : Int) != (ys.length : Int)) = true := by rw [bne_iff_ne]; omega
    go_enter Try.func20, Try.ntmps20
    go_wp2
    go_ret
    exact ⟨by simp; intro e; exact hl (by rw [e]), 0, rfl⟩

/-- Numbers built in place. -/
theorem ints_new (w : World) (xs : List Int) (n : Nat) (h : xs.length = n) (t : TypeId) : IntsAt (w.alloc (.cells (xs.map (Value.int .i64)).toArray t)) (.slice (some ⟨w.heap.size, 0, none⟩) n n) xs := by
  subst h
  refine ⟨_, _, rfl, fun i hi => ⟨_, _, rfl, by simp, ?_⟩⟩
  have b := (Blk.new w t (xs.map (Value.int .i64)).toArray).cell (0 + i)
  rw [b, Nat.zero_add]
  simp [List.getD_eq_getElem?_getD, List.getElem?_eq_getElem hi]
end Go.Proofs.Yteainbnoemkfcaa
/- DERIVED. The chapter's examples (carillonlaw11: fixed) hold, goroutine 0 alone. -/
namespace Go.Proofs.Yteainbnoemkfcaa
open Go.RowKit Go.Turn Go.Tame Go.Conc
set_option linter.unusedVariables false
/-- What was near (or there at the call's beginning) stands. -/
structure Kpt (W0 w w' : World) : Prop where
  size : w.heap.size ≤ w'.heap.size
  near : ∀ (b : Nat) (c : Array Value) (t : TypeId) (r : Nat × Nat), (b < W0.heap.size ∨ r.2 < big) → w.heap[b]? = some (.cells c t r) → w'.heap[b]? = some (.cells c t r)
  io : w'.os = w.os ∧ w'.output = w.output
theorem Kpt.refl (W0 w : World) : Kpt W0 w w := ⟨Nat.le_refl _, fun _ _ _ _ _ h => h, rfl, rfl⟩
theorem Kpt.trans {W0 a b c : World} (h : Kpt W0 a b) (k : Kpt W0 b c) : Kpt W0 a c :=
  ⟨Nat.le_trans h.size k.size, fun i cs t r hc hb => k.near i cs t r hc (h.near i cs t r hc hb), k.io.1.trans h.io.1, k.io.2.trans h.io.2⟩
theorem Kpt.old {W0 a b : World} (h : Old a.heap.size a b) : Kpt W0 a b := ⟨h.size, fun i c t r _ hb => (h.block i (lt_of_some hb)).trans hb, h.io⟩
theorem Kpt.re {W0 a y : World} {τ : Nat → Question → Nat} {n : Nat} (h : Kpt W0 a (y.re τ n)) : Kpt W0 a y := ⟨h.size, h.near, h.io⟩
theorem Kpt.er {W0 y b : World} {τ : Nat → Question → Nat} {n : Nat} (h : Kpt W0 (y.re τ n) b) : Kpt W0 y b := ⟨h.size, h.near, h.io⟩
theorem Kpt.then {W0 a b c : World} (h : Kpt W0 a b) (k : Old a.heap.size b c) : Kpt W0 a c :=
  ⟨Nat.le_trans h.size k.size, fun i cs t r hc hb => (k.block i (lt_of_some hb)).trans (h.near i cs t r hc hb), k.io.1.trans h.io.1, k.io.2.trans h.io.2⟩
theorem Old.kept {S : Nat → Prop} {B : Nat} {w w' : World} (h : Kept S w w') (hS : ∀ b, S b → B ≤ b) (hB : B ≤ w.heap.size) : Old B w w' :=
  ⟨h.size, fun b hb => h.block b (by omega) (fun z => by have := hS b z; omega), h.os, h.output⟩
theorem PlayDone.kpt {W0 : World} {rn : Nat} {R : Run RSt2} {n : Nat} {w0 : World} {v : Value} {w' : World} (h : PlayDone W0 rn R n w0 v w') : Kpt W0 w0 w' := ⟨h.size, h.near, h.io⟩
/-- Five blocks laid one behind the other. -/
theorem five_boxes (y : World) (o0 o1 o2 o3 o4 : Obj) {w : World} (hw : w = ((((y.alloc o0).alloc o1).alloc o2).alloc o3).alloc o4) :
    w.heap[y.heap.size]? = some o0 ∧ w.heap[y.heap.size + 1]? = some o1 ∧ w.heap[y.heap.size + 1 + 1]? = some o2 ∧ w.heap[y.heap.size + 1 + 1 + 1]? = some o3 ∧ w.heap[y.heap.size + 1 + 1 + 1 + 1]? = some o4 ∧ w.heap.size = y.heap.size + 5 ∧ Old y.heap.size y w := by
  subst hw
  have s1 : (y.alloc o0).heap.size = y.heap.size + 1 := by simp
  have s2 : ((y.alloc o0).alloc o1).heap.size = y.heap.size + 1 + 1 := by simp
  have s3 : (((y.alloc o0).alloc o1).alloc o2).heap.size = y.heap.size + 1 + 1 + 1 := by simp
  have s4 : ((((y.alloc o0).alloc o1).alloc o2).alloc o3).heap.size = y.heap.size + 1 + 1 + 1 + 1 := by simp
  have n0 := heap_alloc_new y o0
  have n1 := heap_alloc_new (y.alloc o0) o1
  have n2 := heap_alloc_new ((y.alloc o0).alloc o1) o2
  have n3 := heap_alloc_new (((y.alloc o0).alloc o1).alloc o2) o3
  have n4 := heap_alloc_new ((((y.alloc o0).alloc o1).alloc o2).alloc o3) o4
  rw [s1] at n1
  rw [s2] at n2
  rw [s3] at n3
  rw [s4] at n4
  have up : ∀ (w : World) (o : Obj) (b : Nat) (u : Obj), w.heap[b]? = some u → (w.alloc o).heap[b]? = some u := fun w o b u h => (Below.heap_alloc w o b (lt_of_some h)).trans h
  refine ⟨up _ _ _ _ (up _ _ _ _ (up _ _ _ _ (up _ _ _ _ n0))), up _ _ _ _ (up _ _ _ _ (up _ _ _ _ n1)), up _ _ _ _ (up _ _ _ _ n2), up _ _ _ _ n3, n4, by simp, ?_⟩
  exact ((((((Old.refl _ y).new (Nat.le_refl _) o0).new (by omega) o1).new (by omega) o2).new (by omega) o3).new (by omega) o4)
/-- A thread's only answer, in memory. -/
theorem AnsAll.one {w : World} {ab n : Nat} {ans : Nat → List Ans} {H : Nat → Prop} (h : AnsAll w ab n ans H) {i : Nat} (hi : i < n) {a : Ans} (ha : ans i = [a]) : ∃ g c, w.cell? ⟨ab, i, none⟩ = some (.slice (some ⟨g, 0, none⟩) 1 c) ∧ 1 ≤ c ∧ w.cell? ⟨g, 0, none⟩ = some (.bool a.ok) ∧ w.cell? ⟨g, 1, none⟩ = some (.int .i64 a.n) := by
  obtain ⟨rw_, c, h1, h2, h3, h4, _⟩ := h.rows
  obtain ⟨xs, k1, k2, k3⟩ := h4 i hi
  rw [ha] at k1 k2
  obtain ⟨lv, xs', rfl, _, _, e⟩ := k2
  have e : xs' = [] := e
  subst e
  have c0 : w.cell? ⟨ab, i, none⟩ = some (rw_ i) := (cell_of_row w ab i c _ (0, 0) h1).trans (h3 i hi)
  rcases k1.2 with ⟨_, e⟩ | ⟨g, cp, cur, e, _, hh, hle, _, hsz, htake⟩
  · simp at e
  · have e : rw_ i = .slice (some ⟨g, 0, none⟩) 1 cp := e
    have hb : Blk w g 46 cur := hh
    have hcell : ∀ j u, [Value.bool a.ok, .int .i64 a.n, lv][j]? = some u → w.cell? ⟨g, j, none⟩ = some u := fun j u hj => by
      rw [hb.cell j]
      have h1 : (cur.toList.take (1 * 3))[j]? = some u := by
        have : (cur.toList.take (1 * 3)) = [Value.bool a.ok, .int .i64 a.n, lv] := htake
        rw [this]; exact hj
      rw [List.getElem?_take] at h1
      split at h1
      · simpa using h1
      · cases h1
    exact ⟨g, cp, by rw [c0, e], hle, hcell 0 _ rfl, hcell 1 _ rfl⟩
set_option maxHeartbeats 2000000 in
set_option maxRecDepth 100000 in
theorem fixed_true (hP : Prog Try.prog) (Post : Value → World → Prop) (W0 w0 : World) (hle : W0.heap.size ≤ w0.heap.size) : Ccalls (lgA hP Post W0) 8 #[] () w0 fun v _ w' => v = .bool true ∧ Kpt W0 w0 w' := by
  intro c mid hR
  have HR := Lib.hid hR
  clear hR
  have hs : ¬ (lgA hP Post W0).strict := fun h => h
  rw [show Frame.enter Try.prog 8 #[] .normal = Frame.at { (default : Frame) with fn := 8, kind := .normal } ⟨#[] ++ Array.replicate (Try.f8.ntmps - 0) undef, []⟩ [.code (Try.f8.body.getD .skip)] from by simp [Frame.enter, Frame.at, Try.func8]; rfl]
  simp only [Try.f8, Option.getD_some, Nat.reduceSub, Array.replicate_succ, Array.replicate_zero, List.push_toArray, List.append_toArray, List.nil_append, List.cons_append]
  refine Lg.move _ (fun _ _ => step_seq) (fun h => h) ?_
  refine Lg.code fun K hK y τ n' hy => ?_
  have hst : Kpt W0 w0 y := by rw [hy]; exact (Kpt.refl _ (y.re τ n')).re
  have hsz : y.heap.size = w0.heap.size := by rw [hy]; rfl
  have HSZ := Lib.hid hsz
  clear hy hsz
  go_wp2
  refine hK _ _ (fun h => absurd h hs) ?_
  clear hK K
  refine Lg.move _ (fun _ _ => step_seq) (fun h => h) ?_
  refine Lg.move _ (fun _ _ => step_region) (fun h => h) ?_
  refine Lg.pre 0 7 3 (by simp) fun K hK z τ n' hz => ?_
  subst hz
  have hst := hst.re
  have hsz2 : z.heap.size = w0.heap.size := HSZ.out
  clear HSZ
  have HSZ := Lib.hid hsz2
  clear hsz2
  have HST := Lib.hid hst
  clear hst
  simp only [List.drop_zero, List.take_succ_cons, List.take_zero]
  go_wp2
  refine hK _ _ (fun h => absurd h hs) ?_
  clear hK K
  generalize hw : World.alloc _ _ = w1
  obtain ⟨f0, f1, f2, f3, f4, f5, f6⟩ := five_boxes z _ _ _ _ _ hw.symm
  clear hw
  generalize z.heap.size = B at f0 f1 f2 f3 f4 f5 HSZ ⊢
  have hk1 : Kpt W0 w0 w1 := HST.out.trans (Kpt.old f6)
  obtain ⟨b1, hb1⟩ : ∃ b1, b1 = B + 1 := ⟨_, rfl⟩
  obtain ⟨b2, hb2⟩ : ∃ b2, b2 = B + 1 + 1 := ⟨_, rfl⟩
  obtain ⟨b3, hb3⟩ : ∃ b3, b3 = B + 1 + 1 + 1 := ⟨_, rfl⟩
  obtain ⟨b4, hb4⟩ : ∃ b4, b4 = B + 1 + 1 + 1 + 1 := ⟨_, rfl⟩
  rw [← hb4] at f4 ⊢
  rw [← hb3] at f3 ⊢
  rw [← hb2] at f2 f3 ⊢
  rw [← hb1] at f1 f3 ⊢
  have hstart : NumsIn w1 (some ⟨B, 0, none⟩) 2 (((2 : Nat) : Int) :: [7]) := ⟨by decide, by unfold maxLen; decide, fun i hi => ⟨B, 0, rfl, by
    rw [cell_of_row w1 B (0 + i) _ _ _ f0]
    match i, hi with
    | 0, _ => rfl
    | 1, _ => rfl⟩⟩
  have hrows : RowsAt w1 b3 0 2 (fun i => if i = 0 then some ⟨b1, 0, none⟩ else some ⟨b2, 0, none⟩) (fun _ => 1) (fun _ => 1) := ⟨fun i hi => by
    rw [cell_of_row w1 b3 (0 + i) _ _ _ f3]
    match i, hi with
    | 0, _ => rfl
    | 1, _ => rfl, fun _ _ => Nat.le_refl _, fun _ _ => by unfold maxLen; decide, fun i hi h => by split at h <;> cases h⟩
  have hin : OpsCells W0 PG w1 2 (fun i => if i = 0 then some ⟨b1, 0, none⟩ else some ⟨b2, 0, none⟩) (fun _ => 1) fixOps := ⟨fun i hi => by
      match i, hi with
      | 0, _ => rfl
      | 1, _ => rfl, fun i hi o ho => by
      match i, hi with
      | 0, _ => simp only [fixOps, List.mem_singleton] at ho; subst ho; exact ⟨.inr rfl, by decide, by decide⟩
      | 1, _ => simp only [fixOps, List.mem_singleton] at ho; subst ho; exact ⟨.inl rfl, by decide, by decide⟩, fun i hi j hj => by
      match i, hi with
      | 0, _ =>
        have hj0 : j = 0 := by have : j < 1 := hj; omega
        subst hj0
        exact ⟨b1, 0, _, _, _, rfl, f1, .inl (by decide), fun m hm => by
          match m, hm with
          | 0, _ => rfl
          | 1, _ => rfl
          | 2, _ => rfl
          | 3, _ => rfl⟩
      | 1, _ =>
        have hj0 : j = 0 := by have : j < 1 := hj; omega
        subst hj0
        exact ⟨b2, 0, _, _, _, rfl, f2, .inl (by decide), fun m hm => by
          match m, hm with
          | 0, _ => rfl
          | 1, _ => rfl
          | 2, _ => rfl
          | 3, _ => rfl⟩⟩
  have hsch : SchI W0 (.slice (some ⟨b4, 0, none⟩) 6 6) [0, 1, 1, 0, 0, 1] (fun b => ∃ i o, i < 2 ∧ (if i = 0 then some (⟨b1, 0, none⟩ : Addr) else some ⟨b2, 0, none⟩) = some ⟨b, o, none⟩) w1 := ⟨⟨_, _, rfl, fun i hi => ⟨b4, 0, _, _, _, rfl, f4, .inr ⟨by decide, fun ⟨i, o, h1, h2⟩ => by
      split at h2 <;> (cases h2; omega)⟩, by
      match i, hi with
      | 0, _ => rfl
      | 1, _ => rfl
      | 2, _ => rfl
      | 3, _ => rfl
      | 4, _ => rfl
      | 5, _ => rfl⟩⟩, by unfold maxLen; decide⟩
  have hpl := play_calls hP Post W0 2 (by decide) (by decide) (by decide) [7] (by decide) (some ⟨B, 0, none⟩) 2 PG (fun _ => doR0 2) b3 0 2 2 (by unfold maxLen; decide) (by decide) (fun i => if i = 0 then some ⟨b1, 0, none⟩ else some ⟨b2, 0, none⟩) (fun _ => 1) (fun _ => 1) fixOps (.slice (some ⟨b4, 0, none⟩) 6 6) [0, 1, 1, 0, 0, 1] 99 w1 hstart hrows hin hsch (fun rb sb B i => ring_do B rb sb 2 (by decide) (by decide) i) (fun rb sb B i => doR_ok B rb sb 2 i)
  refine Lg.call (i := 7) (rest := [8, 9]) (f := 10) (args := #[.slice (some ⟨B, 0, none⟩) 2 2, .slice (some ⟨b3, 0, none⟩) 2 2, .slice (some ⟨b4, 0, none⟩) 6 6, .int .i64 99]) rfl rfl (fun y => by go_simp) hpl ?_
  rintro vv t'' w2 hdone
  rw [show (heldI 99 1048576).toNat = 99 from by decide] at hdone
  have hd : PlayDone W0 2 fixRun 2 w1 vv w2 := hdone
  clear hdone hpl hsch hin hrows hstart f0 f1 f2 f3 f4 f5 f6
  have hk2 := hk1.trans hd.kpt
  obtain ⟨ab, ov, tv, H, hab, hvv, hov, htv, hans, hnear, htv2⟩ := hd.ex
  obtain ⟨g0, c0, a0, a1, a2, a3⟩ := hans.one (i := 0) (by decide) fix_ans0
  have hnum := IntsAt.of_own htv
  have e4 : rowN fixRun.m.s.1.1 2 ++ rowN fixRun.m.s.1.2 2 = [2, -2, 9, 0] := by
    obtain ⟨x1, x2, x3, x4⟩ := fix_state
    show [fixRun.m.s.1.1 0, fixRun.m.s.1.1 1, fixRun.m.s.1.2 0, fixRun.m.s.1.2 1] = _
    rw [x1, x2, x3, x4]
  rw [e4] at hnum
  obtain ⟨oA, oc, rfl⟩ := own_slice hov
  obtain ⟨tA, tc, rfl⟩ := own_slice htv
  obtain ⟨stk, hstk⟩ : ∃ stk : Bool, stk = decide (0 < fixRun.m.left 2) := ⟨_, rfl⟩
  rw [← hstk] at hvv
  generalize fixRun.order.length = oL at hvv
  subst hvv
  have HX := Lib.hid (And.intro hk2 (And.intro a0 (And.intro a1 (And.intro a2 (And.intro a3 hnum)))))
  clear hd hk1 hk2 hans hnear htv htv2 hov a0 a1 a2 a3 hnum e4 hstk hab hb1 hb2 hb3 hb4 HST HSZ
  rw [Frame.finish_at]
  walk_nrm
  refine (show (lgA hP Post W0).T _ (Frame.at _ ⟨_, []⟩ (.inRegion _ (List.range' 8 (2 + 0)) :: _)) (c :: mid) w2 from ?_)
  refine Lg.pre 8 2 0 (by simp) fun K hK q τ n' hq => ?_
  subst hq
  have HX := HX
  simp only [List.drop_succ_cons, List.drop_zero, List.take_succ_cons, List.take_zero]
  go_wp2
  refine hK _ _ (fun h => absurd h hs) ?_
  clear hK K
  refine Lg.move _ (fun _ _ => step_region_end) (fun h => h) ?_
  refine Lg.rest (R := fun v w' => v = .bool true ∧ Kpt W0 w0 w') (fun h => h) rfl Try.func8 (fun y τ2 n2 hy => ?_) (fun v w' h => HR.out v _ w' h)
  obtain ⟨hk2, a0, a1, a2, a3, hnum⟩ := HX.out
  have hk2 := hk2.re
  have a0 : q.cell? ⟨ab, 0, none⟩ = _ := a0
  have a2 : q.cell? ⟨g0, 0, none⟩ = _ := a2
  have a3 : q.cell? ⟨g0, 1, none⟩ = _ := a3
  have hnum : IntsAt q (.slice tA 4 tc) [2, -2, 9, 0] := hnum
  have hb5 := Blk.new q 31 #[.slice (some ⟨ab, 0, none⟩) 2 2, .slice oA oL oc, .slice tA 4 tc, .bool stk]
  have up : ∀ b o v, q.cell? ⟨b, o, none⟩ = some v → (q.alloc (.cells #[.slice (some ⟨ab, 0, none⟩) 2 2, .slice oA oL oc, .slice tA 4 tc, .bool stk] 31)).cell? ⟨b, o, none⟩ = some v := fun b o v h => (World.cell?_of_block (w := q) (a := ⟨b, o, none⟩) (Below.heap_alloc _ _ _ (lt_of_cell h))).trans h
  have a0 := up _ _ _ a0
  have a2 := up _ _ _ a2
  have a3 := up _ _ _ a3
  have hnum := hnum.kept (Kept.alloc (S := fun _ => False) q (.cells #[.slice (some ⟨ab, 0, none⟩) 2 2, .slice oA oL oc, .slice tA 4 tc, .bool stk] 31)) (fun _ _ _ _ h => h)
  have hk5 := hk2.trans (Kpt.old ((Old.refl q.heap.size q).new (Nat.le_refl _) (.cells #[.slice (some ⟨ab, 0, none⟩) 2 2, .slice oA oL oc, .slice tA 4 tc, .bool stk] 31)))
  generalize q.heap.size = b5 at hb5 ⊢
  generalize q.alloc (.cells #[.slice (some ⟨ab, 0, none⟩) 2 2, .slice oA oL oc, .slice tA 4 tc, .bool stk] 31) = w5 at hb5 a0 a2 a3 hnum hk5 hy
  subst hy
  have a0 : y.cell? ⟨ab, 0, none⟩ = _ := a0
  have a2 : y.cell? ⟨g0, 0, none⟩ = _ := a2
  have a3 : y.cell? ⟨g0, 1, none⟩ = _ := a3
  have hb5 : Blk y b5 _ _ := hb5
  have t0 := hb5.cell 0
  have t2 := hb5.cell 2
  simp at t0 t2 a2 a3
  have HN := Lib.hid hnum
  have HK := Lib.hid hk5.re
  clear hk2 hk5 hnum hb5 up HX
  go_wp2_with fail
  have i1 := (show IntsAt y _ _ from HN.out).kept (Kept.alloc (S := fun _ => False) y (.cells #[.int .i64 2, .int .i64 (-2), .int .i64 9, .int .i64 0] 2)) (fun _ _ _ _ h => h)
  have i2 := ints_new y [2, -2, 9, 0] 4 rfl 2
  refine (same_numbers _ _ [2, -2, 9, 0] [2, -2, 9, 0] _ i1 i2 (by unfold maxLen; decide)).mono ?_
  rintro e w' ⟨rfl, k, rfl⟩
  clear i1 i2
  have hk6 := HK.out.trans (Kpt.old ((Old.refl y.heap.size y).new (Nat.le_refl _) (.cells #[.int .i64 2, .int .i64 (-2), .int .i64 9, .int .i64 0] 2)))
  have hk6 : Kpt W0 w0 ((y.alloc (.cells #[.int .i64 2, .int .i64 (-2), .int .i64 9, .int .i64 0] 2)).drewN k) := ⟨hk6.size, hk6.near, hk6.io⟩
  clear a0 a2 a3 t0 t2 HN HK
  generalize ((y.alloc (.cells #[.int .i64 2, .int .i64 (-2), .int .i64 9, .int .i64 0] 2)).drewN k) = w6 at hk6 ⊢
  have HK := Lib.hid hk6
  clear hk6
  go_wp2_with fail
  refine (new_ok 2 w6 (by decide) (by decide) (by decide)).mono ?_
  rintro e w7 ⟨rfl, R0, B0, Z0⟩
  have hk7 := HK.out.trans (Kpt.old (Old.of B0))
  have hsb : w0.heap.size ≤ w6.heap.size := HK.out.size
  clear HK
  generalize w6.heap.size + 1 = rb at R0 ⊢
  generalize w6.heap.size = sb at R0 hsb
  have HSB := Lib.hid hsb
  clear hsb
  clear B0 Z0
  have HK := Lib.hid hk7
  have HR0 := Lib.hid R0
  clear hk7 R0
  go_wp2_with fail
  refine (put_n rb sb 2 _ _ 0 7 w7 HR0.out (by decide) (by decide)).mono ?_
  rintro e w8 ⟨rfl, R1, K1, Z1, -⟩
  have K1 := Lib.hid K1
  have HR1 := Lib.hid R1
  clear R1 HR0 Z1
  go_wp2_with fail
  refine (put_n rb sb 2 _ _ 1 8 w8 HR1.out (by decide) (by decide)).mono ?_
  rintro e w9 ⟨rfl, R2, K2, Z2, -⟩
  have K2 := Lib.hid K2
  have HR2 := Lib.hid R2
  clear R2 HR1 Z2
  go_wp2_with fail
  refine (put_n rb sb 2 _ _ 2 9 w9 HR2.out (by decide) (by decide)).mono ?_
  rintro e w10 ⟨rfl, R3, K3, Z3, -⟩
  have K3 := Lib.hid K3
  have HR3 := Lib.hid R3
  clear R3 HR2 Z3
  go_wp2_with fail
  refine (get_ok Stepper.none slots_step_none 0 rb sb 2 _ _ 2 w10 HR3.out (by decide) (by decide) (by decide) trivial id id).mono ?_
  rintro e w11 ⟨rfl, K4, Z4, -⟩
  rw [show (upd (upd (upd (fun _ => 0) ((0 : Int) % (2 : Nat)).toNat 7) ((1 : Int) % (2 : Nat)).toNat 8) ((2 : Int) % (2 : Nat)).toNat 9) ((2 : Int) % (2 : Nat)).toNat = 9 from by decide]
  have HR4 := Lib.hid (HR3.out.kept K4 id id)
  have K4 := Lib.hid K4
  clear HR3 Z4
  go_wp2_with fail
  refine (get_lost Stepper.none slots_step_none 0 rb sb 2 _ _ 0 w11 HR4.out (by decide) (by decide) (by decide) trivial id id).mono ?_
  rintro e w12 ⟨rfl, K5, Z5, -⟩
  have HR5 := Lib.hid (HR4.out.kept K5 id id)
  have K5 := Lib.hid K5
  clear HR4 Z5
  go_wp2_with fail
  refine (highest_x Stepper.none slots_step_none 0 rb sb 2 _ _ 1 5 w12 HR5.out (by decide) (by decide) (by decide) (by decide) trivial id id).mono ?_
  rintro e w13 ⟨rfl, K6, Z6, -⟩
  rw [show (highR (upd (upd (upd (fun _ => -2) ((0 : Int) % (2 : Nat)).toNat (2 * ((0 : Int) / (2 : Nat)))) ((1 : Int) % (2 : Nat)).toNat (2 * ((1 : Int) / (2 : Nat)))) ((2 : Int) % (2 : Nat)).toNat (2 * ((2 : Int) / (2 : Nat)))) 2 (highN 2 1 5) 1).1 = 2 from by decide]
  have HR6 := Lib.hid (HR5.out.kept K6 id id)
  have K6 := Lib.hid K6
  clear HR5 Z6
  go_wp2_with fail
  refine (there_x Stepper.none slots_step_none 0 rb sb 2 _ _ 1 w13 HR6.out (by decide) (by decide) trivial id id).mono ?_
  rintro e w14 ⟨rfl, K7, Z7, -⟩
  rw [show ((upd (upd (upd (fun _ => -2) ((0 : Int) % (2 : Nat)).toNat (2 * ((0 : Int) / (2 : Nat)))) ((1 : Int) % (2 : Nat)).toNat (2 * ((1 : Int) / (2 : Nat)))) ((2 : Int) % (2 : Nat)).toNat (2 * ((2 : Int) / (2 : Nat)))) ((1 : Int) % (2 : Nat)).toNat == 2 * ((1 : Int) / (2 : Nat))) = true from by decide]
  have HR7 := Lib.hid (HR6.out.kept K7 id id)
  have K7 := Lib.hid K7
  clear HR6 Z7
  go_wp2_with fail
  refine (there_x Stepper.none slots_step_none 0 rb sb 2 _ _ 0 w14 HR7.out (by decide) (by decide) trivial id id).mono ?_
  rintro e w15 ⟨rfl, K8, Z8, -⟩
  rw [show ((upd (upd (upd (fun _ => -2) ((0 : Int) % (2 : Nat)).toNat (2 * ((0 : Int) / (2 : Nat)))) ((1 : Int) % (2 : Nat)).toNat (2 * ((1 : Int) / (2 : Nat)))) ((2 : Int) % (2 : Nat)).toNat (2 * ((2 : Int) / (2 : Nat)))) ((0 : Int) % (2 : Nat)).toNat == 2 * ((0 : Int) / (2 : Nat))) = false from by decide]
  have K8 := Lib.hid K8
  clear HR7 Z8
  go_wp2
  go_ret
  refine ⟨_, rfl, rfl, HK.out.then ?_⟩
  have h7 := HK.out.size
  have P : ∀ {a b : World}, Kept (fun b => b = sb) a b → w0.heap.size ≤ a.heap.size → Old w0.heap.size a b := fun k h => Old.kept k (fun b e => by rw [e]; exact HSB.out) h
  have N : ∀ {a b : World}, Kept Stepper.none.own a b → w0.heap.size ≤ a.heap.size → Old w0.heap.size a b := fun k h => Old.kept k (fun b e => e.elim) h
  have o1 := P K1.out h7
  have o2 := o1.trans (P K2.out (by have := K1.out.size; omega))
  have o3 := o2.trans (P K3.out (by have := o2.size; omega))
  have o4 := o3.trans (N K4.out (by have := o3.size; omega))
  have o5 := o4.trans (N K5.out (by have := o4.size; omega))
  have o6 := o5.trans (N K6.out (by have := o5.size; omega))
  have o7 := o6.trans (N K7.out (by have := o6.size; omega))
  exact o7.trans (N K8.out (by have := o7.size; omega))
end Go.Proofs.Yteainbnoemkfcaa
/- DERIVED. The ring of slots (package slots), lone: what is asked out of bounds; nil and zero rings. -/
namespace Go.Proofs.Yteainbnoemkfcaa
open Go.RowKit
set_option linter.unusedVariables false
/-- No ring, or the zero one. -/
def Zr (w : World) (p : Option Addr) : Prop := p = none ∨ ∃ a, p = some a ∧ w.cell? a = some (.slice none 0 0)
theorem size_zero (p : Option Addr) (w : World) (h : Zr w p) : Calls Try.prog 14 #[.pointer p] w fun e w' => e = .returned (.int .i64 0) ∧ w = w' := by
  rcases h with rfl | ⟨a, rfl, h⟩
  · exact size_nil w
  · exact size_ring a none 0 0 w h
/-- Out of bounds. -/
def BadAt (p : Option Addr) (q : Int) (w : World) : Prop := Calls Try.prog 38 #[.pointer p, .int .i64 q] w fun e w' => e = .returned (.bool false) ∧ w = w'
theorem bad_zero (p : Option Addr) (q : Int) (w : World) (h : Zr w p) : BadAt p q w := by
  unfold BadAt
  go_enter Try.func38, Try.ntmps38
  go_wp2_with (go_at_call 14; refine (size_zero p w h).mono ?_; rintro e w' ⟨rfl, rfl⟩)
  go_ret
  exact ⟨by simp, rfl⟩
theorem bad_low (a : Addr) (sa : Option Addr) (n c : Nat) (q : Int) (w : World) (h : w.cell? a = some (.slice sa n c)) (hq : q < 0) : BadAt (some a) q w := by
  unfold BadAt
  by_cases hn : 0 < n
  · go_enter Try.func38, Try.ntmps38
    go_wp2
    go_ret
    exact ⟨by first | (simp; done) | (simp; omega), rfl⟩
  · go_enter Try.func38, Try.ntmps38
    go_wp2
    go_ret
    exact ⟨by first | (simp; done) | (simp; omega), rfl⟩
theorem bad_high (a : Addr) (sa : Option Addr) (n c : Nat) (q : Int) (w : World) (h : w.cell? a = some (.slice sa n c)) (hq : 4611686018427387904 ≤ q) : BadAt (some a) q w := by
  unfold BadAt
  by_cases hn : 0 < n
  · go_enter Try.func38, Try.ntmps38
    go_wp2
    go_ret
    exact ⟨by first | (simp; done) | (simp; omega), rfl⟩
  · go_enter Try.func38, Try.ntmps38
    go_wp2
    go_ret
    exact ⟨by first | (simp; done) | (simp; omega), rfl⟩
section
variable {p : Option Addr} {q : Int} {w : World}
theorem put_bad (h : BadAt p q w) (S : Value) (v : Int) : Calls Try.prog 23 #[.pointer p, S, .int .i64 q, .int .i64 v] w fun e w' => e = .returned (.int .i64 1) ∧ w = w' := by
  go_enter Try.func23, Try.ntmps23
  go_wp2_with (go_at_call 38; refine (show Calls _ _ _ _ _ from h).mono ?_; rintro e w' ⟨rfl, rfl⟩)
  go_ret
  exact ⟨rfl, rfl⟩
theorem get_bad (h : BadAt p q w) (S : Value) : Calls Try.prog 25 #[.pointer p, S, .int .i64 q] w fun e w' => e = .returned (.tuple #[.int .i64 0, .int .i64 1]) ∧ w = w' := by
  go_enter Try.func25, Try.ntmps25
  go_wp2_with (go_at_call 38; refine (show Calls _ _ _ _ _ from h).mono ?_; rintro e w' ⟨rfl, rfl⟩)
  go_ret2
  exact ⟨rfl, rfl⟩
theorem there_bad (h : BadAt p q w) (S : Value) : Calls Try.prog 26 #[.pointer p, S, .int .i64 q] w fun e w' => e = .returned (.bool false) ∧ w = w' := by
  go_enter Try.func26, Try.ntmps26
  go_wp2_with (go_at_call 38; refine (show Calls _ _ _ _ _ from h).mono ?_; rintro e w' ⟨rfl, rfl⟩)
  go_ret
  exact ⟨rfl, rfl⟩
theorem gather_bad (h : BadAt p q w) (S : Value) (m : Int) : Calls Try.prog 28 #[.pointer p, S, .int .i64 q, .int .i64 m] w fun e w' => e = .returned (.tuple #[.slice none 0 0, .int .i64 1]) ∧ w = w' := by
  go_enter Try.func28, Try.ntmps28
  go_wp2_with (go_at_call 38; refine (show Calls _ _ _ _ _ from h).mono ?_; rintro e w' ⟨rfl, rfl⟩)
  go_ret2
  exact ⟨rfl, rfl⟩
theorem slot_bad (h : BadAt p q w) : Calls Try.prog 18 #[.pointer p, .int .i64 q] w fun e w' => e = .returned (.int .i64 0) ∧ w = w' := by
  go_enter Try.func18, Try.ntmps18
  go_wp2_with (go_at_call 38; refine (show Calls _ _ _ _ _ from h).mono ?_; rintro e w' ⟨rfl, rfl⟩)
  go_ret
  exact ⟨rfl, rfl⟩
theorem lap_bad (h : BadAt p q w) : Calls Try.prog 19 #[.pointer p, .int .i64 q] w fun e w' => e = .returned (.int .i64 (-1)) ∧ w = w' := by
  go_enter Try.func19, Try.ntmps19
  go_wp2_with (go_at_call 38; refine (show Calls _ _ _ _ _ from h).mono ?_; rintro e w' ⟨rfl, rfl⟩)
  go_ret
  exact ⟨rfl, rfl⟩
/-- The sequence just before. -/
def pre64 (q : Int) : Int := if q = -9223372036854775808 then q else q - 1
theorem highest_bad (h : BadAt p q w) (S : Value) (t : Int) (hq : -9223372036854775808 ≤ q) (hq2 : q < 9223372036854775808) : Calls Try.prog 27 #[.pointer p, S, .int .i64 q, .int .i64 t] w fun e w' => e = .returned (.int .i64 (pre64 q)) ∧ w = w' := by
  unfold pre64
  by_cases hm : q = -9223372036854775808
  · subst hm
    go_enter Try.func27, Try.ntmps27
    go_wp2_with (go_at_call 38; refine (show Calls _ _ _ _ _ from h).mono ?_; rintro e w' ⟨rfl, rfl⟩)
    go_ret
    exact ⟨rfl, rfl⟩
  · have hb : (q == -9223372036854775808) = false := by simpa using hm
    go_enter Try.func27, Try.ntmps27
    go_wp2_with (go_at_call 38; refine (show Calls _ _ _ _ _ from h).mono ?_; rintro e w' ⟨rfl, rfl⟩)
    go_ret
    exact ⟨rfl, rfl⟩
end
theorem stamps_zero (p : Option Addr) (w : World) (h : Zr w p) : Calls Try.prog 21 #[.pointer p] w fun e w' => e = .returned (.slice none 0 0) ∧ w = w' := by
  go_enter Try.func21, Try.ntmps21
  go_wp2_with (go_at_call 14; refine (size_zero p w h).mono ?_; rintro e w' ⟨rfl, rfl⟩)
  go_loopw [3, 7] (fun o i wr => o = .slice none 0 0 ∧ i = .int .i64 0 ∧ wr = w) (fun _ _ _ => 0)
  case atStart => exact ⟨rfl, rfl, rfl⟩
  case round =>
    obtain ⟨rfl, rfl, rfl⟩ := hrel
    go_wp2
    go_ret
    exact ⟨rfl, rfl⟩
theorem values_zero (p : Option Addr) (w : World) (h : Zr w p) : Calls Try.prog 22 #[.pointer p] w fun e w' => e = .returned (.slice none 0 0) ∧ w = w' := by
  go_enter Try.func22, Try.ntmps22
  go_wp2_with (go_at_call 14; refine (size_zero p w h).mono ?_; rintro e w' ⟨rfl, rfl⟩)
  go_loopw [3, 7] (fun o i wr => o = .slice none 0 0 ∧ i = .int .i64 0 ∧ wr = w) (fun _ _ _ => 0)
  case atStart => exact ⟨rfl, rfl, rfl⟩
  case round =>
    obtain ⟨rfl, rfl, rfl⟩ := hrel
    go_wp2
    go_ret
    exact ⟨rfl, rfl⟩
end Go.Proofs.Yteainbnoemkfcaa
namespace Go.Proofs.Yteainbnoemkfcaa
open Go.ChangeShapes Go.WideShapes Go.ChangeAt Go.RowKit Go.Deep
set_option linter.unusedVariables false
/-- The operations of a slice of operations, by their places. -/
def OpsAt (w : World) (A : Option Addr) (len : Nat) : Prop :=
  ∀ j, j < len → ∃ (b o : Nat) (kd a x y : Int), A = some ⟨b, o, none⟩ ∧ b < w.heap.size ∧ (-9223372036854775808 ≤ a ∧ a < 9223372036854775808) ∧ w.cell? ⟨b, o + j * 4, none⟩ = some (.int .i64 kd) ∧ w.cell? ⟨b, o + j * 4 + 1, none⟩ = some (.int .i64 a) ∧ w.cell? ⟨b, o + j * 4 + 2, none⟩ = some (.int .i64 x) ∧ w.cell? ⟨b, o + j * 4 + 3, none⟩ = some (.int .i64 y)
theorem spot_none {w : World} {p : Addr} {v : Value} (h : w.cell? p = some v) : p.spot = none ∧ p.block < w.heap.size := by
  unfold World.cell? at h
  cases ho : w.heap[p.block]? with
  | none => rw [ho] at h; cases h
  | some x =>
    have hlt : p.block < w.heap.size := (Array.getElem?_eq_some_iff.1 ho).1
    rw [ho] at h
    cases x with
    | cells c t r =>
      simp only at h
      split at h
      · cases h
      · rename_i hs
        exact ⟨by simpa using hs, hlt⟩
    | _ => cases h
theorem Try.opCells : Try.prog.cellsOf 49 = 4 := by kernel_rfl
theorem Try.intCells : Try.prog.cellsOf 3 = 1 := by kernel_rfl
theorem Try.longCells : Try.prog.cellsOf 2 = 1 := by kernel_rfl
section
variable {H : Type} {enc : TypeId × Value → H}
set_option maxRecDepth 100000 in
/-- ████ THE OPERATIONS, OPENED. ████ -/
theorem open_ops {W : World} {sp : Nat → Bool} {fuel : Nat} {cs : List Value} {x : DataW H × List MemPlace} (h : DataW.trod enc Try.prog W 0 sp true fuel 34 cs = some x) :
    ∃ (A : Option Addr) (len cap : Nat), cs = [.slice A len cap] ∧ len ≤ cap ∧ cap ≤ maxLen ∧ OpsAt W A len := by
  rcases open_slice Try.underlying34 h with ⟨rfl, rfl⟩ | ⟨a, len, cap, m, n, D, Pl, rfl, hb, hl, hm, hmm, rfl, hx⟩
  · exact ⟨none, 0, 0, rfl, Nat.le_refl _, by unfold maxLen; omega, fun j hj => by omega⟩
  have hlm : len ≤ m := by rw [hmm]; split <;> omega
  have hmL : cap ≤ maxLen := by first | exact hm | omega
  refine ⟨some a, len, cap, rfl, hl, hmL, fun j hj => ?_⟩
  have ha : a.spot = none := by
    obtain ⟨cs', h1, _⟩ := hx 0 (by omega)
    rw [Try.opCells] at h1
    obtain ⟨_, hlen, hcell⟩ := World.cells?_some h1
    have c0 := hcell 0 (by omega)
    match cs', hlen with
    | [v0, v1, v2, v3], _ =>
      have c0 : W.cell? a = some v0 := by simpa [Addr.add] using c0
      exact (spot_none c0).1
  obtain ⟨b, o, s⟩ := a
  simp only at ha
  subst ha
  obtain ⟨cs', h1, h2⟩ := hx j (by omega)
  rw [Try.opCells] at h1
  obtain ⟨_, hlen, hcell⟩ := World.cells?_some h1
  match cs', hlen with
  | [v1, v2, v3, v4], _ =>
    obtain ⟨xs, k', _, _, _, hlx, hf⟩ := DataW.trod_struct Try.underlying49 h2
    match xs, hlx with
    | [x0, x1, x2, x3], _ =>
      have f0 : DataW.trod enc Try.prog W 0 sp true k' 3 [v1] = some x0 := by
        have h := hf 0 _ rfl
        change DataW.trod enc Try.prog W 0 sp true k' 3 (List.take (Try.prog.cellsOf 3) (List.drop 0 [v1, v2, v3, v4])) = some x0 at h
        rw [Try.intCells] at h
        exact h
      have f1 : DataW.trod enc Try.prog W 0 sp true k' 2 [v2] = some x1 := by
        have h := hf 1 _ rfl
        change DataW.trod enc Try.prog W 0 sp true k' 2 (List.take (Try.prog.cellsOf 2) (List.drop 1 [v1, v2, v3, v4])) = some x1 at h
        rw [Try.longCells] at h
        exact h
      have f2 : DataW.trod enc Try.prog W 0 sp true k' 2 [v3] = some x2 := by
        have h := hf 2 _ rfl
        change DataW.trod enc Try.prog W 0 sp true k' 2 (List.take (Try.prog.cellsOf 2) (List.drop 2 [v1, v2, v3, v4])) = some x2 at h
        rw [Try.longCells] at h
        exact h
      have f3 : DataW.trod enc Try.prog W 0 sp true k' 2 [v4] = some x3 := by
        have h := hf 3 _ rfl
        change DataW.trod enc Try.prog W 0 sp true k' 2 (List.take (Try.prog.cellsOf 2) (List.drop 3 [v1, v2, v3, v4])) = some x3 at h
        rw [Try.longCells] at h
        exact h
      obtain ⟨n0, g0, _, _⟩ := DataW.trod_int Try.underlying3 f0
      obtain ⟨n1, g1, _, hw1⟩ := DataW.trod_int Try.underlying2 f1
      obtain ⟨n2, g2, _, _⟩ := DataW.trod_int Try.underlying2 f2
      obtain ⟨n3, g3, _, _⟩ := DataW.trod_int Try.underlying2 f3
      simp only [List.cons.injEq, and_true] at g0 g1 g2 g3
      subst g0; subst g1; subst g2; subst g3
      have c0 := hcell 0 (by omega)
      have c1 := hcell 1 (by omega)
      have c2 := hcell 2 (by omega)
      have c3 := hcell 3 (by omega)
      have hw' : -9223372036854775808 ≤ n1 ∧ n1 < 9223372036854775808 := by
        simp [Lit.wf, IntKind.min, IntKind.max, IntKind.signed, IntKind.bits] at hw1; omega
      have e : ∀ k, ((⟨b, o, none⟩ : Addr).add (j * 4)).add k = ⟨b, o + j * 4 + k, none⟩ := fun k => by
        unfold Addr.add
        by_cases h4 : j * 4 = 0 <;> by_cases hk : k = 0 <;> simp [h4, hk]
      rw [e] at c0 c1 c2 c3
      exact ⟨b, o, n0, n1, n2, n3, rfl, (spot_none c1).2, hw', c0, c1, c2, c3⟩
end
end Go.Proofs.Yteainbnoemkfcaa
