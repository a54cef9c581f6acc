/- DERIVED. The ring of slots (package slots), lone: There, Highest. -/
import Derived.Test.YtbmjmamodnapiaaGreatDoorSlots
import Derived.Laws.Cover1
namespace Go.Proofs.YtbmjmamodnapiaaGreatDoor
open Go.RowKit
set_option linter.unusedVariables false
theorem there_x (X : Stepper) (hs : X.Steps Tryz.prog 111) (t rb sb n : Nat) (st va : Nat → Int) (q : Int) (w : World) (H : RingAt w rb sb n st va) (h0 : 0 ≤ q) (h1 : q < 4611686018427387904) (A : X.at_ t w) (n1 : ¬ X.own rb) (n2 : ¬ X.own sb) :
    Calls Tryz.prog 106 #[.pointer (some ⟨rb, 0, none⟩), X.v, .int .i64 q] w fun e w' => e = .returned (.bool (st (q % n).toNat == 2 * (q / n))) ∧ Kept X.own w w' ∧ w'.heap.size = w.heap.size ∧ X.at_ (t + 1) w' := by
  have hn := H.pos
  have h2 := H.most
  have hr := H.ring
  have hb0 : 0 ≤ q % (n : Int) := Int.emod_nonneg _ (by omega)
  have hb1 : q % (n : Int) < n := Int.emod_lt_of_pos _ (by omega)
  have hd0 : 0 ≤ q / (n : Int) := Int.ediv_nonneg h0 (by omega)
  have hd1 : q / (n : Int) ≤ q := Int.ediv_le_self _ h0
  have HH := Lib.hid H
  have HN1 := Lib.hid n1
  have HN2 := Lib.hid n2
  clear H n1 n2
  go_enter Tryz.func106, Tryz.ntmps106
  go_wp2_with (go_at_call 108; refine (good_yes _ _ n _ q _ hr hn h0 h1).mono ?_; rintro e w' ⟨rfl, rfl⟩)
  go_wp2_with fail
  refine (hs t _ A).mono ?_
  rintro e w1 ⟨rfl, A1, K1, Z1⟩
  have H1 := HH.out.kept K1 HN1.out HN2.out
  have hr1 := H1.ring
  have hs1 := H1.stamp (q % (n : Int)).toNat (by omega)
  have HK := Lib.hid (And.intro K1 (And.intro Z1 A1))
  clear K1 Z1 A1 A hr H1
  go_wp2
  go_quiet (first | (go_at_call 109; exact quietS (slot_yes _ _ n _ q _ hr1 hn h2 h0 h1)) | (go_at_call 110; exact quietS (lap_yes _ _ n _ q _ hr1 hn h2 h0 h1)) | (go_at_call 103; exact quietS (atomic_load _ _ _ hs1)))
  go_wp2
  go_ret
  refine ⟨rfl, HK.out.1.trans (Kept.drewN _ _ nq), HK.out.2.1, X.keep HK.out.2.2 (Kept.drewN (fun _ => False) _ nq) (fun _ _ h => h)⟩
/-- Highest: the answer, and how many steps. -/
def highR (st : Nat → Int) (n : Nat) : Nat → Int → Int × Nat
  | 0, q => (q - 1, 0)
  | k + 1, q => if st (q % n).toNat = 2 * (q / n) then ((highR st n k (q + 1)).1, (highR st n k (q + 1)).2 + 1) else (q - 1, 1)
def highN (n : Nat) (a b : Int) : Nat := (min (min b (a + n - 1)) 4611686018427387903 + 1 - a).toNat
set_option maxRecDepth 100000 in
theorem highest_x (X : Stepper) (hs : X.Steps Tryz.prog 111) (t rb sb n : Nat) (st va : Nat → Int) (a b : Int) (w : World) (H : RingAt w rb sb n st va) (h0 : 0 ≤ a) (h1 : a < 4611686018427387904) (hab : a ≤ b) (hb : b < 9223372036854775808) (A : X.at_ t w) (n1 : ¬ X.own rb) (n2 : ¬ X.own sb) :
    Calls Tryz.prog 96 #[.pointer (some ⟨rb, 0, none⟩), X.v, .int .i64 a, .int .i64 b] w fun e w' => e = .returned (.int .i64 (highR st n (highN n a b) a).1) ∧ Kept X.own w w' ∧ w'.heap.size = w.heap.size ∧ X.at_ (t + (highR st n (highN n a b) a).2) w' := by
  have hn := H.pos
  have h2 := H.most
  have hr := H.ring
  have HH := Lib.hid H
  have HN1 := Lib.hid n1
  have HN2 := Lib.hid n2
  have HA := Lib.hid A
  clear H n1 n2 A
  go_enter Tryz.func96, Tryz.ntmps96
  obtain ⟨Y, e1⟩ : ∃ Y, (if a + (n : Int) - 1 < b then a + (n : Int) - 1 else b) = Y := ⟨_, rfl⟩
  obtain ⟨M, e2⟩ : ∃ M, (if 4611686018427387903 < Y then 4611686018427387903 else Y) = M := ⟨_, rfl⟩
  obtain ⟨m0, m1, m2, m3⟩ : a - 1 ≤ M ∧ M ≤ 4611686018427387903 ∧ (M + 1 - a).toNat = highN n a b ∧ a ≤ M := by
    unfold highN
    rw [← e2, ← e1]
    split <;> split <;> omega
  generalize highN n a b = kk at m2 ⊢
  have hk := Lib.hid m2
  clear m2
  go_wp2_with (first | (go_at_call 108; refine (good_yes _ _ n _ a _ hr hn h0 h1).mono ?_; rintro e w' ⟨rfl, rfl⟩) | (go_at_call 104; refine (size_ring _ _ n _ _ hr).mono ?_; rintro e w' ⟨rfl, rfl⟩))
  clear e1 e2 hr hab hb
  have hk := hk.out
  go_loopw [10] (fun i wr => ∃ j : Nat, j ≤ kk ∧ i = .int .i64 (a + j) ∧ (highR st n kk a).1 = (highR st n (kk - j) (a + j)).1 ∧ (highR st n kk a).2 = (highR st n (kk - j) (a + j)).2 + j ∧ Kept X.own w wr ∧ wr.heap.size = w.heap.size ∧ X.at_ (t + j) wr) (fun i _ => kk - (intOf i - a).toNat)
  case atStart => exact ⟨0, Nat.zero_le _, by simp, by simp, by simp, Kept.refl _ _, rfl, HA.out⟩
  case round =>
    obtain ⟨j, hj, rfl, r1, r2, K1, Z1, A1⟩ := hrel
    have HK := Lib.hid (And.intro r1 (And.intro r2 (And.intro K1 (And.intro Z1 A1))))
    clear r1 r2 K1 Z1 A1
    by_cases hlt : j < kk
    · go_wp2_with fail
      refine (there_x X hs (t + j) rb sb n st va (a + j) wr (HH.out.kept HK.out.2.2.1 HN1.out HN2.out) (by omega) (by omega) HK.out.2.2.2.2 HN1.out HN2.out).mono ?_
      rintro e w1 ⟨rfl, K2, Z2, A2⟩
      obtain ⟨r1, r2, K1, Z1, A1⟩ := HK.out
      obtain ⟨k, hkk⟩ : ∃ k, kk - j = k + 1 := ⟨kk - j - 1, by omega⟩
      rw [hkk] at r1 r2
      simp only [highR] at r1 r2
      by_cases heq : st ((a + j) % (n : Int)).toNat = 2 * ((a + j) / (n : Int))
      · rw [if_pos heq] at r1 r2
        have hB : (st ((a + j) % (n : Int)).toNat == 2 * ((a + j) / (n : Int))) = true := by simpa using heq
        rw [hB]
        have HX := Lib.hid (And.intro r1 (And.intro r2 (And.intro (K1.trans K2) (And.intro (Z2.trans Z1) A2))))
        have Hk := Lib.hid hkk
        clear r1 r2 K1 Z1 A1 K2 Z2 A2 HK heq hB hkk
        go_wp2
        go_roundw
        case rel =>
          obtain ⟨x1, x2, x3, x4, x5⟩ := HX.out
          have hkk := Hk.out
          rw [show a + (j : Int) + 1 = a + ((j + 1 : Nat) : Int) from by omega, show k = kk - (j + 1) from by omega] at x1 x2
          exact ⟨j + 1, by omega, by go_num, x1, by omega, x3, x4, x5⟩
        case measure => simp [intOf]; omega
      · rw [if_neg heq] at r1 r2
        have hB : (st ((a + j) % (n : Int)).toNat == 2 * ((a + j) / (n : Int))) = false := by simpa using heq
        rw [hB]
        have HX := Lib.hid (And.intro r1 (And.intro r2 (And.intro (K1.trans K2) (And.intro (Z2.trans Z1) A2))))
        clear r1 r2 K1 Z1 A1 K2 Z2 A2 HK heq hB hkk
        go_wp2
        go_ret
        obtain ⟨x1, x2, x3, x4, x5⟩ := HX.out
        exact ⟨by rw [x1]; rfl, x3, x4, by rw [x2]; rw [show t + (1 + j) = t + j + 1 from by omega]; exact x5⟩
    · have ej : j = kk := by omega
      subst ej
      go_wp2
      go_ret
      obtain ⟨r1, r2, K1, Z1, A1⟩ := HK.out
      simp only [Nat.sub_self, highR] at r1 r2
      exact ⟨by rw [r1]; exact congrArg (fun z => Ending.returned (.int .i64 z)) (by omega), K1, Z1, by rw [r2]; simpa using A1⟩
end Go.Proofs.YtbmjmamodnapiaaGreatDoor
