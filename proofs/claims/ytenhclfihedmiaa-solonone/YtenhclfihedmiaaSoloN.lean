/- DERIVED. Sizes that can't be: slots.New, solo.New refuse them, the document's Power says no; the nil Solo and the zero one refuse every call. -/
import Derived.Test.YtenhclfihedmiaaSoloL
namespace Go.Proofs.Ytenhclfihedmiaa
open Go.RowKit

theorem and_pred (s : Nat) (h : 0 < s) : s &&& (s - 1) = 0 ↔ ∃ k, s = 2 ^ k := by
  induction s using Nat.strongRecOn with
  | _ s ih =>
    have hd : (s &&& (s - 1)) / 2 = s / 2 &&& (s - 1) / 2 := Nat.and_div_two
    have hm : (s &&& (s - 1)) % 2 = 0 := by
      rw [show (2 : Nat) = 2 ^ 1 from rfl, Nat.and_mod_two_pow]
      rcases Nat.mod_two_eq_zero_or_one s with e | e
      · simp [e]
      · have : (s - 1) % 2 = 0 := by omega
        simp [this]
    rcases Nat.mod_two_eq_zero_or_one s with e | e
    · have h2 : (s - 1) / 2 = s / 2 - 1 := by omega
      rw [h2] at hd
      have := ih (s / 2) (by omega) (by omega)
      constructor
      · intro h0
        rw [h0] at hd
        obtain ⟨k, hk⟩ := this.1 hd.symm
        exact ⟨k + 1, by rw [Nat.pow_succ]; omega⟩
      · rintro ⟨k, hk⟩
        cases k with
        | zero => omega
        | succ k =>
          have := this.2 ⟨k, by rw [Nat.pow_succ] at hk; omega⟩
          omega
    · have h2 : (s - 1) / 2 = s / 2 := by omega
      rw [h2, Nat.and_self] at hd
      constructor
      · intro h0
        exact ⟨0, by rw [h0] at hd; simp; omega⟩
      · rintro ⟨k, hk⟩
        cases k with
        | zero => simp at hk; subst hk; rfl
        | succ k => rw [Nat.pow_succ] at hk; omega
theorem i64_and_nat (a b : Nat) (ha : a < 9223372036854775808) (hb : b < 9223372036854775808) : bits .and .i64 (a : Int) (b : Int) = ((a &&& b : Nat) : Int) := by
  have hx : a &&& b < 2 ^ 63 := Nat.and_lt_two_pow _ (by omega)
  have h1 : (BitVec.ofInt 64 (a : Int)).toNat = a := by
    rw [BitVec.ofInt_natCast, BitVec.toNat_ofNat]; exact Nat.mod_eq_of_lt (by omega)
  have h2 : (BitVec.ofInt 64 (b : Int)).toNat = b := by
    rw [BitVec.ofInt_natCast, BitVec.toNat_ofNat]; exact Nat.mod_eq_of_lt (by omega)
  show IntKind.i64.wrap ((BitVec.ofInt 64 (a : Int) &&& BitVec.ofInt 64 (b : Int)).toNat : Int) = _
  rw [BitVec.toNat_and, h1, h2, IntKind.wrap_i64]
  omega
theorem pow_bits (s : Nat) (h : 0 < s) (h2 : s ≤ 65536) : (bits BinOp.and IntKind.i64 (s : Int) ((s : Int) - 1) != 0) = false ↔ ∃ k, s = 2 ^ k := by
  rw [show (s : Int) - 1 = ((s - 1 : Nat) : Int) from by omega, i64_and_nat _ _ (by omega) (by omega), ← and_pred s h]
  simp
/-- A size that a ring can have. -/
def fits (s : Int) : Prop := 1 ≤ s ∧ s ≤ 65536 ∧ ∃ k : Nat, s = 2 ^ k
theorem fits_nat {s : Nat} (h : fits s) : 0 < s ∧ s ≤ 65536 ∧ (bits BinOp.and IntKind.i64 (s : Int) ((s : Int) - 1) != 0) = false := by
  obtain ⟨h1, h2, k, hk⟩ := h
  exact ⟨by omega, by omega, (pow_bits s (by omega) (by omega)).2 ⟨k, by exact_mod_cast hk⟩⟩
theorem new_bad (s : Int) (w : World) (h : ¬ fits s) : Calls Try.prog 18 #[.int .i64 s] w fun e w' => e = .returned (.tuple #[.pointer none, .int .i64 1]) ∧ w = w' := by
  by_cases h1 : s < 1
  · clear h
    go_enter Try.func18, Try.ntmps18
    go_wp2
    go_ret2
    exact ⟨rfl, rfl⟩
  · by_cases h2 : 65536 < s
    · clear h
      go_enter Try.func18, Try.ntmps18
      go_wp2
      go_ret2
      exact ⟨rfl, rfl⟩
    · have hb : (bits BinOp.and IntKind.i64 s (s - 1) != 0) = true := by
        obtain ⟨m, rfl⟩ := Int.eq_ofNat_of_zero_le (show 0 ≤ s by omega)
        rcases Bool.eq_false_or_eq_true (bits BinOp.and IntKind.i64 (m : Int) ((m : Int) - 1) != 0) with e | e
        · exact e
        · exfalso
          obtain ⟨k, hk⟩ := (pow_bits m (by omega) (by omega)).1 e
          exact h ⟨by omega, by omega, k, by exact_mod_cast hk⟩
      clear h
      go_enter Try.func18, Try.ntmps18
      go_wp2
      all_goals go_ret2
      all_goals exact ⟨rfl, rfl⟩
theorem solo_new_bad (s r : Int) (w : World) (h : ¬ fits s ∨ r < 0 ∨ 64 < r) : Calls Try.prog 6 #[.int .i64 s, .int .i64 r] w fun e w' => e = .returned (.tuple #[.pointer none, .int .i64 1]) ∧ Below w.heap.size w w' := by
  by_cases hf : fits s
  · have hr : r < 0 ∨ 64 < r := h.resolve_left (fun h => h hf)
    obtain ⟨m, rfl⟩ := Int.eq_ofNat_of_zero_le (show 0 ≤ s from by have := hf.1; omega)
    obtain ⟨a, b, c⟩ := fits_nat hf
    have HC := Lib.hid c
    have HR := Lib.hid hr
    clear hr h hf c
    by_cases h1 : r < 0
    all_goals
      have h2 := HR.out
      go_enter Try.func6, Try.ntmps6
      go_wp2_with fail
      refine (new_ok m w a b HC.out).mono ?_
      rintro e w1 ⟨rfl, _, hbel, _⟩
      have HB := Lib.hid hbel
      clear hbel
      go_wp2
      go_ret2
      exact ⟨rfl, HB.out⟩
  · have HF := Lib.hid hf
    clear hf h
    go_enter Try.func6, Try.ntmps6
    go_wp2_with (go_at_call 18; refine (new_bad _ _ HF.out).mono ?_; rintro e w' ⟨rfl, rfl⟩)
    go_ret2
    exact ⟨rfl, Below.refl _ _⟩
theorem pow17 (j : Nat) (h : (2 : Nat) ^ j ≤ 65536) : j ≤ 16 := by
  rcases Nat.lt_or_ge 16 j with h1 | h1
  · have := Nat.pow_le_pow_right (show 0 < 2 by omega) (show 17 ≤ j by omega)
    have e : (2 : Nat) ^ 17 = 131072 := rfl
    omega
  · exact h1
def PowerPost (s : Int) (w : World) (e : Ending) (w' : World) : Prop := (e = .returned (.bool true) ∧ fits s ∨ e = .returned (.bool false) ∧ ¬ fits s) ∧ w = w'
theorem power_is (s : Int) (w : World) : Calls Try.prog 13 #[.int .i64 s] w (PowerPost s w) := by
  go_enter Try.func13, Try.ntmps13
  go_wp2
  go_loop [3] (fun n => ∃ j p : Nat, n = .int .i64 p ∧ p = 2 ^ j ∧ p ≤ 131072 ∧ ∀ i, i < j → s ≠ ((2 ^ i : Nat) : Int)) (fun n => (131073 - intOf n).toNat)
  case atStart => exact ⟨0, 1, rfl, rfl, by omega, fun i hi => by omega⟩
  case round =>
    obtain ⟨j, p, rfl, hp, hp2, hs⟩ := hrel
    have hpos : 0 < p := by rw [hp]; exact Nat.pow_pos (by omega)
    have HP := Lib.hid hp
    have HS := Lib.hid hs
    clear hp hs
    by_cases hle : p ≤ 65536
    · by_cases he : (p : Int) = s
      · have he' : ((p : Int) == s) = true := by rw [beq_iff_eq]; exact he
        have HE := Lib.hid he
        clear he
        go_wp2
        go_ret
        exact ⟨.inl ⟨rfl, by rw [← HE.out]; omega, by rw [← HE.out]; omega, j, by rw [← HE.out, HP.out]; norm_cast⟩, rfl⟩
      · have he' : ((p : Int) == s) = false := by rw [beq_eq_false_iff_ne]; exact he
        have HE := Lib.hid he
        clear he
        go_wp2
        go_round
        case rel =>
          refine ⟨j + 1, 2 * p, by go_num, by rw [Nat.pow_succ, ← HP.out]; omega, by omega, fun i hi => ?_⟩
          by_cases h : i = j
          · subst h; rw [← HP.out]; exact fun e => HE.out e.symm
          · exact HS.out i (by omega)
        case measure => simp [intOf]; omega
    · go_wp2
      go_ret
      refine ⟨.inr ⟨rfl, ?_⟩, rfl⟩
      rintro ⟨h1, h2, k, hk⟩
      have hk' : s = ((2 ^ k : Nat) : Int) := by rw [hk]; norm_cast
      rcases Nat.lt_or_ge k j with h | h
      · exact HS.out k h hk'
      · have := Nat.pow_le_pow_right (show 0 < 2 by omega) h
        rw [← HP.out] at this
        omega
def zeroCells : Array Value := #[.pointer none, .int .i64 0, .slice none 0 0, .int .i64 0, .int .i64 0, .int .i64 0, .slice none 0 0]
/-- The nil Solo, or the zero one. -/
def Empty (w : World) (p : Option Addr) : Prop := p = none ∨ ∃ b, p = some ⟨b, 0, none⟩ ∧ Blk w b 56 zeroCells
theorem Empty.kept {w w' : World} {p : Option Addr} {Z : Nat → Prop} (h : Empty w p) (hk : Kept Z w w') (hz : ∀ a, p = some a → ¬ Z a.block) : Empty w' p := by
  rcases h with h | ⟨b, rfl, hb⟩
  · exact .inl h
  · exact .inr ⟨b, rfl, hb.kept hk (hz _ rfl)⟩
theorem size_e (w : World) (p : Option Addr) (h : Empty w p) : Calls Try.prog 7 #[.pointer p] w fun e w' => e = .returned (.int .i64 0) ∧ w = w' := by
  rcases h with rfl | ⟨b, rfl, hb⟩
  · go_enter Try.func7, Try.ntmps7
    go_wp2
    go_ret
    exact ⟨rfl, rfl⟩
  · have hc := hb.cell 0
    simp only [zeroCells] at hc
    clear hb
    go_enter Try.func7, Try.ntmps7
    go_wp2
    go_ret
    exact ⟨rfl, rfl⟩
theorem readers_e (w : World) (p : Option Addr) (h : Empty w p) : Calls Try.prog 8 #[.pointer p] w fun e w' => e = .returned (.int .i64 0) ∧ w = w' := by
  rcases h with rfl | ⟨b, rfl, hb⟩
  · go_enter Try.func8, Try.ntmps8
    go_wp2
    go_ret
    exact ⟨rfl, rfl⟩
  · have hc := hb.cell 2
    simp only [zeroCells] at hc
    clear hb
    go_enter Try.func8, Try.ntmps8
    go_wp2
    go_ret
    exact ⟨rfl, rfl⟩
theorem claim_e (s : Value) (c : Int) (w : World) (p : Option Addr) (h : Empty w p) : Calls Try.prog 14 #[.pointer p, s, .int .i64 c] w fun e w' => e = .returned (.tuple #[.int .i64 0, .int .i64 1]) ∧ w = w' := by
  have HH := Lib.hid h
  clear h
  by_cases h1 : c < 1
  all_goals
    go_enter Try.func14, Try.ntmps14
    go_wp2_with (go_at_call 7; refine (size_e _ _ HH.out).mono ?_; rintro e w' ⟨rfl, rfl⟩)
    go_ret2
    exact ⟨rfl, rfl⟩
theorem write_e (s : Value) (A : Option Addr) (c cap : Nat) (w : World) (p : Option Addr) (h : Empty w p) : Calls Try.prog 9 #[.pointer p, s, .slice A c cap] w fun e w' => e = .returned (.tuple #[.int .i64 0, .int .i64 1]) ∧ w = w' := by
  have HH := Lib.hid h
  clear h
  go_enter Try.func9, Try.ntmps9
  go_wp2_with (go_at_call 14; refine (claim_e _ _ _ _ HH.out).mono ?_; rintro e w' ⟨rfl, rfl⟩)
  go_ret2
  exact ⟨rfl, rfl⟩
theorem claimed_e (q : Int) (w : World) (p : Option Addr) (h : Empty w p) : Calls Try.prog 25 #[.pointer p, .int .i64 q] w fun e w' => e = .returned (.bool false) ∧ w = w' := by
  have HH := Lib.hid h
  clear h
  go_enter Try.func25, Try.ntmps25
  go_wp2_with (go_at_call 7; refine (size_e _ _ HH.out).mono ?_; rintro e w' ⟨rfl, rfl⟩)
  go_ret
  exact ⟨rfl, rfl⟩
theorem sput_e (s : Value) (q v : Int) (w : World) (p : Option Addr) (h : Empty w p) : Calls Try.prog 16 #[.pointer p, s, .int .i64 q, .int .i64 v] w fun e w' => e = .returned (.int .i64 1) ∧ w = w' := by
  have HH := Lib.hid h
  clear h
  go_enter Try.func16, Try.ntmps16
  go_wp2_with (go_at_call 25; refine (claimed_e _ _ _ HH.out).mono ?_; rintro e w' ⟨rfl, rfl⟩)
  go_ret
  exact ⟨rfl, rfl⟩
theorem publish_e (s : Value) (q : Int) (w : World) (p : Option Addr) (h : Empty w p) : Calls Try.prog 17 #[.pointer p, s, .int .i64 q] w fun e w' => e = .returned (.int .i64 1) ∧ w = w' := by
  have HH := Lib.hid h
  clear h
  go_enter Try.func17, Try.ntmps17
  go_wp2_with (go_at_call 25; refine (claimed_e _ _ _ HH.out).mono ?_; rintro e w' ⟨rfl, rfl⟩)
  go_ret
  exact ⟨rfl, rfl⟩
theorem batch_e (s : Value) (r m : Int) (w : World) (p : Option Addr) (h : Empty w p) : Calls Try.prog 10 #[.pointer p, s, .int .i64 r, .int .i64 m] w fun e w' => e = .returned (.tuple #[.slice none 0 0, .int .i64 1]) ∧ w = w' := by
  have HH := Lib.hid h
  clear h
  by_cases h1 : r < 0
  all_goals
    go_enter Try.func10, Try.ntmps10
    go_wp2_with (go_at_call 8; refine (readers_e _ _ HH.out).mono ?_; rintro e w' ⟨rfl, rfl⟩)
    go_ret2
    exact ⟨rfl, rfl⟩
theorem read_e (s : Value) (r : Int) (w : World) (p : Option Addr) (h : Empty w p) : Calls Try.prog 15 #[.pointer p, s, .int .i64 r] w fun e w' => e = .returned (.tuple #[.int .i64 0, .int .i64 1]) ∧ w = w' := by
  have HH := Lib.hid h
  clear h
  go_enter Try.func15, Try.ntmps15
  go_wp2_with (go_at_call 10; refine (batch_e _ _ _ _ _ HH.out).mono ?_; rintro e w' ⟨rfl, rfl⟩)
  go_ret2
  exact ⟨rfl, rfl⟩
end Go.Proofs.Ytenhclfihedmiaa
