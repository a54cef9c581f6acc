/- DERIVED. SoloNone, walked: for every size, number of readers, sequence and number the call returns true; what was there before is left. No condition. -/
import Derived.Test.YtenhclfihedmiaaSoloN
namespace Go.Proofs.Ytenhclfihedmiaa
open Go.RowKit

theorem six_ones (w : World) (t : TypeId) (j : Nat) (h : j < 6) : (w.alloc (.cells #[.int .i64 1, .int .i64 1, .int .i64 1, .int .i64 1, .int .i64 1, .int .i64 1] t)).cell? ⟨w.heap.size, j, none⟩ = some (.int .i64 1) := by
  rw [(Blk.new w t _).cell j]
  match j, h with
  | 0, _ => rfl
  | 1, _ => rfl
  | 2, _ => rfl
  | 3, _ => rfl
  | 4, _ => rfl
  | 5, _ => rfl
def noneW (w : World) : World := ((w.alloc (.cells #[.int .i64 0] 47)).alloc (.cells zeroCells 56)).alloc (.cells #[.pointer none, .pointer (some ⟨w.heap.size + 1, 0, none⟩)] 24)
structure NoneAt (w0 w : World) (c : Nat) : Prop where
  count : Blk w c 47 #[.int .i64 0]
  zero : Blk w (c + 1) 56 zeroCells
  list : Blk w (c + 2) 24 #[.pointer none, .pointer (some ⟨c + 1, 0, none⟩)]
  low : Below w0.heap.size w0 w
  big : w0.heap.size ≤ c ∧ c + 3 ≤ w.heap.size
theorem none_at (w0 w : World) (h : Below w0.heap.size w0 w) : NoneAt w0 (noneW w) w.heap.size := by
  have b1 := ((Blk.new w 47 #[.int .i64 0]).alloc (.cells zeroCells 56)).alloc (.cells #[.pointer none, .pointer (some ⟨w.heap.size + 1, 0, none⟩)] 24)
  have b2 := (Blk.new (w.alloc (.cells #[.int .i64 0] 47)) 56 zeroCells).alloc (.cells #[.pointer none, .pointer (some ⟨w.heap.size + 1, 0, none⟩)] 24)
  have b3 := Blk.new ((w.alloc (.cells #[.int .i64 0] 47)).alloc (.cells zeroCells 56)) 24 #[.pointer none, .pointer (some ⟨w.heap.size + 1, 0, none⟩)]
  simp only [World.size_alloc] at b2 b3
  have hs := h.size
  exact ⟨b1, b2, b3, ((h.alloc h.size _).alloc (by simp; omega) _).alloc (by simp; omega) _, hs, by simp [noneW]⟩
theorem NoneAt.alloc {w0 w : World} {c : Nat} (h : NoneAt w0 w c) (o : Obj) : NoneAt w0 (w.alloc o) c :=
  ⟨h.count.alloc o, h.zero.alloc o, h.list.alloc o, h.low.alloc h.low.size o, h.big.1, by have := h.big.2; simp; omega⟩
theorem NoneAt.pick {w0 w : World} {c k : Nat} (h : NoneAt w0 w c) (hk : k < 2) : ∃ p, Empty w p ∧ w.cell? ⟨c + 2, k, none⟩ = some (.pointer p) := by
  match k, hk with
  | 0, _ => exact ⟨_, .inl rfl, h.list.cell 0⟩
  | 1, _ => exact ⟨_, .inr ⟨_, rfl, h.zero⟩, h.list.cell 1⟩
set_option maxRecDepth 100000 in
set_option maxHeartbeats 4000000 in
theorem solo_none (s r q n : Int) (w : World) : Calls Try.prog 4 #[.int .i64 s, .int .i64 r, .int .i64 q, .int .i64 n] w (TrueBelow w) := by
  by_cases hf : fits s
  · by_cases hr : r < 0 ∨ 64 < r
    · have HBAD := Lib.hid (show ¬ fits s ∨ r < 0 ∨ 64 < r from .inr hr)
      have HF := Lib.hid hf
      have HR0 := Lib.hid hr
      clear hr hf
      by_cases hr1 : r < 0
      · go_enter Try.func4, Try.ntmps4
        go_wp2_with fail
        refine (writes_true w).mono ?_
        rintro e w1 ⟨rfl, b1⟩
        go_wp2_with fail
        refine (solo_new_bad s r w1 HBAD.out).mono ?_
        rintro e w2 ⟨rfl, b2⟩
        have B := Lib.hid (b1.trans (b2.mono b1.size))
        clear b1 b2
        go_wp2_with fail
        refine (power_is _ w2).mono ?_
        rintro e w' ⟨⟨rfl, _⟩ | ⟨_, h⟩, rfl⟩
        rotate_left
        · exact absurd HF.out h
        go_wp2_with fail
        have HN := Lib.hid (none_at w w2 B.out)
        change Code.wp _ _ _ _ (noneW w2)
        go_loopw [61] (fun i wr => ∃ k : Nat, k ≤ 2 ∧ i = .int .i64 k ∧ NoneAt w wr w2.heap.size) (fun i _ => 2 - (intOf i).toNat)
        case atStart => exact ⟨0, Nat.zero_le _, rfl, HN.out⟩
        case round =>
          obtain ⟨j, hj, rfl, hN⟩ := hrel
          have HR := Lib.hid hN
          clear hN
          by_cases hlt : j < 2
          · obtain ⟨p, hp, hc⟩ := HR.out.pick hlt
            have HP := Lib.hid hp
            clear hp
            go_wp2_with (go_at_call 14; refine (claim_e _ _ _ _ HP.out).mono ?_; rintro e w' ⟨rfl, rfl⟩)
            have HR3 := Lib.hid (HR.out.alloc (.cells #[.int .i64 q, .int .i64 q] 2))
            have HP3 := Lib.hid (HP.out.kept (Kept.alloc (S := fun _ => False) wr (.cells #[.int .i64 q, .int .i64 q] 2)) (fun _ _ h => h))
            generalize wr.alloc (.cells #[.int .i64 q, .int .i64 q] 2) = w3 at HR3 HP3 ⊢
            go_wp2_with (first
              | (go_at_call 9; refine (write_e _ _ _ _ _ _ HP3.out).mono ?_; rintro e w' ⟨rfl, rfl⟩)
              | (go_at_call 15; refine (read_e _ _ _ _ HP3.out).mono ?_; rintro e w' ⟨rfl, rfl⟩)
              | (go_at_call 10; refine (batch_e _ _ _ _ _ HP3.out).mono ?_; rintro e w' ⟨rfl, rfl⟩)
              | (go_at_call 7; refine (size_e _ _ HP3.out).mono ?_; rintro e w' ⟨rfl, rfl⟩)
              | (go_at_call 8; refine (readers_e _ _ HP3.out).mono ?_; rintro e w' ⟨rfl, rfl⟩)
              | (go_at_call 16; refine (sput_e _ _ _ _ _ HP3.out).mono ?_; rintro e w' ⟨rfl, rfl⟩)
              | (go_at_call 17; refine (publish_e _ _ _ _ HP3.out).mono ?_; rintro e w' ⟨rfl, rfl⟩))
            have HR4 := Lib.hid (HR3.out.alloc (.cells #[.int .i64 1, .int .i64 1, .int .i64 1, .int .i64 1, .int .i64 1, .int .i64 1] 25))
            have H6 := Lib.hid (six_ones w3 25)
            go_loop [142] (fun i => ∃ k : Nat, k ≤ 6 ∧ i = .int .i64 k) (fun i => 6 - (intOf i).toNat)
            case atStart => exact ⟨0, Nat.zero_le _, rfl⟩
            case round =>
              obtain ⟨i, hi, rfl⟩ := hrel
              by_cases hlt2 : i < 6
              · have hc6 := H6.out i hlt2
                go_wp2
                go_round
                case rel => exact ⟨i + 1, by omega, by go_num⟩
                case measure => simp [intOf]; omega
              · go_wp2
                go_roundw
                case rel => exact ⟨j + 1, by omega, by go_num, HR4.out⟩
                case measure => simp [intOf]; omega
          · have c0 : wr.cell? ⟨w2.heap.size, 0, none⟩ = some (.int .i64 0) := HR.out.count.cell 0
            go_wp2
            go_ret
            exact ⟨rfl, HR.out.low⟩
      · have hr2 : 64 < r := HR0.out.resolve_left hr1
        go_enter Try.func4, Try.ntmps4
        go_wp2_with fail
        refine (writes_true w).mono ?_
        rintro e w1 ⟨rfl, b1⟩
        go_wp2_with fail
        refine (solo_new_bad s r w1 HBAD.out).mono ?_
        rintro e w2 ⟨rfl, b2⟩
        have B := Lib.hid (b1.trans (b2.mono b1.size))
        clear b1 b2
        go_wp2_with fail
        refine (power_is _ w2).mono ?_
        rintro e w' ⟨⟨rfl, _⟩ | ⟨_, h⟩, rfl⟩
        rotate_left
        · exact absurd HF.out h
        go_wp2_with fail
        have HN := Lib.hid (none_at w w2 B.out)
        change Code.wp _ _ _ _ (noneW w2)
        go_loopw [61] (fun i wr => ∃ k : Nat, k ≤ 2 ∧ i = .int .i64 k ∧ NoneAt w wr w2.heap.size) (fun i _ => 2 - (intOf i).toNat)
        case atStart => exact ⟨0, Nat.zero_le _, rfl, HN.out⟩
        case round =>
          obtain ⟨j, hj, rfl, hN⟩ := hrel
          have HR := Lib.hid hN
          clear hN
          by_cases hlt : j < 2
          · obtain ⟨p, hp, hc⟩ := HR.out.pick hlt
            have HP := Lib.hid hp
            clear hp
            go_wp2_with (go_at_call 14; refine (claim_e _ _ _ _ HP.out).mono ?_; rintro e w' ⟨rfl, rfl⟩)
            have HR3 := Lib.hid (HR.out.alloc (.cells #[.int .i64 q, .int .i64 q] 2))
            have HP3 := Lib.hid (HP.out.kept (Kept.alloc (S := fun _ => False) wr (.cells #[.int .i64 q, .int .i64 q] 2)) (fun _ _ h => h))
            generalize wr.alloc (.cells #[.int .i64 q, .int .i64 q] 2) = w3 at HR3 HP3 ⊢
            go_wp2_with (first
              | (go_at_call 9; refine (write_e _ _ _ _ _ _ HP3.out).mono ?_; rintro e w' ⟨rfl, rfl⟩)
              | (go_at_call 15; refine (read_e _ _ _ _ HP3.out).mono ?_; rintro e w' ⟨rfl, rfl⟩)
              | (go_at_call 10; refine (batch_e _ _ _ _ _ HP3.out).mono ?_; rintro e w' ⟨rfl, rfl⟩)
              | (go_at_call 7; refine (size_e _ _ HP3.out).mono ?_; rintro e w' ⟨rfl, rfl⟩)
              | (go_at_call 8; refine (readers_e _ _ HP3.out).mono ?_; rintro e w' ⟨rfl, rfl⟩)
              | (go_at_call 16; refine (sput_e _ _ _ _ _ HP3.out).mono ?_; rintro e w' ⟨rfl, rfl⟩)
              | (go_at_call 17; refine (publish_e _ _ _ _ HP3.out).mono ?_; rintro e w' ⟨rfl, rfl⟩))
            have HR4 := Lib.hid (HR3.out.alloc (.cells #[.int .i64 1, .int .i64 1, .int .i64 1, .int .i64 1, .int .i64 1, .int .i64 1] 25))
            have H6 := Lib.hid (six_ones w3 25)
            go_loop [142] (fun i => ∃ k : Nat, k ≤ 6 ∧ i = .int .i64 k) (fun i => 6 - (intOf i).toNat)
            case atStart => exact ⟨0, Nat.zero_le _, rfl⟩
            case round =>
              obtain ⟨i, hi, rfl⟩ := hrel
              by_cases hlt2 : i < 6
              · have hc6 := H6.out i hlt2
                go_wp2
                go_round
                case rel => exact ⟨i + 1, by omega, by go_num⟩
                case measure => simp [intOf]; omega
              · go_wp2
                go_roundw
                case rel => exact ⟨j + 1, by omega, by go_num, HR4.out⟩
                case measure => simp [intOf]; omega
          · have c0 : wr.cell? ⟨w2.heap.size, 0, none⟩ = some (.int .i64 0) := HR.out.count.cell 0
            go_wp2
            go_ret
            exact ⟨rfl, HR.out.low⟩
    · obtain ⟨m, rfl⟩ := Int.eq_ofNat_of_zero_le (show 0 ≤ s from by have := hf.1; omega)
      obtain ⟨k, rfl⟩ := Int.eq_ofNat_of_zero_le (show 0 ≤ r by omega)
      have FN := Lib.hid (fits_nat hf)
      have HF := Lib.hid hf
      have hk : k ≤ 64 := by omega
      have hk1 : decide ((k : Int) ≤ 64) = true := by simp; omega
      clear hf hr
      go_enter Try.func4, Try.ntmps4
      go_wp2_with fail
      refine (writes_true w).mono ?_
      rintro e w1 ⟨rfl, b1⟩
      go_wp2_with fail
      refine (solo_new m k w1 FN.out.1 FN.out.2.1 hk FN.out.2.2).mono ?_
      rintro e w2 ⟨I, _, _, _, _, _, _, _, rfl, _, b2⟩
      have B := Lib.hid (b1.trans (b2.mono b1.size))
      clear b1 b2
      go_wp2_with fail
      refine (power_is _ w2).mono ?_
      rintro e w' ⟨⟨rfl, _⟩ | ⟨_, h⟩, rfl⟩
      rotate_left
      · exact absurd HF.out h
      go_wp2_with fail
      have HN := Lib.hid (none_at w w2 B.out)
      change Code.wp _ _ _ _ (noneW w2)
      go_loopw [61] (fun i wr => ∃ k : Nat, k ≤ 2 ∧ i = .int .i64 k ∧ NoneAt w wr w2.heap.size) (fun i _ => 2 - (intOf i).toNat)
      case atStart => exact ⟨0, Nat.zero_le _, rfl, HN.out⟩
      case round =>
        obtain ⟨j, hj, rfl, hN⟩ := hrel
        have HR := Lib.hid hN
        clear hN
        by_cases hlt : j < 2
        · obtain ⟨p, hp, hc⟩ := HR.out.pick hlt
          have HP := Lib.hid hp
          clear hp
          go_wp2_with (go_at_call 14; refine (claim_e _ _ _ _ HP.out).mono ?_; rintro e w' ⟨rfl, rfl⟩)
          have HR3 := Lib.hid (HR.out.alloc (.cells #[.int .i64 q, .int .i64 q] 2))
          have HP3 := Lib.hid (HP.out.kept (Kept.alloc (S := fun _ => False) wr (.cells #[.int .i64 q, .int .i64 q] 2)) (fun _ _ h => h))
          generalize wr.alloc (.cells #[.int .i64 q, .int .i64 q] 2) = w3 at HR3 HP3 ⊢
          go_wp2_with (first
            | (go_at_call 9; refine (write_e _ _ _ _ _ _ HP3.out).mono ?_; rintro e w' ⟨rfl, rfl⟩)
            | (go_at_call 15; refine (read_e _ _ _ _ HP3.out).mono ?_; rintro e w' ⟨rfl, rfl⟩)
            | (go_at_call 10; refine (batch_e _ _ _ _ _ HP3.out).mono ?_; rintro e w' ⟨rfl, rfl⟩)
            | (go_at_call 7; refine (size_e _ _ HP3.out).mono ?_; rintro e w' ⟨rfl, rfl⟩)
            | (go_at_call 8; refine (readers_e _ _ HP3.out).mono ?_; rintro e w' ⟨rfl, rfl⟩)
            | (go_at_call 16; refine (sput_e _ _ _ _ _ HP3.out).mono ?_; rintro e w' ⟨rfl, rfl⟩)
            | (go_at_call 17; refine (publish_e _ _ _ _ HP3.out).mono ?_; rintro e w' ⟨rfl, rfl⟩))
          have HR4 := Lib.hid (HR3.out.alloc (.cells #[.int .i64 1, .int .i64 1, .int .i64 1, .int .i64 1, .int .i64 1, .int .i64 1] 25))
          have H6 := Lib.hid (six_ones w3 25)
          go_loop [142] (fun i => ∃ k : Nat, k ≤ 6 ∧ i = .int .i64 k) (fun i => 6 - (intOf i).toNat)
          case atStart => exact ⟨0, Nat.zero_le _, rfl⟩
          case round =>
            obtain ⟨i, hi, rfl⟩ := hrel
            by_cases hlt2 : i < 6
            · have hc6 := H6.out i hlt2
              go_wp2
              go_round
              case rel => exact ⟨i + 1, by omega, by go_num⟩
              case measure => simp [intOf]; omega
            · go_wp2
              go_roundw
              case rel => exact ⟨j + 1, by omega, by go_num, HR4.out⟩
              case measure => simp [intOf]; omega
        · have c0 : wr.cell? ⟨w2.heap.size, 0, none⟩ = some (.int .i64 0) := HR.out.count.cell 0
          go_wp2
          go_ret
          exact ⟨rfl, HR.out.low⟩
  · have HBAD := Lib.hid (show ¬ fits s ∨ r < 0 ∨ 64 < r from .inl hf)
    have HF := Lib.hid hf
    clear hf
    go_enter Try.func4, Try.ntmps4
    go_wp2_with fail
    refine (writes_true w).mono ?_
    rintro e w1 ⟨rfl, b1⟩
    go_wp2_with fail
    refine (solo_new_bad s r w1 HBAD.out).mono ?_
    rintro e w2 ⟨rfl, b2⟩
    have B := Lib.hid (b1.trans (b2.mono b1.size))
    clear b1 b2
    go_wp2_with fail
    refine (power_is _ w2).mono ?_
    rintro e w' ⟨⟨_, h⟩ | ⟨rfl, _⟩, rfl⟩
    · exact absurd h HF.out
    go_wp2_with fail
    have HN := Lib.hid (none_at w w2 B.out)
    change Code.wp _ _ _ _ (noneW w2)
    go_loopw [61] (fun i wr => ∃ k : Nat, k ≤ 2 ∧ i = .int .i64 k ∧ NoneAt w wr w2.heap.size) (fun i _ => 2 - (intOf i).toNat)
    case atStart => exact ⟨0, Nat.zero_le _, rfl, HN.out⟩
    case round =>
      obtain ⟨j, hj, rfl, hN⟩ := hrel
      have HR := Lib.hid hN
      clear hN
      by_cases hlt : j < 2
      · obtain ⟨p, hp, hc⟩ := HR.out.pick hlt
        have HP := Lib.hid hp
        clear hp
        go_wp2_with (go_at_call 14; refine (claim_e _ _ _ _ HP.out).mono ?_; rintro e w' ⟨rfl, rfl⟩)
        have HR3 := Lib.hid (HR.out.alloc (.cells #[.int .i64 q, .int .i64 q] 2))
        have HP3 := Lib.hid (HP.out.kept (Kept.alloc (S := fun _ => False) wr (.cells #[.int .i64 q, .int .i64 q] 2)) (fun _ _ h => h))
        generalize wr.alloc (.cells #[.int .i64 q, .int .i64 q] 2) = w3 at HR3 HP3 ⊢
        go_wp2_with (first
          | (go_at_call 9; refine (write_e _ _ _ _ _ _ HP3.out).mono ?_; rintro e w' ⟨rfl, rfl⟩)
          | (go_at_call 15; refine (read_e _ _ _ _ HP3.out).mono ?_; rintro e w' ⟨rfl, rfl⟩)
          | (go_at_call 10; refine (batch_e _ _ _ _ _ HP3.out).mono ?_; rintro e w' ⟨rfl, rfl⟩)
          | (go_at_call 7; refine (size_e _ _ HP3.out).mono ?_; rintro e w' ⟨rfl, rfl⟩)
          | (go_at_call 8; refine (readers_e _ _ HP3.out).mono ?_; rintro e w' ⟨rfl, rfl⟩)
          | (go_at_call 16; refine (sput_e _ _ _ _ _ HP3.out).mono ?_; rintro e w' ⟨rfl, rfl⟩)
          | (go_at_call 17; refine (publish_e _ _ _ _ HP3.out).mono ?_; rintro e w' ⟨rfl, rfl⟩))
        have HR4 := Lib.hid (HR3.out.alloc (.cells #[.int .i64 1, .int .i64 1, .int .i64 1, .int .i64 1, .int .i64 1, .int .i64 1] 25))
        have H6 := Lib.hid (six_ones w3 25)
        go_loop [142] (fun i => ∃ k : Nat, k ≤ 6 ∧ i = .int .i64 k) (fun i => 6 - (intOf i).toNat)
        case atStart => exact ⟨0, Nat.zero_le _, rfl⟩
        case round =>
          obtain ⟨i, hi, rfl⟩ := hrel
          by_cases hlt2 : i < 6
          · have hc6 := H6.out i hlt2
            go_wp2
            go_round
            case rel => exact ⟨i + 1, by omega, by go_num⟩
            case measure => simp [intOf]; omega
          · go_wp2
            go_roundw
            case rel => exact ⟨j + 1, by omega, by go_num, HR4.out⟩
            case measure => simp [intOf]; omega
      · have c0 : wr.cell? ⟨w2.heap.size, 0, none⟩ = some (.int .i64 0) := HR.out.count.cell 0
        go_wp2
        go_ret
        exact ⟨rfl, HR.out.low⟩
end Go.Proofs.Ytenhclfihedmiaa
