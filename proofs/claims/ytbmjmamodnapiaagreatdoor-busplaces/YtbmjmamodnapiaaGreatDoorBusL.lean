/- DERIVED. Values laid into a ring of many writers where there is room (package multi: Size, Claim, Write, Offer), lone. -/
import Derived.Test.YtbmjmamodnapiaaGreatDoorBusK
namespace Go.Proofs.YtbmjmamodnapiaaGreatDoor
open Go.RowKit
set_option linter.unusedVariables false
/-- A ring of many writers in memory: its own block, the ring's, the cursor's, seen's. -/
structure MulAt (w : World) (M R Rs C Sn n : Nat) (st va : Nat → Int) (cur seen : Int) : Prop where
  mul : Blk w M 125 #[.pointer (some ⟨R, 0, none⟩), .int .i64 0, .pointer (some ⟨C, 0, none⟩), .pointer (some ⟨Sn, 0, none⟩)]
  ring : RingAt w R Rs n st va
  cw : Blk w C 177 #[.int .i64 cur]
  sw : Blk w Sn 177 #[.int .i64 seen]
theorem TopicAt.mulAt {w : World} {B n : Nat} {S : TSt} (h : TopicAt w B n S) : MulAt w (B + 4) (B + 1) B (B + 2) (B + 3) n S.st S.va S.cur S.seen := ⟨h.mul, h.ring, h.cw, h.sw⟩
section
variable {w : World} {M R Rs C Sn n : Nat} {st va : Nat → Int} {cur seen : Int}
theorem multi_size (h : MulAt w M R Rs C Sn n st va cur seen) : Calls Tryz.prog 90 #[.pointer (some ⟨M, 0, none⟩)] w fun e w' => e = .returned (.int .i64 n) ∧ w = w' := by
  have c0 : w.cell? ⟨M, 0, none⟩ = some (.pointer (some ⟨R, 0, none⟩)) := h.mul.cell 0
  have HH := Lib.hid h
  clear h
  go_enter Tryz.func90, Tryz.ntmps90
  go_wp2_with (first | (go_at_call 84; refine (multi_no M R C Sn 0 _ HH.out.mul).mono ?_; rintro e w' ⟨rfl, rfl⟩) | (go_at_call 104; refine (size_ring _ _ n n _ HH.out.ring.ring).mono ?_; rintro e w' ⟨rfl, rfl⟩))
  go_ret
  exact ⟨rfl, rfl⟩
theorem multi_free (H : Value) (k : Int) (h : MulAt w M R Rs C Sn n st va cur seen) (h0 : -1 ≤ cur) (h1 : cur + k < 4611686018427387904) (hk : 1 ≤ k) (hs : cur + k - n ≤ seen) : Calls Tryz.prog 91 #[.pointer (some ⟨M, 0, none⟩), .nilIface, H, .int .i64 cur, .int .i64 k] w fun e w' => e = .returned (.bool true) ∧ w = w' := by
  have hn := h.ring.pos
  have h2 := h.ring.most
  have c3 : w.cell? ⟨M, 3, none⟩ = some (.pointer (some ⟨Sn, 0, none⟩)) := h.mul.cell 3
  have HH := Lib.hid h
  clear h
  go_enter Tryz.func91, Tryz.ntmps91
  go_wp2_with (first | (go_at_call 90; refine (multi_size HH.out).mono ?_; rintro e w' ⟨rfl, rfl⟩) | (go_at_call 85; refine (word_load _ seen _ (HH.out.sw.cell 0)).mono ?_; rintro e w' ⟨rfl, rfl⟩))
  go_ret
  exact ⟨rfl, rfl⟩
theorem multi_written (k : Int) (h : MulAt w M R Rs C Sn n st va cur seen) (h0 : -1 ≤ cur) (h1 : cur + k < 4611686018427387904) (hk : 1 ≤ k) (hs : cur + k - n < 0) : Calls Tryz.prog 92 #[.pointer (some ⟨M, 0, none⟩), .nilIface, .int .i64 cur, .int .i64 k] w fun e w' => e = .returned (.bool true) ∧ w = w' := by
  have hn := h.ring.pos
  have h2 := h.ring.most
  have c1 : w.cell? ⟨M, 1, none⟩ = some (.int .i64 0) := h.mul.cell 1
  have c0 : w.cell? ⟨M, 0, none⟩ = some (.pointer (some ⟨R, 0, none⟩)) := h.mul.cell 0
  have HH := Lib.hid h
  clear h
  go_enter Tryz.func92, Tryz.ntmps92
  go_wp2_with (go_at_call 90; refine (multi_size HH.out).mono ?_; rintro e w' ⟨rfl, rfl⟩)
  go_loopw [9] (fun q wr => ∃ j : Nat, (j : Int) ≤ k ∧ q = .int .i64 (cur + 1 - n + j) ∧ wr = w) (fun q _ => (cur + 1 - n + k - intOf q).toNat)
  case atStart => exact ⟨0, by omega, by go_num, rfl⟩
  case round =>
    obtain ⟨j, hj, rfl, rfl⟩ := hrel
    by_cases hlt : (j : Int) < k
    · go_wp2_with (go_at_call 90; refine (multi_size HH.out).mono ?_; rintro e w' ⟨rfl, rfl⟩)
      go_roundw
      case rel => exact ⟨j + 1, by omega, by go_num, trivial⟩
      case measure => simp [intOf]; omega
    · go_wp2_with (go_at_call 90; refine (multi_size HH.out).mono ?_; rintro e w' ⟨rfl, rfl⟩)
      go_ret
      exact ⟨rfl, rfl⟩
theorem multi_claim (H : Value) (k : Int) (h : MulAt w M R Rs C Sn n st va cur seen) (h0 : -1 ≤ cur) (h1 : cur + k < 4611686018427387904) (hk : 1 ≤ k) (hkn : k ≤ n) (hs1 : cur + k - n ≤ seen) (hs : cur + k - n < 0) :
    Calls Tryz.prog 67 #[.pointer (some ⟨M, 0, none⟩), .nilIface, H, .int .i64 k] w fun e w' => e = .returned (.tuple #[.int .i64 (cur + k), .int .i64 0]) ∧ w.setCell ⟨C, 0, none⟩ (.int .i64 (cur + k)) = w' := by
  have hn := h.ring.pos
  have h2 := h.ring.most
  have c2 : w.cell? ⟨M, 2, none⟩ = some (.pointer (some ⟨C, 0, none⟩)) := h.mul.cell 2
  have HH := Lib.hid h
  clear h
  go_enter Tryz.func67, Tryz.ntmps67
  go_wp2_with (go_at_call 90; refine (multi_size HH.out).mono ?_; rintro e w' ⟨rfl, rfl⟩)
  go_loopw [10] (fun _ wr => wr = w) (fun _ _ => 0)
  case atStart => trivial
  case round =>
    subst hrel
    go_wp2_with (first | (go_at_call 85; refine (word_load _ cur _ (HH.out.cw.cell 0)).mono ?_; rintro e w' ⟨rfl, rfl⟩) | (go_at_call 91; refine (multi_free _ k HH.out h0 h1 hk hs1).mono ?_; rintro e w' ⟨rfl, rfl⟩) | (go_at_call 92; refine (multi_written k HH.out h0 h1 hk hs).mono ?_; rintro e w' ⟨rfl, rfl⟩) | (go_at_call 93; refine (word_cas _ (cur + k) cur _ (HH.out.cw.cell 0) (HH.out.cw.frozen 0)).mono ?_; rintro e w' ⟨rfl, rfl⟩))
    go_ret2
    exact ⟨rfl, rfl⟩
theorem multi_write (q v : Int) (h : MulAt w M R Rs C Sn n st va cur seen) (h0 : 0 ≤ q) (h1 : q < 4611686018427387904) :
    Calls Tryz.prog 68 #[.pointer (some ⟨M, 0, none⟩), .nilIface, .int .i64 q, .int .i64 v] w fun e w' => e = .returned (.int .i64 0) ∧ RingAt w' R Rs n (upd st (q % n).toNat (2 * (q / n))) (upd va (q % n).toNat v) ∧ Kept (fun b => b = Rs) w w' ∧ w'.heap.size = w.heap.size := by
  have c0 : w.cell? ⟨M, 0, none⟩ = some (.pointer (some ⟨R, 0, none⟩)) := h.mul.cell 0
  have HH := Lib.hid h
  clear h
  go_enter Tryz.func68, Tryz.ntmps68
  go_wp2_with (go_at_call 84; refine (multi_no M R C Sn 0 _ HH.out.mul).mono ?_; rintro e w' ⟨rfl, rfl⟩)
  refine (put_x Stepper.none slots_step_none 0 R Rs n st va q v w HH.out.ring h0 h1 trivial id id).mono ?_
  rintro e w1 ⟨rfl, r1, k1, z1, -⟩
  have H1 := Lib.hid (And.intro r1 (And.intro k1 z1))
  clear r1 k1 z1
  go_wp2
  go_ret
  exact ⟨rfl, H1.out.1, H1.out.2.1.mono (fun _ _ z => z.elim id False.elim), H1.out.2.2⟩
end
end Go.Proofs.YtbmjmamodnapiaaGreatDoor
