/- DERIVED. The least free place claimed (package bits: Claim), lone. -/
import Derived.Test.YtbmjmamodnapiaaGreatDoorBusE
namespace Go.Proofs.YtbmjmamodnapiaaGreatDoor
open Go.RowKit
set_option linter.unusedVariables false
/-- The program's table of trailing zeros. -/
def tzTab : List Int := [0, 1, 56, 2, 57, 49, 28, 3, 61, 58, 42, 50, 38, 29, 17, 4, 62, 47, 59, 36, 45, 43, 51, 22, 53, 39, 33, 30, 24, 18, 12, 5, 63, 55, 48, 27, 60, 41, 37, 16, 46, 35, 44, 21, 52, 32, 23, 11, 54, 26, 40, 15, 34, 20, 31, 10, 25, 14, 19, 9, 13, 8, 7, 6]
/-- The table, in memory. -/
def TabAt (w : World) : Prop := ∀ i, i < 64 → w.cell? ⟨0, i, none⟩ = some (.int .u8 (tzTab.getD i 0))
theorem TabAt.kept {Z : Nat → Prop} {w w' : World} (h : TabAt w) (k : Kept Z w w') (hz : ¬ Z 0) : TabAt w' := fun i hi => cell_keep (h i hi) k hz
theorem tz_ok (x : Int) (i j : Nat) (w : World) (hT : TabAt w) (hx : (x == 0) = false) (he : IntKind.u64.wrap (bits BinOp.and IntKind.u64 x (IntKind.u64.wrap (-x)) * 285870213051353865) / 288230376151711744 = (j : Int)) (hj : j < 64) (hi : tzTab.getD j 0 = i) : Calls Tryz.prog 59 #[.int .u64 x] w fun e w' => e = .returned (.int .i64 i) ∧ w = w' := by
  have c := hT j hj
  rw [hi] at c
  have b0 : (0 : Int) ≤ j := by omega
  have b1 : (j : Int) < 64 := by omega
  have hi64 : i < 64 := by
    have : ∀ j : Fin 64, tzTab.getD j.1 0 < 64 := by decide
    have := this ⟨j, hj⟩
    simp only at this
    rw [hi] at this
    omega
  clear hT hi
  go_enter Tryz.func59, Tryz.ntmps59
  go_wp2
  go_ret
  exact ⟨rfl, rfl⟩
theorem bstep_nil (w : World) : Calls Tryz.prog 56 #[.nilIface] w fun e w' => e = .returned (.tuple #[]) ∧ w = w' := by
  go_enter Tryz.func56, Tryz.ntmps56
  go_wp2
  go_end0
  exact ⟨rfl, rfl⟩
theorem full_0 (a : Addr) (w : World) (h : w.cell? a = some (.int .i64 64)) : Calls Tryz.prog 58 #[.pointer (some a), .int .i64 0] w fun e w' => e = .returned (.int .u64 18446744073709551615) ∧ w = w' := by
  go_enter Tryz.func58, Tryz.ntmps58
  go_wp2
  go_ret
  exact ⟨rfl, rfl⟩
theorem u64_load (a : Addr) (x : Int) (w : World) (h : w.cell? a = some (.int .u64 x)) : Calls Tryz.prog 57 #[.pointer (some a)] w fun e w' => e = .returned (.int .u64 x) ∧ w = w' := by
  have hld := run_call_load (P := Tryz.prog) Tryz.func76 (by kernel_rfl) (by kernel_rfl) (by kernel_rfl) .u64 (by kernel_rfl) h
  go_enter Tryz.func57, Tryz.ntmps57
  go_wp2
  go_ret
  exact ⟨rfl, rfl⟩
theorem u64_cas (a : Addr) (x y : Int) (w : World) (h : w.cell? a = some (.int .u64 x)) (hf : w.frozen? a = false) : Calls Tryz.prog 60 #[.pointer (some a), .int .u64 x, .int .u64 y] w fun e w' => e = .returned (.bool true) ∧ w.setCell a (.int .u64 y) = w' := by
  have hcas := run_call_cas_hit (P := Tryz.prog) Tryz.func77 (by kernel_rfl) (by kernel_rfl) (by kernel_rfl) .u64 (by kernel_rfl) (y := y) h hf
  go_enter Tryz.func60, Tryz.ntmps60
  go_wp2
  go_ret
  exact ⟨rfl, rfl⟩
/-- What is reckoned where a place is claimed: of the word the place, then the new word. -/
structure ClaimF (word : Int) (i : Nat) (word' : Int) : Prop where
  full : (word == 18446744073709551615) = false
  nz : (bits BinOp.xor IntKind.u64 IntKind.u64.max word == 0) = false
  ix : ∃ j, j < 64 ∧ tzTab.getD j 0 = i ∧ IntKind.u64.wrap (bits BinOp.and IntKind.u64 (bits BinOp.xor IntKind.u64 IntKind.u64.max word) (IntKind.u64.wrap (-(bits BinOp.xor IntKind.u64 IntKind.u64.max word))) * 285870213051353865) / 288230376151711744 = (j : Int)
  or_ : bits BinOp.or IntKind.u64 word (IntKind.u64.wrap (2 ^ i)) = word'
  lt : i < 64
set_option maxHeartbeats 4000000 in
set_option maxRecDepth 100000 in
/-- The least free place, i, of a set of 64. -/
theorem claim_ok (P W i : Nat) (word word' : Int) (w : World) (hP : Blk w P 128 #[.int .i64 64, .slice (some ⟨W, 0, none⟩) 1 1]) (hW : Blk w W 151 #[.int .u64 word]) (hT : TabAt w) (hne : P ≠ W) (hF : ClaimF word i word') : Calls Tryz.prog 35 #[.pointer (some ⟨P, 0, none⟩), .nilIface] w fun e w' => e = .returned (.tuple #[.int .i64 i, .int .i64 0]) ∧ Kept (fun x => x = W) w w' ∧ Blk w' W 151 #[.int .u64 word'] := by
  have c0 : w.cell? ⟨P, 0, none⟩ = some (.int .i64 64) := hP.cell 0
  have c1 : w.cell? ⟨P, 1, none⟩ = some (.slice (some ⟨W, 0, none⟩) 1 1) := hP.cell 1
  have c2 : w.cell? ⟨W, 0, none⟩ = some (.int .u64 word) := hW.cell 0
  have HH := Lib.hid (And.intro hP (And.intro hW hT))
  have hfull := hF.full
  have HF := Lib.hid hF
  have hi := hF.lt
  clear hP hW hT hF
  go_enter Tryz.func35, Tryz.ntmps35
  go_wp2
  go_loopw [6] (fun k wr => k = .int .i64 0 ∧ wr = w) (fun _ _ => 0)
  case atStart => exact ⟨rfl, rfl⟩
  case round =>
    obtain ⟨rfl, rfl⟩ := hrel
    go_wp2_with (first | (go_at_call 56; refine (bstep_nil _).mono ?_; rintro e w' ⟨rfl, rfl⟩) | (go_at_call 57; refine (u64_load _ word _ c2).mono ?_; rintro e w' ⟨rfl, rfl⟩) | (go_at_call 58; refine (full_0 _ _ c0).mono ?_; rintro e w' ⟨rfl, rfl⟩))
    obtain ⟨j, hj, hij, he⟩ := HF.out.ix
    refine (tz_ok _ i j _ HH.out.2.2 HF.out.nz he hj hij).mono ?_
    rintro e w' ⟨rfl, rfl⟩
    clear he hij
    go_wp2_with (go_at_call 56; refine (bstep_nil _).mono ?_; rintro e w' ⟨rfl, rfl⟩)
    rename_i K0 hK0
    refine strictL ?_
    refine wp_region_held (S := Kept (fun x => x = W) wr) (by kernel_rfl) ?_
    simp only [List.size_toArray, List.length_cons, List.length_nil, Nat.reduceAdd]
    have HW1 : Hid (Kept (fun x => x = W) wr { wr with drawn := wr.drawn + 1 }) := Lib.hid (Kept.drew wr)
    iterate 11
      first
      | refine rdL 0 11 39 ?_
      | refine rdL 1 10 40 ?_
      | refine rdL 2 9 41 ?_
      | refine rdL 3 8 42 ?_
      | refine rdL 4 7 43 ?_
      | refine rdL 5 6 44 ?_
      | refine rdL 6 5 45 ?_
      | refine rdL 7 4 46 ?_
      | refine rdL 8 3 47 ?_
      | refine rdL 9 2 48 ?_
      | refine rdL 10 1 49 ?_
      refine ⟨_, rfl, rfl, by kernel_rfl, by kernel_rfl, by kernel_rfl, (fun c a w h => by cases h.1), rfl, HW1.out, ?_⟩
      apply Exists.intro
      refine ⟨fun wq hw => ?_, ?_⟩
      · have c1 : wq.cell? ⟨P, 1, none⟩ = some (.slice (some ⟨W, 0, none⟩) 1 1) := (HH.out.1.kept hw hne).cell 1
        go_simp
        rfl
      simp only [Act.put, List.setIfInBounds_toArray, List.set_cons_zero, List.set_cons_succ]
    refine oneL (i := 11) (fuel := 0) (by kernel_rfl) rfl rfl fun K hK' => ?_
    unfold Oper.wp
    go_simp
    refine (u64_cas ⟨W, 0, none⟩ word _ wr.drew c2 (HH.out.2.1.frozen 0)).mono ?_
    rintro e w' ⟨rfl, rfl⟩
    dsimp only
    have hk2 : Kept (fun x => x = W) wr (wr.drew.setCell ⟨W, 0, none⟩ (.int .u64 (bits BinOp.or IntKind.u64 word (IntKind.u64.wrap (2 ^ i))))) := (Kept.drew wr).trans (Kept.setCell _ (by rfl) _)
    refine hK' _ _ hk2 ?_
    clear hK' K
    have HK2 := Lib.hid hk2
    clear hk2
    refine wpAnyH_done (by kernel_rfl) ⟨rfl, ?_⟩ _
    refine hK0 _ _ ?_
    have b0 : (0 : Int) ≤ i := by omega
    have b1 : (i : Int) < 64 := by omega
    clear hK0 K0
    go_wp2
    go_ret2
    refine ⟨rfl, HK2.out, ?_⟩
    rw [← HF.out.or_]
    exact HH.out.2.1.set_ 0 _
theorem claim_first : ClaimF 0 0 1 := ⟨by decide, by decide, ⟨0, by decide, by decide, by decide⟩, by decide, by decide⟩
end Go.Proofs.YtbmjmamodnapiaaGreatDoor
