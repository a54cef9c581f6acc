/- DERIVED. A set of places that is full; a place given back (package bits: Claim, Drop), lone. -/
import Derived.Test.YtbmjmamodnapiaaGreatDoorBusF
namespace Go.Proofs.YtbmjmamodnapiaaGreatDoor
open Go.RowKit
set_option linter.unusedVariables false
/-- What is reckoned where a place is given back. -/
structure DropF (word : Int) (i : Nat) (word' : Int) : Prop where
  in_ : (bits BinOp.and IntKind.u64 word (IntKind.u64.wrap (2 ^ i)) != 0) = true
  xor : bits BinOp.xor IntKind.u64 word (IntKind.u64.wrap (2 ^ i)) = word'
  lt : i < 64
set_option maxHeartbeats 4000000 in
set_option maxRecDepth 100000 in
theorem claim_full (P W : Nat) (w : World) (hP : Blk w P 128 #[.int .i64 64, .slice (some ⟨W, 0, none⟩) 1 1]) (hW : Blk w W 151 #[.int .u64 18446744073709551615]) : Calls Tryz.prog 35 #[.pointer (some ⟨P, 0, none⟩), .nilIface] w fun e w' => e = .returned (.tuple #[.int .i64 0, .int .i64 3]) ∧ w = w' := by
  have c0 : w.cell? ⟨P, 0, none⟩ = some (.int .i64 64) := hP.cell 0
  have c1 : w.cell? ⟨P, 1, none⟩ = some (.slice (some ⟨W, 0, none⟩) 1 1) := hP.cell 1
  have c2 : w.cell? ⟨W, 0, none⟩ = some (.int .u64 18446744073709551615) := hW.cell 0
  clear hP hW
  go_enter Tryz.func35, Tryz.ntmps35
  go_wp2
  go_loopw [6] (fun k wr => (k = .int .i64 0 ∨ k = .int .i64 1) ∧ wr = w) (fun k _ => (1 - intOf k).toNat)
  case atStart => exact ⟨.inl rfl, rfl⟩
  case round =>
    obtain ⟨rfl | rfl, rfl⟩ := hrel
    · go_wp2_with (first | (go_at_call 56; refine (bstep_nil _).mono ?_; rintro e w' ⟨rfl, rfl⟩) | (go_at_call 57; refine (u64_load _ 18446744073709551615 _ c2).mono ?_; rintro e w' ⟨rfl, rfl⟩) | (go_at_call 58; refine (full_0 _ _ c0).mono ?_; rintro e w' ⟨rfl, rfl⟩))
      go_roundw
      case rel => exact ⟨.inr (by go_num), trivial⟩
      case measure => simp [intOf]
    · go_wp2
      go_ret2
      exact ⟨rfl, rfl⟩
theorem bits_size (P : Nat) (v : Value) (w : World) (hP : Blk w P 128 #[.int .i64 64, v]) : Calls Tryz.prog 89 #[.pointer (some ⟨P, 0, none⟩)] w fun e w' => e = .returned (.int .i64 64) ∧ w = w' := by
  have c0 : w.cell? ⟨P, 0, none⟩ = some (.int .i64 64) := hP.cell 0
  clear hP
  go_enter Tryz.func89, Tryz.ntmps89
  go_wp2
  go_ret
  exact ⟨rfl, rfl⟩
theorem imod64 (i : Nat) (h : i < 64) : (i : Int).tmod 64 = i := by rw [Int.tmod_eq_emod_of_nonneg (by omega)]; omega
theorem idiv64 (i : Nat) (h : i < 64) : (i : Int).tdiv 64 = 0 := by rw [Int.tdiv_eq_ediv_of_nonneg (by omega)]; omega
set_option maxHeartbeats 4000000 in
set_option maxRecDepth 100000 in
theorem change_ok (P W i : Nat) (word word' : Int) (w : World) (hP : Blk w P 128 #[.int .i64 64, .slice (some ⟨W, 0, none⟩) 1 1]) (hW : Blk w W 151 #[.int .u64 word]) (hne : P ≠ W) (hF : DropF word i word') : Calls Tryz.prog 66 #[.pointer (some ⟨P, 0, none⟩), .nilIface, .int .i64 i, .bool false] w fun e w' => e = .returned (.tuple #[.bool true, .int .i64 0]) ∧ Kept (fun x => x = W) w w' ∧ Blk w' W 151 #[.int .u64 word'] := by
  have c0 : w.cell? ⟨P, 0, none⟩ = some (.int .i64 64) := hP.cell 0
  have c1 : w.cell? ⟨P, 1, none⟩ = some (.slice (some ⟨W, 0, none⟩) 1 1) := hP.cell 1
  have c2 : w.cell? ⟨W, 0, none⟩ = some (.int .u64 word) := hW.cell 0
  have HH := Lib.hid (And.intro hP hW)
  have HF := Lib.hid hF
  have hi := hF.lt
  clear hW hF
  have i0 : (0 : Int) ≤ i := by omega
  have i1 : (i : Int) < 64 := by omega
  have e1 := imod64 i hi
  have e2 := idiv64 i hi
  go_enter Tryz.func66, Tryz.ntmps66
  go_wp2_with (first | (go_at_call 89; refine (bits_size P _ _ HH.out.1).mono ?_; rintro e w' ⟨rfl, rfl⟩))
  rename_i K0 hK0
  refine strictL ?_
  refine wp_region_held (S := Kept (fun x => x = W) w) (by kernel_rfl) ?_
  simp only [List.size_toArray, List.length_cons, List.length_nil, Nat.reduceAdd]
  have HW1 : Hid (Kept (fun x => x = W) w { w with drawn := w.drawn + 1 }) := Lib.hid (Kept.drew w)
  iterate 10
    first
    | refine rdL 0 11 21 ?_
    | refine rdL 1 10 22 ?_
    | refine rdL 2 9 23 ?_
    | refine rdL 3 8 24 ?_
    | refine rdL 4 7 25 ?_
    | refine rdL 5 6 26 ?_
    | refine rdL 6 5 27 ?_
    | refine rdL 7 4 28 ?_
    | refine rdL 8 3 29 ?_
    | refine rdL 9 2 30 ?_
    refine ⟨_, rfl, rfl, by kernel_rfl, by kernel_rfl, by kernel_rfl, (fun c a w h => by cases h.1), rfl, HW1.out, ?_⟩
    apply Exists.intro
    refine ⟨fun wq hw => ?_, ?_⟩
    · have c1 : wq.cell? ⟨P, 1, none⟩ = some (.slice (some ⟨W, 0, none⟩) 1 1) := (HH.out.1.kept hw hne).cell 1
      go_simp
      try simp only [e1, e2]
      try go_simp
      rfl
    simp only [Act.put, List.setIfInBounds_toArray, List.set_cons_zero, List.set_cons_succ]
  refine oneL (i := 10) (fuel := 1) (by kernel_rfl) rfl rfl fun K hK' => ?_
  unfold Oper.wp
  go_simp
  refine hK' _ _ HW1.out ?_
  clear hK' K
  refine oneL (i := 11) (fuel := 0) (by kernel_rfl) rfl rfl fun K hK' => ?_
  unfold Oper.wp
  go_simp
  refine hK' _ _ HW1.out ?_
  clear hK' K
  refine wpAnyH_done (by kernel_rfl) ⟨rfl, ?_⟩ _
  refine hK0 _ _ ?_
  clear hK0 K0
  rw [show (IntKind.i64.wrap 0).toNat = 0 from by decide]
  have hk : Kept (fun x => x = W) w w.drew := HW1.out
  have cD : w.drew.cell? ⟨W, 0, none⟩ = some (.int .u64 word) := c2
  have hin := HF.out.in_
  have hxo := HF.out.xor
  have HK := Lib.hid hk
  clear hk HW1 c0 c1 c2
  go_wp2
  go_loopw [12] (fun _ wr => wr = w.drew) (fun _ _ => 0)
  case atStart => rfl
  case round =>
    subst hrel
    go_wp2_with (first | (go_at_call 56; refine (bstep_nil _).mono ?_; rintro e w' ⟨rfl, rfl⟩) | (go_at_call 57; refine (u64_load _ word _ cD).mono ?_; rintro e w' ⟨rfl, rfl⟩) | (go_at_call 60; refine (u64_cas ⟨W, 0, none⟩ word _ _ cD (HH.out.2.frozen 0)).mono ?_; rintro e w' ⟨rfl, rfl⟩))
    go_ret2
    refine ⟨rfl, HK.out.trans (Kept.setCell _ (by rfl) _), ?_⟩
    exact Blk.set_ HH.out.2 0 _
theorem drop_ok (P W i : Nat) (word word' : Int) (w : World) (hP : Blk w P 128 #[.int .i64 64, .slice (some ⟨W, 0, none⟩) 1 1]) (hW : Blk w W 151 #[.int .u64 word]) (hne : P ≠ W) (hF : DropF word i word') : Calls Tryz.prog 40 #[.pointer (some ⟨P, 0, none⟩), .nilIface, .int .i64 i] w fun e w' => e = .returned (.tuple #[.bool true, .int .i64 0]) ∧ Kept (fun x => x = W) w w' ∧ Blk w' W 151 #[.int .u64 word'] := by
  have HH := Lib.hid (And.intro hP (And.intro hW (And.intro hne hF)))
  clear hP hW hne hF
  go_enter Tryz.func40, Tryz.ntmps40
  go_wp2_with fail
  refine (change_ok P W i word word' w HH.out.1 HH.out.2.1 HH.out.2.2.1 HH.out.2.2.2).mono ?_
  rintro e w1 ⟨rfl, k1, b1⟩
  have H1 := Lib.hid (And.intro k1 b1)
  clear k1 b1
  go_wp2
  go_ret2
  exact ⟨rfl, H1.out⟩
def wordI (i : Nat) : Int := 2 ^ i - 1
/-- What a claim reckons, in one row that can be decided. -/
def ClaimB (word : Int) (i : Nat) (word' : Int) : Prop := (word == 18446744073709551615) = false ∧ (bits BinOp.xor IntKind.u64 IntKind.u64.max word == 0) = false ∧ tzTab.getD (IntKind.u64.wrap (bits BinOp.and IntKind.u64 (bits BinOp.xor IntKind.u64 IntKind.u64.max word) (IntKind.u64.wrap (-(bits BinOp.xor IntKind.u64 IntKind.u64.max word))) * 285870213051353865) / 288230376151711744).toNat 0 = (i : Int) ∧ 0 ≤ (IntKind.u64.wrap (bits BinOp.and IntKind.u64 (bits BinOp.xor IntKind.u64 IntKind.u64.max word) (IntKind.u64.wrap (-(bits BinOp.xor IntKind.u64 IntKind.u64.max word))) * 285870213051353865) / 288230376151711744) ∧ (IntKind.u64.wrap (bits BinOp.and IntKind.u64 (bits BinOp.xor IntKind.u64 IntKind.u64.max word) (IntKind.u64.wrap (-(bits BinOp.xor IntKind.u64 IntKind.u64.max word))) * 285870213051353865) / 288230376151711744) < 64 ∧ bits BinOp.or IntKind.u64 word (IntKind.u64.wrap (2 ^ i)) = word'
instance (a : Int) (i : Nat) (b : Int) : Decidable (ClaimB a i b) := by unfold ClaimB; infer_instance
theorem ClaimB.to {a b : Int} {i : Nat} (h : ClaimB a i b) (hi : i < 64) : ClaimF a i b :=
  have ⟨h1, h2, h3, h4, h5, h6⟩ := h
  ⟨h1, h2, ⟨_, (Int.toNat_lt h4).2 h5, h3, (Int.toNat_of_nonneg h4).symm⟩, h6, hi⟩
theorem claim_at (i : Nat) (hi : i < 64) : ClaimF (wordI i) i (wordI (i + 1)) := ((by decide : ∀ i : Fin 64, ClaimB (wordI i) i (wordI (i + 1))) ⟨i, hi⟩).to hi
theorem claim_hole (i : Nat) (hi : i < 64) : ClaimF (18446744073709551615 - 2 ^ i) i 18446744073709551615 := ((by decide : ∀ i : Fin 64, ClaimB (18446744073709551615 - 2 ^ i.val) i 18446744073709551615) ⟨i, hi⟩).to hi
theorem drop_at (i : Nat) (hi : i < 64) : DropF 18446744073709551615 i (18446744073709551615 - 2 ^ i) :=
  have ⟨h1, h2⟩ := (by decide : ∀ i : Fin 64, (bits BinOp.and IntKind.u64 18446744073709551615 (IntKind.u64.wrap (2 ^ i.val)) != 0) = true ∧ bits BinOp.xor IntKind.u64 18446744073709551615 (IntKind.u64.wrap (2 ^ i.val)) = 18446744073709551615 - 2 ^ i.val) ⟨i, hi⟩
  ⟨h1, h2, hi⟩
end Go.Proofs.YtbmjmamodnapiaaGreatDoor
