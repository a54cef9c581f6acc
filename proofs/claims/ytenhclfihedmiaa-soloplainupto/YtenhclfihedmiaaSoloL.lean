/- DERIVED. The Stepper of the statements of layer 12, walked; 'writes' of the statements: the document's first example: true, whatever the memory. -/
import Derived.Test.YtenhclfihedmiaaSoloP
namespace Go.Proofs.Ytenhclfihedmiaa
open Go.RowKit

theorem wrap_succ (k : Nat) : IntKind.wrap .i64 (IntKind.wrap .i64 (k : Int) + 1) = IntKind.wrap .i64 ((k + 1 : Nat) : Int) := by
  simp only [IntKind.wrap_i64]; omega
/-- The statements' Stepper: a counter in block c. -/
def counter (c : Nat) : Stepper where
  v := .iface 45 (.pointer (some ⟨c, 0, none⟩))
  own := fun b => b = c
  at_ := fun k w => Blk w c 47 #[.int .i64 (IntKind.wrap .i64 k)]
  keep := fun h hk hz => h.kept hk (hz _ rfl)
  old := fun h e => e ▸ h.lt
theorem step_one (c k : Nat) (w : World) (h : Blk w c 47 #[.int .i64 (IntKind.wrap .i64 k)]) : Calls Try.prog 49 #[.pointer (some ⟨c, 0, none⟩)] w fun e w' => e = .returned (.tuple #[]) ∧ w.setCell ⟨c, 0, none⟩ (.int .i64 (IntKind.wrap .i64 ((k + 1 : Nat) : Int))) = w' := by
  have hc := h.cell 0
  have hf := h.frozen 0
  rw [← wrap_succ]
  simp only [List.getElem?_toArray, List.getElem?_cons_zero] at hc
  generalize IntKind.wrap .i64 (k : Int) = x at *
  clear h
  go_enter Try.func49, Try.ntmps49
  go_wp2
  go_end0
  exact ⟨rfl, by rw [IntWalk.i64_left]⟩
theorem method_step (n : Nat) (a : Addr) (w : World) : (method (n + 1) 45 (.pointer (some a)) "Step").run Try.prog w = .ok (49, .pointer (some a)) w := by kernel_rfl
theorem counter_slots (c : Nat) : (counter c).Steps Try.prog 32 := by
  intro k w h
  have h' : Blk w c 47 #[.int .i64 (IntKind.wrap .i64 k)] := h
  have HH := Lib.hid h'
  have hm := fun wx => method_step 200 ⟨c, 0, none⟩ wx
  clear h h'
  show Calls _ _ #[.iface 45 (.pointer (some ⟨c, 0, none⟩))] _ _
  go_enter Try.func32, Try.ntmps32
  go_wp2_with (go_at_call 49; refine (step_one _ _ _ HH.out).mono ?_; rintro e w' ⟨rfl, rfl⟩)
  go_end0
  exact ⟨rfl, HH.out.set_ 0 _, Kept.setCell _ (by rfl) _, by simp⟩
theorem counter_solo (c : Nat) : (counter c).Steps Try.prog 21 := by
  intro k w h
  have h' : Blk w c 47 #[.int .i64 (IntKind.wrap .i64 k)] := h
  have HH := Lib.hid h'
  have hm := fun wx => method_step 200 ⟨c, 0, none⟩ wx
  clear h h'
  show Calls _ _ #[.iface 45 (.pointer (some ⟨c, 0, none⟩))] _ _
  go_enter Try.func21, Try.ntmps21
  go_wp2_with (go_at_call 49; refine (step_one _ _ _ HH.out).mono ?_; rintro e w' ⟨rfl, rfl⟩)
  go_end0
  exact ⟨rfl, HH.out.set_ 0 _, Kept.setCell _ (by rfl) _, by simp⟩

theorem walks_counter {I : Ids} {c : Nat} (h : c ≠ I.so ∧ c ≠ I.rb ∧ c ≠ I.gb ∧ c ≠ I.nb ∧ c ≠ I.pb) : Walks (counter c) I :=
  ⟨counter_slots c, counter_solo c, fun e => h.1 e.symm, fun e => h.2.1 e.symm, fun e => h.2.2.1 e.symm, fun e => h.2.2.2.1 e.symm, fun e => h.2.2.2.2 e.symm⟩
theorem SoloAt.lts {w : World} {I : Ids} {S : SoloSt} (H : SoloAt w I S) : I.so < w.heap.size ∧ I.rb < w.heap.size ∧ I.gb < w.heap.size ∧ I.nb < w.heap.size ∧ I.pb < w.heap.size := ⟨H.solo.lt, H.ring.rlt, H.ring.glt, H.nums.lt, H.places.lt⟩
theorem SoloIs.lts {w : World} {I : Ids} {all : List Int} {rd : Nat → Nat} (H : SoloIs w I all rd) : I.so < w.heap.size ∧ I.rb < w.heap.size ∧ I.gb < w.heap.size ∧ I.nb < w.heap.size ∧ I.pb < w.heap.size := H.elim fun _ h => h.1.lts
theorem SoloIs.alloc {w : World} {I : Ids} {all : List Int} {rd : Nat → Nat} (H : SoloIs w I all rd) (o : Obj) : SoloIs (w.alloc o) I all rd := H.kept (Z := fun _ => False) (Kept.alloc _ _) id id id id id
theorem SoloIs.later {w w' : World} {I : Ids} {all : List Int} {rd : Nat → Nat} {B : Nat} (H : SoloIs w I all rd) (hk : Kept (fun b => B ≤ b) w w') (hB : w.heap.size ≤ B) : SoloIs w' I all rd :=
  have l := H.lts
  H.kept hk (by omega) (by omega) (by omega) (by omega) (by omega)
/-- Numbers built in place. -/
theorem ints_new (w : World) (xs : List Int) (n : Nat) (h : xs.length = n) (t : TypeId) : IntsAt (w.alloc (.cells (xs.map (Value.int .i64)).toArray t)) (.slice (some ⟨w.heap.size, 0, none⟩) n n) xs := by
  subst h
  refine ⟨_, _, rfl, fun i hi => ⟨_, _, rfl, by simp, ?_⟩⟩
  have b := (Blk.new w t (xs.map (Value.int .i64)).toArray).cell (0 + i)
  rw [b, Nat.zero_add]
  simp [List.getD_eq_getElem?_getD, List.getElem?_eq_getElem hi]

def TrueBelow (w : World) (e : Ending) (w' : World) : Prop := e = .returned (.bool true) ∧ Below w.heap.size w w'
set_option maxHeartbeats 1000000 in
theorem writes_true (w : World) : Calls Try.prog 5 #[] w (TrueBelow w) := by
  go_enter Try.func5, Try.ntmps5
  go_wp2_with fail
  refine (solo_new 2 1 w (by omega) (by omega) (by omega) (by decide)).mono ?_
  rintro e w1 ⟨I, en, ek, l1, l2, l3, l4, l5, rfl, HS, hb⟩
  have HI : SoloIs w1 I [] (fun _ => 0) := ⟨_, HS, inv_zero (by omega)⟩
  have lt1 := HI.lts
  have HN := Lib.hid (And.intro en ek)
  have H1 := Lib.hid HI
  have hw1 : w.heap.size ≤ w1.heap.size := hb.size
  have HB := Lib.hid hb
  have W := walks_counter (I := I) (c := w1.heap.size) (by omega)
  clear en ek HS HI hb
  go_wp2_with fail
  have wrote : ∀ b, (b = I.so ∨ b = I.gb ∨ (counter w1.heap.size).own b) → w.heap.size ≤ b := fun b hb => by rcases hb with h | h | h <;> first | omega | (simp only [counter] at h; omega)
  have reads : ∀ b, (b = I.nb ∨ b = I.pb ∨ (counter w1.heap.size).own b) → w.heap.size ≤ b := fun b hb => by rcases hb with h | h | h <;> first | omega | (simp only [counter] at h; omega)
  -- Write(s, 7, 8)
  have a0 : (counter w1.heap.size).at_ 0 ((w1.alloc (.cells #[.int .i64 0] 47)).alloc (.cells #[.int .i64 7, .int .i64 8] 2)) := (Blk.new w1 47 #[.int .i64 0]).alloc _
  have v0 := ints_new (w1.alloc (.cells #[.int .i64 0] 47)) [7, 8] 2 rfl 2
  rw [World.size_alloc] at v0
  refine (write_is (counter w1.heap.size) 0 _ I W [] [7, 8] (fun _ => 0) ((H1.out.alloc _).alloc _) a0 _ v0 (by simp) (by have := HN.out; simp; omega) (by simp) (fun a n c e => by cases e; exact ⟨by dsimp only; omega, by dsimp only; omega, fun e => by simp [counter] at e⟩)).mono ?_
  rintro e w2 ⟨⟨hf, _⟩ | ⟨hf, rfl, H2, l, hl, hl0, a2⟩, k2, z2⟩
  · exfalso; obtain ⟨j, hj, h⟩ := hf; have := HN.out; simp at h; omega
  have e0 : l = 0 := hl0 (by have := HN.out; simp; omega)
  subst e0
  have c2 : w2.cell? ⟨w1.heap.size, 0, none⟩ = some (.int .i64 7) := Blk.cell a2 0
  have Z2 : w1.heap.size + 2 ≤ w2.heap.size := by rw [z2]; simp
  have B2 := Lib.hid (HB.out.trans (((Kept.alloc (S := fun b => b = I.so ∨ b = I.gb ∨ (counter w1.heap.size).own b) w1 (.cells #[.int .i64 0] 47)).trans ((Kept.alloc _ (.cells #[.int .i64 7, .int .i64 8] 2)).trans k2)).to_below (B := w.heap.size) wrote hw1))
  have HH2 := Lib.hid H2
  have A2 := Lib.hid a2
  clear a0 v0 hf hl hl0 z2 k2 a2 H2
  have wrote' := Lib.hid wrote
  have reads' := Lib.hid reads
  clear wrote reads
  go_wp2_with fail
  -- Write(s, 9): full
  have v0 := ints_new w2 [9] 1 rfl 2
  refine (write_is (counter w1.heap.size) 7 _ I W [7, 8] [9] (fun _ => 0) (HH2.out.alloc _) (Blk.alloc A2.out _) _ v0 (by simp) (by have := HN.out; simp; omega) (by simp) (fun a n c e => by cases e; exact ⟨by dsimp only; omega, by dsimp only; omega, fun e => by simp [counter] at e; omega⟩)).mono ?_
  rintro e w3 ⟨⟨hf, rfl, H3, l, hl, a3⟩ | ⟨hf, _⟩, k3, z3⟩
  rotate_left
  · exfalso; apply hf; refine ⟨0, ?_, ?_⟩
    · have := HN.out; omega
    · have := HN.out; simp; omega
  have B3 := Lib.hid (B2.out.trans (((Kept.alloc _ (.cells #[.int .i64 9] 2)).trans k3).to_below wrote'.out (by omega)))
  have Z3 : w2.heap.size + 1 ≤ w3.heap.size := by rw [z3]; simp
  have HH3 := Lib.hid H3
  have A3 := Lib.hid a3
  clear v0 hf hl z3 k3 a3 H3 c2
  go_wp2_with fail
  -- Read(s, 0)
  refine (read_is (counter w1.heap.size) _ _ I W [7, 8] (fun _ => 0) HH3.out A3.out 0 (by have := HN.out; omega) (by simp) (by simp)).mono ?_
  rintro e w4 ⟨rfl, H4, k4, a4⟩
  have B4 := Lib.hid (B3.out.trans (k4.to_below reads'.out (by omega)))
  have Z4 : w3.heap.size ≤ w4.heap.size := k4.size
  have HH4 := Lib.hid H4
  have A4 := Lib.hid a4
  clear k4 a4 H4
  go_wp2_with fail
  -- Write(s, 9)
  have v0 := ints_new w4 [9] 1 rfl 2
  refine (write_is (counter w1.heap.size) _ _ I W [7, 8] [9] _ (HH4.out.alloc _) (Blk.alloc A4.out _) _ v0 (by simp) (by have := HN.out; simp; omega) (by simp) (fun a n c e => by cases e; exact ⟨by dsimp only; omega, by dsimp only; omega, fun e => by simp [counter] at e; omega⟩)).mono ?_
  rintro e w5 ⟨⟨hf, _⟩ | ⟨hf, rfl, H5, l', hl, hl0, a5⟩, k5, z5⟩
  · exfalso; obtain ⟨j, hj, h⟩ := hf; have := HN.out; have e : j = 0 := by omega
    subst e; simp [bump] at h; omega
  have B5 := Lib.hid (B4.out.trans (((Kept.alloc _ (.cells #[.int .i64 9] 2)).trans k5).to_below wrote'.out (by omega)))
  have Z5 : w4.heap.size + 1 ≤ w5.heap.size := by rw [z5]; simp
  have HH5 := Lib.hid H5
  have A5 := Lib.hid a5
  clear v0 hf hl hl0 z5 k5 a5 H5
  go_wp2_with fail
  -- Batch(s, 0, 9)
  refine (batch_is (counter w1.heap.size) _ _ I W _ _ HH5.out A5.out 0 2 9 (by have := HN.out; omega) (by omega) (by simp [bump]) (by simp) (by decide) (.inl (by simp [bump]))).mono ?_
  rintro e w6 ⟨v6, rfl, o6, H6, k6, a6⟩
  have B6 := Lib.hid (B5.out.trans (k6.to_below reads'.out (by omega)))
  have Z6 : w5.heap.size ≤ w6.heap.size := k6.size
  have V6 := Lib.hid (show IntsAt w6 v6 [8, 9] from IntsAt.of_own o6)
  have O6 := Lib.hid o6
  have HH6 := Lib.hid H6
  clear k6 a6 H6 o6
  go_wp2_with fail
  refine (state_is _ I _ _ HH6.out).mono ?_
  rintro e w7 ⟨v7, rfl, o7, b7⟩
  have B7 := Lib.hid (B6.out.trans (b7.mono (by omega)))
  have V7 := Lib.hid (show IntsAt w7 v7 [2] from by
    have e : listN (fun j => ((bump (bump (fun _ => 0) 0 1) 0 2 j : Nat) : Int) - 1) I.k = [2] := by rw [HN.out.2]; rfl
    rw [e] at o7; exact IntsAt.of_own o7)
  have Z7 : w6.heap.size ≤ w7.heap.size := b7.size
  have V6' := Lib.hid (V6.out.kept (Kept.of_below (S := fun _ => False) b7) (fun _ _ _ _ h => h))
  clear o7 b7
  go_wp2_with fail
  have v0 := ints_new w7 [8, 9] 2 rfl 2
  refine (same_numbers _ _ _ _ _ (V6'.out.kept (Kept.alloc (S := fun _ => False) _ _) (fun _ _ _ _ h => h)) v0 (by unfold maxLen; simp)).mono ?_
  rintro e w8 ⟨rfl, k8, h8⟩
  have V8 := Lib.hid (show IntsAt w8 v7 [2] from h8 ▸ V7.out.kept ((Kept.alloc (S := fun _ => False) _ _).trans (Kept.drewN _ _ _)) (fun _ _ _ _ h => h))
  have B8 := Lib.hid (show Below w.heap.size w w8 from h8 ▸ Below.drewN (B7.out.alloc (by omega) _) k8)
  have Z8 : w7.heap.size + 1 ≤ w8.heap.size := by rw [← h8]; simp
  clear v0 h8
  have ed : decide (([8, 9] : List Int) = [8, 9]) = true := rfl
  rw [ed]
  clear ed
  go_wp2_with fail
  have v0 := ints_new w8 [2] 1 rfl 2
  refine (same_numbers _ _ _ _ _ (V8.out.kept (Kept.alloc (S := fun _ => False) _ _) (fun _ _ _ _ h => h)) v0 (by unfold maxLen; simp)).mono ?_
  rintro e w9 ⟨rfl, k9, h9⟩
  have B9 := Lib.hid (show Below w.heap.size w w9 from h9 ▸ Below.drewN (B8.out.alloc (by omega) _) k9)
  clear h9
  have ed : decide (([2] : List Int) = [2]) = true := rfl
  rw [ed]
  clear ed v0
  go_wp2
  go_ret
  exact ⟨rfl, B9.out⟩
end Go.Proofs.Ytenhclfihedmiaa
