/- DERIVED. What a topic is made of, made: a ring of many writers, a gate, a set of places (packages multi, gate, bits), lone. -/
import Derived.Test.YtbmjmamodnapiaaGreatDoorBusB
import Derived.Test.YtbmjmamodnapiaaGreatDoorBusRing
namespace Go.Proofs.YtbmjmamodnapiaaGreatDoor
open Go.RowKit
set_option linter.unusedVariables false
theorem multi_new (n : Nat) (w : World) (hn : 0 < n) (h2 : n ≤ 65536) (hb : (bits BinOp.and IntKind.i64 (n : Int) ((n : Int) - 1) != 0) = false) : Calls Tryz.prog 26 #[.int .i64 n, .int .i64 0] w fun e w' => e = .returned (.tuple #[.pointer (some ⟨w.heap.size + 4, 0, none⟩), .int .i64 0]) ∧
    RingAt w' (w.heap.size + 1) w.heap.size n (fun _ => -2) (fun _ => 0) ∧ Blk w' (w.heap.size + 2) 177 #[.int .i64 (-1)] ∧ Blk w' (w.heap.size + 3) 177 #[.int .i64 (-1)] ∧
    Blk w' (w.heap.size + 4) 125 #[.pointer (some ⟨w.heap.size + 1, 0, none⟩), .int .i64 0, .pointer (some ⟨w.heap.size + 2, 0, none⟩), .pointer (some ⟨w.heap.size + 3, 0, none⟩)] ∧ Kept (fun _ => False) w w' ∧ w'.heap.size = w.heap.size + 5 := by
  go_enter Tryz.func26, Tryz.ntmps26
  go_wp2_with fail
  refine (new_ok n w hn h2 hb).mono ?_
  rintro e w1 ⟨rfl, R1, B1, Z1⟩
  have HS := Lib.hid (And.intro R1 (And.intro B1 Z1))
  clear R1 B1 Z1 hb
  go_wp2_with fail
  refine (word_new (-1) w1).mono ?_
  rintro e w2 ⟨rfl, hw2⟩
  go_wp2_with fail
  refine (word_new (-1) w2).mono ?_
  rintro e w3 ⟨rfl, hw3⟩
  have HW := Lib.hid (And.intro hw2 hw3)
  clear hw2 hw3
  go_wp2
  go_ret2
  obtain ⟨R1, B1, Z1⟩ := HS.out
  obtain ⟨rfl, rfl⟩ := HW.out
  have e1 : w1.heap.size = w.heap.size + 2 := Z1
  have k1 : Kept (fun _ => False) w w1 := Kept.of_below B1
  have k2 : Kept (fun _ => False) w1 (((w1.alloc (.cells #[.int .i64 (-1)] 177)).alloc (.cells #[.int .i64 (-1)] 177)).alloc (.cells #[.pointer (some ⟨w.heap.size + 1, 0, none⟩), .int .i64 0, .pointer (some ⟨w1.heap.size, 0, none⟩), .pointer (some ⟨(w1.alloc (.cells #[.int .i64 (-1)] 177)).heap.size, 0, none⟩)] 125)) := ((Kept.alloc _ _).trans (Kept.alloc _ _)).trans (Kept.alloc _ _)
  have b1 := ((Blk.new w1 177 #[.int .i64 (-1)]).alloc (.cells #[.int .i64 (-1)] 177)).alloc (.cells #[.pointer (some ⟨w.heap.size + 1, 0, none⟩), .int .i64 0, .pointer (some ⟨w1.heap.size, 0, none⟩), .pointer (some ⟨(w1.alloc (.cells #[.int .i64 (-1)] 177)).heap.size, 0, none⟩)] 125)
  have b2 := (Blk.new (w1.alloc (.cells #[.int .i64 (-1)] 177)) 177 #[.int .i64 (-1)]).alloc (.cells #[.pointer (some ⟨w.heap.size + 1, 0, none⟩), .int .i64 0, .pointer (some ⟨w1.heap.size, 0, none⟩), .pointer (some ⟨(w1.alloc (.cells #[.int .i64 (-1)] 177)).heap.size, 0, none⟩)] 125)
  have b3 := Blk.new ((w1.alloc (.cells #[.int .i64 (-1)] 177)).alloc (.cells #[.int .i64 (-1)] 177)) 125 #[.pointer (some ⟨w.heap.size + 1, 0, none⟩), .int .i64 0, .pointer (some ⟨w1.heap.size, 0, none⟩), .pointer (some ⟨(w1.alloc (.cells #[.int .i64 (-1)] 177)).heap.size, 0, none⟩)]
  simp only [World.size_alloc, e1] at b1 b2 b3 k2 ⊢
  exact ⟨rfl, R1.kept k2 id id, b1, b2, b3, k1.trans k2, trivial⟩
theorem Tryz.infoU64 : (Tryz.prog.info? 151).map (fun i => (i.zero, i.size, i.bytes)) = some (some (.agg #[.int .u64 0]), 1, 8) := by kernel_rfl
theorem bits_new64 (w : World) : Calls Tryz.prog 27 #[.int .i64 64] w fun e w' => e = .returned (.tuple #[.pointer (some ⟨w.heap.size + 1, 0, none⟩), .int .i64 0]) ∧
    Blk w' w.heap.size 151 #[.int .u64 0] ∧ Blk w' (w.heap.size + 1) 128 #[.int .i64 64, .slice (some ⟨w.heap.size, 0, none⟩) 1 1] ∧ Kept (fun _ => False) w w' ∧ w'.heap.size = w.heap.size + 2 := by
  have hmk : ∀ w : World, (Instr.makeSlice 126 (.int .i64 1) (.int .i64 1)).run Tryz.prog w = .ok (.slice (some ⟨w.heap.size, 0, none⟩) 1 1) (w.alloc (.cells #[.int .u64 0] 151)) := fun w => by
    obtain ⟨i, hi, h0, h1, h2⟩ := info_parts Tryz.infoU64
    have := run_make w 126 151 i _ Tryz.underlying126 hi h0 .i64 .i64 1 1 (by omega) (by omega) (by rw [h2]; omega) (by omega)
    rw [h1] at this
    have e : madeCells (Value.agg #[.int .u64 0]).cells (Int.toNat 1 * 1) = #[.int .u64 0] := by simp [madeCells, Value.cells, show Array.range 1 = #[0] from by decide]
    rw [e] at this
    exact this
  go_enter Tryz.func27, Tryz.ntmps27
  go_wp2
  go_ret2
  have k : Kept (fun _ => False) w ((w.alloc (.cells #[.int .u64 0] 151)).alloc (.cells #[.int .i64 64, .slice (some ⟨w.heap.size, 0, none⟩) 1 1] 128)) := (Kept.alloc _ _).trans (Kept.alloc _ _)
  have b2 := Blk.new (w.alloc (.cells #[.int .u64 0] 151)) 128 #[.int .i64 64, .slice (some ⟨w.heap.size, 0, none⟩) 1 1]
  rw [World.size_alloc] at b2
  exact ⟨by simp, (Blk.new w 151 #[.int .u64 0]).alloc _, b2, k, by simp⟩
/-- A gate: what its box holds, and the numbers. -/
structure GateAt (w : World) (G : Nat) (p : Option Addr) (f : Nat → Int) : Prop where
  hd : w.cell? ⟨G, 0, none⟩ = some (.pointer p)
  num : ∀ i, i < 64 → w.cell? ⟨G, 1 + i, none⟩ = some (.int .i64 (f i))
  fz : ∀ i, w.frozen? ⟨G, i, none⟩ = false
theorem GateAt.lt {w : World} {G : Nat} {p : Option Addr} {f : Nat → Int} (h : GateAt w G p f) : G < w.heap.size := lt_of_cell h.hd
theorem GateAt.kept {S : Nat → Prop} {w w' : World} {G : Nat} {p : Option Addr} {f : Nat → Int} (h : GateAt w G p f) (k : Kept S w w') (hG : ¬ S G) : GateAt w' G p f where
  hd := cell_keep h.hd k hG
  num i hi := cell_keep (h.num i hi) k hG
  fz i := by
    have e := k.block G h.lt hG
    have := h.fz i
    unfold World.frozen? at this ⊢
    rw [e]
    exact this
theorem GateAt.setNum {w : World} {G : Nat} {p : Option Addr} {f : Nat → Int} (h : GateAt w G p f) {i : Nat} (hi : i < 64) (x : Int) : GateAt (w.setCell ⟨G, 1 + i, none⟩ (.int .i64 x)) G p (upd f i x) where
  hd := by rw [World.cell?_setCell_other _ _ _ _ (by simp)]; exact h.hd
  num j hj := by
    by_cases e : j = i
    · subst e
      rw [upd_same, World.cell?_setCell_same _ _ _ (by rw [h.num j hj])]
    · rw [upd_ne _ _ e, World.cell?_setCell_other _ _ _ _ (by simp)]
      exact h.num j hj
  fz j := by simp [h.fz j]
theorem gate_zero : Tryz.zeroCells140 = #[.pointer none] ++ Array.replicate 64 (.int .i64 0) := by kernel_rfl
theorem gate_new (w : World) : Calls Tryz.prog 28 #[] w fun e w' => e = .returned (.pointer (some ⟨w.heap.size, 0, none⟩)) ∧ GateAt w' w.heap.size none (fun _ => -1) ∧ Kept (fun _ => False) w w' ∧ w'.heap.size = w.heap.size + 1 := by
  go_enter Tryz.func28, Tryz.ntmps28
  go_wp2
  go_loopw [5] (fun q wr => ∃ i : Nat, i ≤ 64 ∧ q = .int .i64 i ∧ GateAt wr w.heap.size none (fun j => if j < i then -1 else 0) ∧ Kept (fun _ => False) w wr ∧ wr.heap.size = w.heap.size + 1) (fun q _ => 64 - (intOf q).toNat)
  case atStart =>
    refine ⟨0, by omega, rfl, ⟨?_, fun i hi => ?_, fun i => ?_⟩, Kept.alloc _ _, by simp⟩
    · exact ((Blk.new w 140 _).cell 0).trans (by kernel_rfl)
    · refine ((Blk.new w 140 _).cell (1 + i)).trans ?_
      rw [gate_zero, Array.getElem?_append_right (by simp)]
      simp [hi]
    · exact (Blk.new w 140 _).frozen i
  case round =>
    obtain ⟨i, hi, rfl, hG, hk, hz⟩ := hrel
    by_cases hlt : i < 64
    · have c := hG.num i hlt
      rw [if_neg (by omega)] at c
      have z := hG.fz (1 + i)
      go_wp2_with (go_at_call 50; refine (atomic_store _ (-1) 0 _ c z).mono ?_; rintro e w' ⟨rfl, rfl⟩)
      have HH := Lib.hid (And.intro hG (And.intro hk hz))
      clear hG hk hz c z
      go_roundw
      case rel =>
        refine ⟨i + 1, by omega, by go_num, ?_, ?_, by simpa using HH.out.2.2⟩
        · rw [fill_succ]
          exact HH.out.1.setNum hlt (-1)
        · exact HH.out.2.1.later (Kept.setCell (S := fun b => b = w.heap.size) _ (by rfl) _) (fun b e => Nat.le_of_eq e.symm)
      case measure => simp [intOf]; omega
    · have ei : i = 64 := by omega
      subst ei
      have HH := Lib.hid (And.intro hG (And.intro hk hz))
      clear hG hk hz
      go_wp2
      go_ret
      refine ⟨rfl, ⟨HH.out.1.hd, fun j hj => ?_, HH.out.1.fz⟩, HH.out.2.1, HH.out.2.2⟩
      have := HH.out.1.num j hj
      rwa [if_pos hj] at this
end Go.Proofs.YtbmjmamodnapiaaGreatDoor
