/- DERIVED. No bus and no subscription; the names of a bus (package bus), lone. -/
import Derived.Test.YtbmjmamodnapiaaGreatDoorBusS
namespace Go.Proofs.YtbmjmamodnapiaaGreatDoor
open Go.RowKit
set_option linter.unusedVariables false
theorem find_nil (S : Value) (name : Int) (w : World) : Calls Tryz.prog 33 #[.pointer none, S, .int .i64 name] w fun e w' => e = .returned (.pointer none) ∧ w = w' := by
  go_enter Tryz.func33, Tryz.ntmps33
  go_wp2
  go_ret
  exact ⟨rfl, rfl⟩
theorem close_nil (S : Value) (name : Int) (w : World) : Calls Tryz.prog 22 #[.pointer none, S, .int .i64 name] w fun e w' => e = .returned (.tuple #[.bool false, .int .i64 6]) ∧ w = w' := by
  go_enter Tryz.func22, Tryz.ntmps22
  go_wp2_with (go_at_call 33; refine (find_nil S name _).mono ?_; rintro e w' ⟨rfl, rfl⟩)
  go_ret2
  exact ⟨rfl, rfl⟩
theorem publish_nil (S : Value) (name : Int) (V : Value) (w : World) : Calls Tryz.prog 20 #[.pointer none, S, .int .i64 name, V] w fun e w' => e = .returned (.tuple #[.int .i64 0, .int .i64 6]) ∧ w = w' := by
  go_enter Tryz.func20, Tryz.ntmps20
  go_wp2
  go_ret2
  exact ⟨rfl, rfl⟩
theorem subscribe_nil (S : Value) (name a b c : Int) (w : World) : Calls Tryz.prog 16 #[.pointer none, S, .int .i64 name, .agg #[.int .i64 a, .int .i64 b, .int .i64 c]] w fun e w' => e = .returned (.tuple #[.pointer none, .int .i64 6]) ∧ Kept (fun _ => False) w w' := by
  go_enter Tryz.func16, Tryz.ntmps16
  go_wp2_with (go_at_call 33; refine (find_nil S name _).mono ?_; rintro e w' ⟨rfl, rfl⟩)
  go_ret2
  exact ⟨rfl, Kept.alloc _ _⟩
theorem follow_nil (S : Value) (name q a b c : Int) (w : World) : Calls Tryz.prog 23 #[.pointer none, S, .int .i64 name, .int .i64 q, .agg #[.int .i64 a, .int .i64 b, .int .i64 c]] w fun e w' => e = .returned (.tuple #[.pointer none, .int .i64 6]) ∧ Kept (fun _ => False) w w' := by
  go_enter Tryz.func23, Tryz.ntmps23
  go_wp2_with (go_at_call 33; refine (find_nil S name _).mono ?_; rintro e w' ⟨rfl, rfl⟩)
  go_ret2
  exact ⟨rfl, Kept.alloc _ _⟩
theorem names_nil (w : World) : Calls Tryz.prog 24 #[.pointer none] w fun e w' => e = .returned (.slice none 0 0) ∧ w = w' := by
  go_enter Tryz.func24, Tryz.ntmps24
  go_wp2
  go_ret
  exact ⟨rfl, rfl⟩
theorem over_nil (w : World) : Calls Tryz.prog 38 #[.pointer none] w fun e w' => e = .returned (.bool true) ∧ w = w' := by
  go_enter Tryz.func38, Tryz.ntmps38
  go_wp2
  go_ret
  exact ⟨rfl, rfl⟩
theorem next_nil (w : World) : Calls Tryz.prog 19 #[.pointer none] w fun e w' => e = .returned (.int .i64 (-1)) ∧ w = w' := by
  go_enter Tryz.func19, Tryz.ntmps19
  go_wp2_with (go_at_call 38; refine (over_nil _).mono ?_; rintro e w' ⟨rfl, rfl⟩)
  go_ret
  exact ⟨rfl, rfl⟩
theorem place_nil (w : World) : Calls Tryz.prog 17 #[.pointer none] w fun e w' => e = .returned (.int .i64 (-1)) ∧ w = w' := by
  go_enter Tryz.func17, Tryz.ntmps17
  go_wp2_with (go_at_call 38; refine (over_nil _).mono ?_; rintro e w' ⟨rfl, rfl⟩)
  go_ret
  exact ⟨rfl, rfl⟩
theorem end_nil (S : Value) (w : World) : Calls Tryz.prog 18 #[.pointer none, S] w fun e w' => e = .returned (.int .i64 6) ∧ w = w' := by
  go_enter Tryz.func18, Tryz.ntmps18
  go_wp2_with (go_at_call 38; refine (over_nil _).mono ?_; rintro e w' ⟨rfl, rfl⟩)
  go_ret
  exact ⟨rfl, rfl⟩
theorem poll_nil (S : Value) (m : Int) (w : World) : Calls Tryz.prog 21 #[.pointer none, S, .int .i64 m] w fun e w' => e = .returned (.tuple #[.slice none 0 0, .int .i64 0, .int .i64 6]) ∧ w = w' := by
  go_enter Tryz.func21, Tryz.ntmps21
  go_wp2_with (go_at_call 38; refine (over_nil _).mono ?_; rintro e w' ⟨rfl, rfl⟩)
  go_ret3
  exact ⟨rfl, rfl⟩
theorem ptr_value_tp (p : Option Addr) (v : Value) (w : World) (h : BoxV 145 p v w) : Calls Tryz.prog 53 #[.pointer p] w fun e w' => e = .returned v ∧ w = w' := by
  rcases h with ⟨rfl, rfl⟩ | ⟨K, b, rfl, hb⟩
  · go_enter Tryz.func53, Tryz.ntmps53
    go_wp2
    go_ret
    exact ⟨rfl, rfl⟩
  · have hc : w.cell? ⟨K, 0, none⟩ = some v := hb.cell 0
    clear hb
    go_enter Tryz.func53, Tryz.ntmps53
    go_wp2
    go_ret
    exact ⟨rfl, rfl⟩
theorem box_value_tp (a : Addr) (p : Option Addr) (v : Value) (w : World) (h : w.cell? a = some (.pointer p)) (hv : BoxV 145 p v w) : Calls Tryz.prog 47 #[.pointer (some a)] w fun e w' => e = .returned v ∧ w = w' := by
  have HV := Lib.hid hv
  clear hv
  go_enter Tryz.func47, Tryz.ntmps47
  go_wp2_with (first | (go_at_call 52; refine (ptr_load_tp _ p _ h HV.out.held).mono ?_; rintro e w' ⟨rfl, rfl⟩) | (go_at_call 53; refine (ptr_value_tp p v _ HV.out).mono ?_; rintro e w' ⟨rfl, rfl⟩))
  go_ret
  exact ⟨rfl, rfl⟩
set_option maxHeartbeats 2000000 in
set_option maxRecDepth 100000 in
theorem names_ok (b : Nat) (ls : List (Int × Nat)) (w : World) (h : BusAt w b ls) (hsm : ls.length ≤ 65536) : Calls Tryz.prog 24 #[.pointer (some ⟨b, 0, none⟩)] w fun e w' => ∃ v, e = .returned v ∧ w'.ownsRow w.heap.size 2 1 v ls.length (ls.map fun x => .int .i64 x.1) ∧ Kept (fun _ => False) w w' := by
  obtain ⟨p, v, h1, h2, A, c, rfl, hl, hc, -, hx⟩ := h
  have c0 : w.cell? ⟨b, 0, none⟩ = some (.pointer p) := h1.cell 0
  unfold maxLen at hc
  have HX := Lib.hid hx
  have HV := Lib.hid h2
  obtain ⟨i0, hi0, hz0, hz1, hz2⟩ := info_parts Tryz.infoI64
  clear hx h1 h2
  go_enter Tryz.func24, Tryz.ntmps24
  go_wp2_with (go_at_call 47; refine (box_value_tp _ p _ _ c0 HV.out).mono ?_; rintro e w' ⟨rfl, rfl⟩)
  go_loopw [3, 13] (fun o i wr => ∃ j : Nat, j ≤ ls.length ∧ i = .int .i64 j ∧ wr.ownsRow w.heap.size 2 1 o j ((ls.take j).map fun x => .int .i64 x.1) ∧ Below w.heap.size w wr) (fun _ i _ => ls.length - (intOf i).toNat)
  case atStart => exact ⟨0, Nat.zero_le _, rfl, ⟨by simp, .inl ⟨rfl, rfl⟩⟩, Below.refl _ _⟩
  case round =>
    obtain ⟨j, hj, rfl, hown, hb⟩ := hrel
    obtain ⟨oA, ocap, rfl⟩ := own_slice hown
    have HO := Lib.hid hown
    have hk : Kept (fun _ => False) w wr := Kept.of_below (S := fun _ => False) hb
    clear hown
    by_cases hlt : j < ls.length
    · obtain ⟨L, rfl, q1, q2⟩ := HX.out j hlt
      have q1 := cell_keep q1 hk id
      have q2 := cell_keep q2 hk id
      have hd : ls.take (j + 1) = ls.take j ++ [ls[j]] := (List.take_append_getElem hlt).symm
      have HD := Lib.hid hd
      generalize ls[j] = T at q1 q2 HD
      obtain ⟨nm, tb⟩ := T
      dsimp only at q1 q2
      have hb1 : w.heap.size ≤ wr.heap.size := hb.size
      have HB := Lib.hid hb
      clear hd hk hb
      go_wp2_with (at_builtin; refine wpList_append_own _ rfl _ _ 60 rfl w.heap.size 2 i0 (.int .i64 0) 1 8 Tryz.underlying60 hi0 hz0 hz1 hz2 rfl (by decide) _ _ _ rfl (HO.out.alloc _) ⟨wr.heap.size, 0, none⟩ 1 1 [.int .i64 nm] rfl rfl ?c1 ?c2 ?c3 ?c4 ?c5 ?_)
      case c1 => exact cell_one_new _ _ _
      case c2 => simp [Value.oneCell']
      case c3 => unfold maxLen; omega
      case c4 => omega
      case c5 => simp; omega
      intro v' w3 hown1 hg1 _
      have ho1 : w3.ownsRow w.heap.size 2 1 v' (j + 1) ((ls.take (j + 1)).map fun x => .int .i64 x.1) := by rw [HD.out, List.map_append, List.map_take]; exact hown1
      have hb3 : Below w.heap.size w w3 := (HB.out.alloc HB.out.size _).grown hg1 (by simp; omega) (fun k hk => (HO.out.lt k hk).1)
      have HO2 := Lib.hid (And.intro ho1 hb3)
      clear hown1 hg1 ho1 hb3
      go_wp2
      go_roundw
      case rel => exact ⟨j + 1, by omega, by go_num, HO2.out.1, HO2.out.2⟩
      case measure => simp [intOf]; omega
    · have ej : j = ls.length := by omega
      have HB := Lib.hid hb
      clear hb hk
      go_wp2
      go_ret
      subst ej
      exact ⟨_, rfl, by have := HO.out; rw [List.take_length] at this; exact this, Kept.of_below HB.out⟩
theorem names_none (b : Nat) (w : World) (h : Blk w b 72 #[.pointer none]) : Calls Tryz.prog 24 #[.pointer (some ⟨b, 0, none⟩)] w fun e w' => ∃ v, e = .returned v ∧ w'.ownsRow w.heap.size 2 1 v 0 [] ∧ Kept (fun _ => False) w w' :=
  names_ok b [] w ⟨none, .slice none 0 0, h, .inl ⟨rfl, rfl⟩, none, 0, rfl, by simp, by simp, fun _ => rfl, fun i hi => by simp at hi⟩ (by simp)
end Go.Proofs.YtbmjmamodnapiaaGreatDoor
