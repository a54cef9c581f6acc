/- DERIVED. A subscription that finds nothing, a topic closed (package bus: Poll, Close), lone; carillonref19.Seen. -/
import Derived.Test.YtbmjmamodnapiaaGreatDoorBusQ
namespace Go.Proofs.YtbmjmamodnapiaaGreatDoor
open Go.RowKit
set_option linter.unusedVariables false
set_option maxHeartbeats 4000000 in
set_option maxRecDepth 100000 in
theorem poll_empty {w : World} {M R Rs C Sn n u T r G i : Nat} {kd a b : Int} {st va f : Nat → Int} {cur seen : Int} (gp : Option Addr) (q m : Int) (cl : Bool) (hu : SubAt w u T r kd a b i) (hr : RdAt w r M G i true q) (hM : MulAt w M R Rs C Sn n st va cur seen) (hG : GateAt w G gp f) (hi : i < 64)
    (hT : w.cell? ⟨T, 4, none⟩ = some (.int .u32 (if cl then 1 else 0))) (h0 : 0 ≤ q) (hq : cur < q) (hq1 : q < 4611686018427387904) (h1 : -1 ≤ cur) (hm0 : -9223372036854775808 ≤ m) (hm1 : m < 9223372036854775808) (d1 : r ≠ G) (d2 : M ≠ G) :
    Calls Tryz.prog 21 #[.pointer (some ⟨u, 0, none⟩), .nilIface, .int .i64 m] w fun e w' => e = .returned (.tuple #[.slice none 0 0, .int .i64 0, .int .i64 (if cl then 5 else 4)]) ∧ Kept (fun _ => False) w w' := by
  have HU := Lib.hid hu
  have HH := Lib.hid (And.intro hr (And.intro hM (And.intro hG hT)))
  clear hu hr hM hG hT
  go_enter Tryz.func21, Tryz.ntmps21
  go_wp2_with (go_at_call 38; refine (sub_over u T r i kd a b _ HU.out).mono ?_; rintro e w' ⟨rfl, rfl⟩)
  refine (sub_empty gp q m HU.out HH.out.1 HH.out.2.1 HH.out.2.2.1 hi h0 hq hq1 h1 hm0 hm1 d1 d2).mono ?_
  rintro e w1 ⟨rfl, k1⟩
  have c0 : w1.cell? ⟨u, 0, none⟩ = some (.pointer (some ⟨T, 0, none⟩)) := Blk.cell (Blk.kept HU.out k1 id) 0
  have H1 := Lib.hid (And.intro k1 (cell_keep HH.out.2.2.2 k1 id))
  clear k1
  cases cl with
  | true =>
    go_wp2_with (go_at_call 34; refine (flag_load _ true _ H1.out.2).mono ?_; rintro e w' ⟨rfl, rfl⟩)
    go_ret3
    exact ⟨rfl, H1.out.1⟩
  | false =>
    go_wp2_with (go_at_call 34; refine (flag_load _ false _ H1.out.2).mono ?_; rintro e w' ⟨rfl, rfl⟩)
    go_ret3
    exact ⟨rfl, H1.out.1⟩
theorem bus_close (b B n : Nat) (ls : List (Int × Nat)) (S : TSt) (name : Int) (w : World) (hB : BusIn w b ls (B + 9)) (hl : lookT ls name = some ⟨B + 8, 0, none⟩) (hT : TopicAt w B n S) :
    Calls Tryz.prog 22 #[.pointer (some ⟨b, 0, none⟩), .nilIface, .int .i64 name] w fun e w' => e = .returned (.tuple #[.bool (!S.closed), .int .i64 0]) ∧ Kept (fun x => x = B + 8) w w' ∧ TopicAt w' B n { S with closed := true } := by
  have HB := Lib.hid hB
  have HT := Lib.hid hT
  have Hl := Lib.hid hl
  clear hB hT hl
  go_enter Tryz.func22, Tryz.ntmps22
  go_wp2_with fail
  refine (find_ok b ls name w HB.out.at_).mono ?_
  rintro e w1 ⟨rfl, k1⟩
  rw [Hl.out]
  have H1 := Lib.hid k1
  clear k1
  have hT1 := HT.out.kept (Z := fun _ => False) H1.out (fun _ z => z.elim)
  have t4 : w1.cell? ⟨B + 8, 4, none⟩ = some (.int .u32 (if S.closed then 1 else 0)) := hT1.top.cell 4
  have z4 : w1.frozen? ⟨B + 8, 4, none⟩ = false := hT1.top.frozen 4
  have HT1 := Lib.hid hT1
  have T4 := Lib.hid (And.intro t4 z4)
  clear hT1 t4 z4
  go_wp2_with fail
  refine (flag_set _ S.closed _ T4.out.1 T4.out.2).mono ?_
  rintro e w2 ⟨rfl, hw2⟩
  have k2 : Kept (fun x => x = B + 8) w1 w2 := hw2 ▸ (Kept.setCell (S := fun x => x = B + 8) w1 (p := ⟨B + 8, 4, none⟩) rfl _).trans (Kept.drew _)
  have b2 : Blk w2 (B + 8) 93 _ := hw2 ▸ (HT1.out.top.set_ 4 (.int .u32 1)).drew
  have H2 := Lib.hid (And.intro k2 b2)
  clear k2 b2 hw2
  go_wp2
  go_ret2
  obtain ⟨k2, b2⟩ := H2.out
  refine ⟨rfl, (H1.out.mono fun _ _ z => z.elim).trans k2, HT1.out.ring.kept k2 (by omega) (by omega), HT1.out.cw.kept k2 (by omega), HT1.out.sw.kept k2 (by omega), HT1.out.mul.kept k2 (by omega), HT1.out.pw.kept k2 (by omega), HT1.out.pl.kept k2 (by omega), HT1.out.gate.kept k2 (by omega), b2, ?_⟩
  rcases HT1.out.mem with hm | ⟨K, L, c', h1, h2, h3, h4, h5, h6, h7⟩
  · exact .inl hm
  · exact .inr ⟨K, L, c', h1, h2.kept k2 (by omega), h3, h4, h5, h6, fun i hi => cell_keep (h7 i hi) k2 (by show ¬ (L = B + 8); omega)⟩
set_option maxRecDepth 100000 in
theorem seen_ref (q v : Int) (w : World) : Calls Tryz.prog 25 #[.int .i64 q, .int .i64 v] w fun e w' => e = .returned (.agg #[.int .i64 q, .int .i64 (seW v), .int .i64 (seN v), .int .i64 (seX v)]) ∧ Kept (fun _ => False) w w' := by
  by_cases hE : unE v = 0
  · rw [show seW v = itW v from if_pos hE, show seN v = itN v from rfl, show seX v = itX v from if_pos hE]
    have HE := Lib.hid hE
    clear hE
    go_enter Tryz.func25, Tryz.ntmps25
    go_wp2_with fail
    have ka : Kept (fun _ => False) w (w.alloc (.cells #[.int .i64 0, .int .i64 0, .int .i64 0, .int .i64 0] 52)) := Kept.alloc _ _
    have ba := Blk.new w 52 #[.int .i64 0, .int .i64 0, .int .i64 0, .int .i64 0]
    obtain ⟨x, hx⟩ : ∃ x, x = w.heap.size := ⟨_, rfl⟩
    rw [← hx] at ba ⊢
    generalize w.alloc (.cells #[.int .i64 0, .int .i64 0, .int .i64 0, .int .i64 0] 52) = wa at ka ba ⊢
    have HX := Lib.hid hx
    clear hx
    refine (unpack_ref v wa).mono ?_
    rintro e w1 ⟨rfl, k1⟩
    have hk1 := ka.trans k1
    have b1 := ba.kept k1 id
    try rw [HE.out]
    have b2 := b1.alloc (.cells #[.int .i64 (itW v), .int .i64 (itN v), .int .i64 (itX v)] 30)
    have c0 := b2.cell 0
    have c1 := b2.cell 1
    have c2 := b2.cell 2
    have c3 := b2.cell 3
    have z0 := b2.frozen 0
    have z1 := b2.frozen 1
    have z2 := b2.frozen 2
    have z3 := b2.frozen 3
    simp only [List.getElem?_toArray, List.getElem?_cons_zero, List.getElem?_cons_succ] at c0 c1 c2 c3
    have HA := Lib.hid (And.intro hk1 b1)
    clear ka ba k1 hk1 b1 b2
    go_wp2
    have b2 := HA.out.2.alloc (.cells #[.int .i64 (itW v), .int .i64 (itN v), .int .i64 (itX v)] 30)
    have b3 := (((b2.set_ 0 (.int .i64 q)).set_ 1 (.int .i64 (itW v))).set_ 2 (.int .i64 (itN v))).set_ 3 (.int .i64 (itX v))
    have e0 := b3.cell 0
    have e1 := b3.cell 1
    have e2 := b3.cell 2
    have e3 := b3.cell 3
    have kz : Kept (fun y => y = x) _ _ := (((Kept.setCell (S := fun y => y = x) (w1.alloc (.cells #[.int .i64 (itW v), .int .i64 (itN v), .int .i64 (itX v)] 30)) (p := ⟨x, 0, none⟩) rfl (.int .i64 q)).trans (Kept.setCell (S := fun y => y = x) _ (p := ⟨x, 1, none⟩) rfl (.int .i64 (itW v)))).trans (Kept.setCell (S := fun y => y = x) _ (p := ⟨x, 2, none⟩) rfl (.int .i64 (itN v)))).trans (Kept.setCell (S := fun y => y = x) _ (p := ⟨x, 3, none⟩) rfl (.int .i64 (itX v)))
    have kall : Kept (fun _ => False) w _ := (HA.out.1.trans (Kept.alloc (S := fun _ => False) w1 (.cells #[.int .i64 (itW v), .int .i64 (itN v), .int .i64 (itX v)] 30))).later kz (fun b hb => by have := HX.out; omega)
    refine bodyPost_ret (v := .agg #[.int .i64 q, .int .i64 (itW v), .int .i64 (itN v), .int .i64 (itX v)]) ?_ rfl ⟨rfl, kall⟩
    simp only [List.setIfInBounds_toArray, List.set_cons_zero, List.set_cons_succ, List.getElem?_toArray, List.getElem?_cons_zero, List.getElem?_cons_succ] at e0 e1 e2 e3
    simp [results, Tryz.f25, go_sem, e0, e1, e2, e3]
  · have eE : (unE v != 0) = true := by simpa using hE
    have eN : seN v = 0 := by
      unfold unE at hE
      unfold seN itN
      cases h : okI v
      · rfl
      · rw [h] at hE; exact absurd rfl hE
    rw [show seW v = -1 from if_neg hE, eN, show seX v = v from if_neg hE]
    have HE := Lib.hid trivial
    clear hE eN
    go_enter Tryz.func25, Tryz.ntmps25
    go_wp2_with fail
    have ka : Kept (fun _ => False) w (w.alloc (.cells #[.int .i64 0, .int .i64 0, .int .i64 0, .int .i64 0] 52)) := Kept.alloc _ _
    have ba := Blk.new w 52 #[.int .i64 0, .int .i64 0, .int .i64 0, .int .i64 0]
    obtain ⟨x, hx⟩ : ∃ x, x = w.heap.size := ⟨_, rfl⟩
    rw [← hx] at ba ⊢
    generalize w.alloc (.cells #[.int .i64 0, .int .i64 0, .int .i64 0, .int .i64 0] 52) = wa at ka ba ⊢
    have HX := Lib.hid hx
    clear hx
    refine (unpack_ref v wa).mono ?_
    rintro e w1 ⟨rfl, k1⟩
    have hk1 := ka.trans k1
    have b1 := ba.kept k1 id
    try rw [HE.out]
    have b2 := b1.alloc (.cells #[.int .i64 (-1), .int .i64 (0), .int .i64 (v)] 30)
    have c0 := b2.cell 0
    have c1 := b2.cell 1
    have c2 := b2.cell 2
    have c3 := b2.cell 3
    have z0 := b2.frozen 0
    have z1 := b2.frozen 1
    have z2 := b2.frozen 2
    have z3 := b2.frozen 3
    simp only [List.getElem?_toArray, List.getElem?_cons_zero, List.getElem?_cons_succ] at c0 c1 c2 c3
    have HA := Lib.hid (And.intro hk1 b1)
    clear ka ba k1 hk1 b1 b2
    go_wp2
    have b2 := HA.out.2.alloc (.cells #[.int .i64 (-1), .int .i64 (0), .int .i64 (v)] 30)
    have b3 := (((b2.set_ 0 (.int .i64 q)).set_ 1 (.int .i64 (-1))).set_ 2 (.int .i64 (0))).set_ 3 (.int .i64 (v))
    have e0 := b3.cell 0
    have e1 := b3.cell 1
    have e2 := b3.cell 2
    have e3 := b3.cell 3
    have kz : Kept (fun y => y = x) _ _ := (((Kept.setCell (S := fun y => y = x) (w1.alloc (.cells #[.int .i64 (-1), .int .i64 (0), .int .i64 (v)] 30)) (p := ⟨x, 0, none⟩) rfl (.int .i64 q)).trans (Kept.setCell (S := fun y => y = x) _ (p := ⟨x, 1, none⟩) rfl (.int .i64 (-1)))).trans (Kept.setCell (S := fun y => y = x) _ (p := ⟨x, 2, none⟩) rfl (.int .i64 (0)))).trans (Kept.setCell (S := fun y => y = x) _ (p := ⟨x, 3, none⟩) rfl (.int .i64 (v)))
    have kall : Kept (fun _ => False) w _ := (HA.out.1.trans (Kept.alloc (S := fun _ => False) w1 (.cells #[.int .i64 (-1), .int .i64 (0), .int .i64 (v)] 30))).later kz (fun b hb => by have := HX.out; omega)
    refine bodyPost_ret (v := .agg #[.int .i64 q, .int .i64 (-1), .int .i64 (0), .int .i64 (v)]) ?_ rfl ⟨rfl, kall⟩
    simp only [List.setIfInBounds_toArray, List.set_cons_zero, List.set_cons_succ, List.getElem?_toArray, List.getElem?_cons_zero, List.getElem?_cons_succ] at e0 e1 e2 e3
    simp [results, Tryz.f25, go_sem, e0, e1, e2, e3]
end Go.Proofs.YtbmjmamodnapiaaGreatDoor
