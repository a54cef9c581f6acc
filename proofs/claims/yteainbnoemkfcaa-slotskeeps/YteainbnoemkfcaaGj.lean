/- DERIVED. What a Play leaves, as a trace that reads. -/
import Derived.Test.YteainbnoemkfcaaGh
import Derived.Test.YteainbnoemkfcaaGe
import Derived.Test.YteainbnoemkfcaaGi
import Derived.Test.YteainbnoemkfcaaGd
import Derived.OpenShut
import Derived.JoinedCond
import Derived.Carry
import Derived.Deep.Slices
import Derived.Test.YteainbnoemkfcaaGg
set_option linter.unusedVariables false
namespace Go.Proofs.Yteainbnoemkfcaa
open Go.RowKit Go.Turn Go.Tame Go.Conc
def fixOps : Nat → List OpI
  | 0 => [⟨2, 0, 0, 0⟩]
  | 1 => [⟨1, 2, 9, 0⟩]
  | _ => []
def fixRun : Run RSt2 := playRun (brQ (fun _ => doR0 2) fixOps) 2 99 [0, 1, 1, 0, 0, 1] (begS 2 [7] 1, fun _ => [])
theorem fix_ans0 : fixRun.m.s.2 0 = [⟨false, 10, []⟩] := by kernel_rfl
theorem fix_state : fixRun.m.s.1.1 0 = 2 ∧ fixRun.m.s.1.1 1 = -2 ∧ fixRun.m.s.1.2 0 = 9 ∧ fixRun.m.s.1.2 1 = 0 := by decide
end Go.Proofs.Yteainbnoemkfcaa
namespace Go.Proofs.Yteainbnoemkfcaa
open Go.RowKit
theorem same_from_eq {xs ys : List Int} (hl : xs.length = ys.length) (h : ∀ i, i < xs.length → xs.getD i 0 = ys.getD i 0) : xs = ys := by
  apply List.ext_getElem hl
  intro i h1 h2
  have := h i h1
  simpa [List.getD_eq_getElem?_getD, h1, h2] using this
theorem same_numbers (a b : Value) (xs ys : List Int) (w : World) (ha : IntsAt w a xs) (hb : IntsAt w b ys) (hx : xs.length ≤ maxLen) : Calls Try.prog 20 #[a, b] w fun e w' => e = .returned (.bool (decide (xs = ys))) ∧ ∃ k, w.drewN k = w' := by
  obtain ⟨A, c, rfl, hA⟩ := ha
  obtain ⟨B, d, rfl, hB⟩ := hb
  unfold maxLen at hx
  by_cases hl : xs.length = ys.length
  · have HL := Lib.hid hl
    have hne : ((xs.length : Int) != (ys.length : Int)) = false := by simp [hl]
    have HA := Lib.hid hA
    have HB := Lib.hid hB
    clear hl hA hB
    go_enter Try.func20, Try.ntmps20
    go_wp2
    go_loopw [5] (fun i wr => ∃ j : Nat, j ≤ xs.length ∧ i = .int .i64 j ∧ (∀ i, i < j → xs.getD i 0 = ys.getD i 0) ∧ ∃ k, w.drewN k = wr) (fun i _ => xs.length - (intOf i).toNat)
    case atStart => exact ⟨0, Nat.zero_le _, rfl, fun i hi => absurd hi (by omega), 0, rfl⟩
    case round =>
      obtain ⟨j, hj, rfl, hs, k, rfl⟩ := hrel
      have HS := Lib.hid hs
      clear hs
      by_cases hlt : j < xs.length
      · obtain ⟨b1, o1, rfl, _, e1⟩ := HA.out j hlt
        obtain ⟨b2, o2, rfl, _, e2⟩ := HB.out j (by rw [← HL.out]; exact hlt)
        have hlt' : j < ys.length := by rw [← HL.out]; exact hlt
        obtain ⟨x, hx'⟩ : ∃ x, x = xs.getD j 0 := ⟨_, rfl⟩
        obtain ⟨y, hy'⟩ : ∃ y, y = ys.getD j 0 := ⟨_, rfl⟩
        rw [← hx'] at e1
        rw [← hy'] at e2
        have HX := Lib.hid hx'
        have HY := Lib.hid hy'
        have b0 : (0 : Int) ≤ j := by omega
        have b1' : (j : Int) < xs.length := by omega
        have b2' : (j : Int) < ys.length := by omega
        clear hx' hy'
        go_wp2_with fail
        by_cases hxy : x = y
        · subst hxy
          go_quiet (fail)
          go_wp2
          go_roundw
          case rel => 
            refine ⟨j + 1, by omega, by go_num, fun i hi => ?_, _, rfl⟩
            by_cases h : i = j
            · subst h; rw [← HX.out, ← HY.out]
            · exact HS.out i (by omega)
          case measure => simp [intOf]; omega
        · have hne' : (x != y) = true := by rw [bne_iff_ne]; exact hxy
          go_quiet (fail)
          go_wp2
          go_ret
          refine ⟨?_, _, (World.drewN_drewN ..).symm⟩
          have : ¬ xs = ys := fun e => hxy (by rw [HX.out, HY.out, e])
          simp [this]
      · go_wp2
        go_ret
        refine ⟨?_, _, rfl⟩
        have : xs = ys := same_from_eq HL.out (fun i hi => HS.out i (by omega))
        simp [this]
  · have hne : ((xs.length : Int) != (ys.length : Int)) = true := by rw [bne_iff_ne]; omega
    go_enter Try.func20, Try.ntmps20
    go_wp2
    go_ret
    exact ⟨by simp; intro e; exact hl (by rw [e]), 0, rfl⟩
theorem ints_new (w : World) (xs : List Int) (n : Nat) (h : xs.length = n) (t : TypeId) : IntsAt (w.alloc (.cells (xs.map (Value.int .i64)).toArray t)) (.slice (some ⟨w.heap.size, 0, none⟩) n n) xs := by
  subst h
  refine ⟨_, _, rfl, fun i hi => ⟨_, _, rfl, by simp, ?_⟩⟩
  have b := (Blk.new w t (xs.map (Value.int .i64)).toArray).cell (0 + i)
  rw [b, Nat.zero_add]
  simp [List.getD_eq_getElem?_getD, List.getElem?_eq_getElem hi]
end Go.Proofs.Yteainbnoemkfcaa
namespace Go.Proofs.Yteainbnoemkfcaa
open Go.RowKit Go.Turn Go.Tame Go.Conc
structure Kpt (W0 w w' : World) : Prop where
  size : w.heap.size ≤ w'.heap.size
  near : ∀ (b : Nat) (c : Array Value) (t : TypeId) (r : Nat × Nat), (b < W0.heap.size ∨ r.2 < big) → w.heap[b]? = some (.cells c t r) → w'.heap[b]? = some (.cells c t r)
  io : w'.os = w.os ∧ w'.output = w.output
theorem Kpt.refl (W0 w : World) : Kpt W0 w w := ⟨Nat.le_refl _, fun _ _ _ _ _ h => h, rfl, rfl⟩
theorem Kpt.trans {W0 a b c : World} (h : Kpt W0 a b) (k : Kpt W0 b c) : Kpt W0 a c :=
  ⟨Nat.le_trans h.size k.size, fun i cs t r hc hb => k.near i cs t r hc (h.near i cs t r hc hb), k.io.1.trans h.io.1, k.io.2.trans h.io.2⟩
theorem Kpt.old {W0 a b : World} (h : Old a.heap.size a b) : Kpt W0 a b := ⟨h.size, fun i c t r _ hb => (h.block i (lt_of_some hb)).trans hb, h.io⟩
theorem Kpt.re {W0 a y : World} {τ : Nat → Question → Nat} {n : Nat} (h : Kpt W0 a (y.re τ n)) : Kpt W0 a y := ⟨h.size, h.near, h.io⟩
theorem Kpt.er {W0 y b : World} {τ : Nat → Question → Nat} {n : Nat} (h : Kpt W0 (y.re τ n) b) : Kpt W0 y b := ⟨h.size, h.near, h.io⟩
theorem Kpt.then {W0 a b c : World} (h : Kpt W0 a b) (k : Old a.heap.size b c) : Kpt W0 a c :=
  ⟨Nat.le_trans h.size k.size, fun i cs t r hc hb => (k.block i (lt_of_some hb)).trans (h.near i cs t r hc hb), k.io.1.trans h.io.1, k.io.2.trans h.io.2⟩
theorem Old.kept {S : Nat → Prop} {B : Nat} {w w' : World} (h : Kept S w w') (hS : ∀ b, S b → B ≤ b) (hB : B ≤ w.heap.size) : Old B w w' :=
  ⟨h.size, fun b hb => h.block b (by omega) (fun z => by have := hS b z; omega), h.os, h.output⟩
theorem PlayDone.kpt {W0 : World} {rn : Nat} {R : Run RSt2} {n : Nat} {w0 : World} {v : Value} {w' : World} (h : PlayDone W0 rn R n w0 v w') : Kpt W0 w0 w' := ⟨h.size, h.near, h.io⟩
theorem five_boxes (y : World) (o0 o1 o2 o3 o4 : Obj) {w : World} (hw : w = ((((y.alloc o0).alloc o1).alloc o2).alloc o3).alloc o4) :
    w.heap[y.heap.size]? = some o0 ∧ w.heap[y.heap.size + 1]? = some o1 ∧ w.heap[y.heap.size + 1 + 1]? = some o2 ∧ w.heap[y.heap.size + 1 + 1 + 1]? = some o3 ∧ w.heap[y.heap.size + 1 + 1 + 1 + 1]? = some o4 ∧ w.heap.size = y.heap.size + 5 ∧ Old y.heap.size y w := by
  subst hw
  have s1 : (y.alloc o0).heap.size = y.heap.size + 1 := by simp
  have s2 : ((y.alloc o0).alloc o1).heap.size = y.heap.size + 1 + 1 := by simp
  have s3 : (((y.alloc o0).alloc o1).alloc o2).heap.size = y.heap.size + 1 + 1 + 1 := by simp
  have s4 : ((((y.alloc o0).alloc o1).alloc o2).alloc o3).heap.size = y.heap.size + 1 + 1 + 1 + 1 := by simp
  have n0 := heap_alloc_new y o0
  have n1 := heap_alloc_new (y.alloc o0) o1
  have n2 := heap_alloc_new ((y.alloc o0).alloc o1) o2
  have n3 := heap_alloc_new (((y.alloc o0).alloc o1).alloc o2) o3
  have n4 := heap_alloc_new ((((y.alloc o0).alloc o1).alloc o2).alloc o3) o4
  rw [s1] at n1
  rw [s2] at n2
  rw [s3] at n3
  rw [s4] at n4
  have up : ∀ (w : World) (o : Obj) (b : Nat) (u : Obj), w.heap[b]? = some u → (w.alloc o).heap[b]? = some u := fun w o b u h => (Below.heap_alloc w o b (lt_of_some h)).trans h
  refine ⟨up _ _ _ _ (up _ _ _ _ (up _ _ _ _ (up _ _ _ _ n0))), up _ _ _ _ (up _ _ _ _ (up _ _ _ _ n1)), up _ _ _ _ (up _ _ _ _ n2), up _ _ _ _ n3, n4, by simp, ?_⟩
  exact ((((((Old.refl _ y).new (Nat.le_refl _) o0).new (by omega) o1).new (by omega) o2).new (by omega) o3).new (by omega) o4)
theorem AnsAll.one {w : World} {ab n : Nat} {ans : Nat → List Ans} {H : Nat → Prop} (h : AnsAll w ab n ans H) {i : Nat} (hi : i < n) {a : Ans} (ha : ans i = [a]) : ∃ g c, w.cell? ⟨ab, i, none⟩ = some (.slice (some ⟨g, 0, none⟩) 1 c) ∧ 1 ≤ c ∧ w.cell? ⟨g, 0, none⟩ = some (.bool a.ok) ∧ w.cell? ⟨g, 1, none⟩ = some (.int .i64 a.n) := by
  obtain ⟨rw_, c, h1, h2, h3, h4, _⟩ := h.rows
  obtain ⟨xs, k1, k2, k3⟩ := h4 i hi
  rw [ha] at k1 k2
  obtain ⟨lv, xs', rfl, _, _, e⟩ := k2
  have e : xs' = [] := e
  subst e
  have c0 : w.cell? ⟨ab, i, none⟩ = some (rw_ i) := (cell_of_row w ab i c _ (0, 0) h1).trans (h3 i hi)
  rcases k1.2 with ⟨_, e⟩ | ⟨g, cp, cur, e, _, hh, hle, _, hsz, htake⟩
  · simp at e
  · have e : rw_ i = .slice (some ⟨g, 0, none⟩) 1 cp := e
    have hb : Blk w g 46 cur := hh
    have hcell : ∀ j u, [Value.bool a.ok, .int .i64 a.n, lv][j]? = some u → w.cell? ⟨g, j, none⟩ = some u := fun j u hj => by
      rw [hb.cell j]
      have h1 : (cur.toList.take (1 * 3))[j]? = some u := by
        have : (cur.toList.take (1 * 3)) = [Value.bool a.ok, .int .i64 a.n, lv] := htake
        rw [this]; exact hj
      rw [List.getElem?_take] at h1
      split at h1
      · simpa using h1
      · cases h1
    exact ⟨g, cp, by rw [c0, e], hle, hcell 0 _ rfl, hcell 1 _ rfl⟩
set_option maxHeartbeats 2000000 in
set_option maxRecDepth 100000 in
theorem fixed_true (hP : Prog Try.prog) (Post : Value → World → Prop) (W0 w0 : World) (hle : W0.heap.size ≤ w0.heap.size) : Ccalls (lgA hP Post W0) 8 #[] () w0 fun v _ w' => v = .bool true ∧ Kpt W0 w0 w' := by
  intro c mid hR
  have HR := Lib.hid hR
  clear hR
  have hs : ¬ (lgA hP Post W0).strict := fun h => h
  rw [show Frame.enter Try.prog 8 #[] .normal = Frame.at { (default : Frame) with fn := 8, kind := .normal } ⟨#[] ++ Array.replicate (Try.f8.ntmps - 0) undef, []⟩ [.code (Try.f8.body.getD .skip)] from by simp [Frame.enter, Frame.at, Try.func8]; rfl]
  simp only [Try.f8, Option.getD_some, Nat.reduceSub, Array.replicate_succ, Array.replicate_zero, List.push_toArray, List.append_toArray, List.nil_append, List.cons_append]
  refine Lg.move _ (fun _ _ => step_seq) (fun h => h) ?_
  refine Lg.code fun K hK y τ n' hy => ?_
  have hst : Kpt W0 w0 y := by rw [hy]; exact (Kpt.refl _ (y.re τ n')).re
  have hsz : y.heap.size = w0.heap.size := by rw [hy]; rfl
  have HSZ := Lib.hid hsz
  clear hy hsz
  go_wp2
  refine hK _ _ (fun h => absurd h hs) ?_
  clear hK K
  refine Lg.move _ (fun _ _ => step_seq) (fun h => h) ?_
  refine Lg.move _ (fun _ _ => step_region) (fun h => h) ?_
  refine Lg.pre 0 7 3 (by simp) fun K hK z τ n' hz => ?_
  subst hz
  have hst := hst.re
  have hsz2 : z.heap.size = w0.heap.size := HSZ.out
  clear HSZ
  have HSZ := Lib.hid hsz2
  clear hsz2
  have HST := Lib.hid hst
  clear hst
  simp only [List.drop_zero, List.take_succ_cons, List.take_zero]
  go_wp2
  refine hK _ _ (fun h => absurd h hs) ?_
  clear hK K
  generalize hw : World.alloc _ _ = w1
  obtain ⟨f0, f1, f2, f3, f4, f5, f6⟩ := five_boxes z _ _ _ _ _ hw.symm
  clear hw
  generalize z.heap.size = B at f0 f1 f2 f3 f4 f5 HSZ ⊢
  have hk1 : Kpt W0 w0 w1 := HST.out.trans (Kpt.old f6)
  obtain ⟨b1, hb1⟩ : ∃ b1, b1 = B + 1 := ⟨_, rfl⟩
  obtain ⟨b2, hb2⟩ : ∃ b2, b2 = B + 1 + 1 := ⟨_, rfl⟩
  obtain ⟨b3, hb3⟩ : ∃ b3, b3 = B + 1 + 1 + 1 := ⟨_, rfl⟩
  obtain ⟨b4, hb4⟩ : ∃ b4, b4 = B + 1 + 1 + 1 + 1 := ⟨_, rfl⟩
  rw [← hb4] at f4 ⊢
  rw [← hb3] at f3 ⊢
  rw [← hb2] at f2 f3 ⊢
  rw [← hb1] at f1 f3 ⊢
  have hstart : NumsIn w1 (some ⟨B, 0, none⟩) 2 (((2 : Nat) : Int) :: [7]) := ⟨by decide, by unfold maxLen; decide, fun i hi => ⟨B, 0, rfl, by
    rw [cell_of_row w1 B (0 + i) _ _ _ f0]
    match i, hi with
    | 0, _ => rfl
    | 1, _ => rfl⟩⟩
  have hrows : RowsAt w1 b3 0 2 (fun i => if i = 0 then some ⟨b1, 0, none⟩ else some ⟨b2, 0, none⟩) (fun _ => 1) (fun _ => 1) := ⟨fun i hi => by
    rw [cell_of_row w1 b3 (0 + i) _ _ _ f3]
    match i, hi with
    | 0, _ => rfl
    | 1, _ => rfl, fun _ _ => Nat.le_refl _, fun _ _ => by unfold maxLen; decide, fun i hi h => by split at h <;> cases h⟩
  have hin : OpsCells W0 PG w1 2 (fun i => if i = 0 then some ⟨b1, 0, none⟩ else some ⟨b2, 0, none⟩) (fun _ => 1) fixOps := ⟨fun i hi => by
      match i, hi with
      | 0, _ => rfl
      | 1, _ => rfl, fun i hi o ho => by
      match i, hi with
      | 0, _ => simp only [fixOps, List.mem_singleton] at ho; subst ho; exact ⟨.inr rfl, by decide, by decide⟩
      | 1, _ => simp only [fixOps, List.mem_singleton] at ho; subst ho; exact ⟨.inl rfl, by decide, by decide⟩, fun i hi j hj => by
      match i, hi with
      | 0, _ =>
        have hj0 : j = 0 := by have : j < 1 := hj; omega
        subst hj0
        exact ⟨b1, 0, _, _, _, rfl, f1, .inl (by decide), fun m hm => by
          match m, hm with
          | 0, _ => rfl
          | 1, _ => rfl
          | 2, _ => rfl
          | 3, _ => rfl⟩
      | 1, _ =>
        have hj0 : j = 0 := by have : j < 1 := hj; omega
        subst hj0
        exact ⟨b2, 0, _, _, _, rfl, f2, .inl (by decide), fun m hm => by
          match m, hm with
          | 0, _ => rfl
          | 1, _ => rfl
          | 2, _ => rfl
          | 3, _ => rfl⟩⟩
  have hsch : SchI W0 (.slice (some ⟨b4, 0, none⟩) 6 6) [0, 1, 1, 0, 0, 1] (fun b => ∃ i o, i < 2 ∧ (if i = 0 then some (⟨b1, 0, none⟩ : Addr) else some ⟨b2, 0, none⟩) = some ⟨b, o, none⟩) w1 := ⟨⟨_, _, rfl, fun i hi => ⟨b4, 0, _, _, _, rfl, f4, .inr ⟨by decide, fun ⟨i, o, h1, h2⟩ => by
      split at h2 <;> (cases h2; omega)⟩, by
      match i, hi with
      | 0, _ => rfl
      | 1, _ => rfl
      | 2, _ => rfl
      | 3, _ => rfl
      | 4, _ => rfl
      | 5, _ => rfl⟩⟩, by unfold maxLen; decide⟩
  have hpl := play_calls hP Post W0 2 (by decide) (by decide) (by decide) [7] (by decide) (some ⟨B, 0, none⟩) 2 PG (fun _ => doR0 2) b3 0 2 2 (by unfold maxLen; decide) (fun i => if i = 0 then some ⟨b1, 0, none⟩ else some ⟨b2, 0, none⟩) (fun _ => 1) (fun _ => 1) fixOps (.slice (some ⟨b4, 0, none⟩) 6 6) [0, 1, 1, 0, 0, 1] 99 w1 (by have := hk1.size; omega) hstart hrows hin hsch (fun rb sb B i => ring_do B rb sb 2 (by decide) (by decide) i) (fun rb sb B i => doR_ok B rb sb 2 i)
  refine Lg.call (i := 7) (rest := [8, 9]) (f := 10) (args := #[.slice (some ⟨B, 0, none⟩) 2 2, .slice (some ⟨b3, 0, none⟩) 2 2, .slice (some ⟨b4, 0, none⟩) 6 6, .int .i64 99]) rfl rfl (fun y => by go_simp) hpl ?_
  rintro vv t'' w2 hdone
  rw [show (heldI 99 1048576).toNat = 99 from by decide] at hdone
  have hd : PlayDone W0 2 fixRun 2 w1 vv w2 := hdone
  clear hdone hpl hsch hin hrows hstart f0 f1 f2 f3 f4 f5 f6
  have hk2 := hk1.trans hd.kpt
  obtain ⟨ab, ov, tv, H, hab, hvv, hov, htv, hans, hnear, htv2⟩ := hd.ex
  obtain ⟨g0, c0, a0, a1, a2, a3⟩ := hans.one (i := 0) (by decide) fix_ans0
  have hnum := IntsAt.of_own htv
  have e4 : rowN fixRun.m.s.1.1 2 ++ rowN fixRun.m.s.1.2 2 = [2, -2, 9, 0] := by
    obtain ⟨x1, x2, x3, x4⟩ := fix_state
    show [fixRun.m.s.1.1 0, fixRun.m.s.1.1 1, fixRun.m.s.1.2 0, fixRun.m.s.1.2 1] = _
    rw [x1, x2, x3, x4]
  rw [e4] at hnum
  obtain ⟨oA, oc, rfl⟩ := own_slice hov
  obtain ⟨tA, tc, rfl⟩ := own_slice htv
  obtain ⟨stk, hstk⟩ : ∃ stk : Bool, stk = decide (0 < fixRun.m.left 2) := ⟨_, rfl⟩
  rw [← hstk] at hvv
  generalize fixRun.order.length = oL at hvv
  subst hvv
  have HX := Lib.hid (And.intro hk2 (And.intro a0 (And.intro a1 (And.intro a2 (And.intro a3 hnum)))))
  clear hd hk1 hk2 hans hnear htv htv2 hov a0 a1 a2 a3 hnum e4 hstk hab hb1 hb2 hb3 hb4 HST HSZ
  rw [Frame.finish_at]
  walk_nrm
  refine (show (lgA hP Post W0).T _ (Frame.at _ ⟨_, []⟩ (.inRegion _ (List.range' 8 (2 + 0)) :: _)) (c :: mid) w2 from ?_)
  refine Lg.pre 8 2 0 (by simp) fun K hK q τ n' hq => ?_
  subst hq
  have HX := HX
  simp only [List.drop_succ_cons, List.drop_zero, List.take_succ_cons, List.take_zero]
  go_wp2
  refine hK _ _ (fun h => absurd h hs) ?_
  clear hK K
  refine Lg.move _ (fun _ _ => step_region_end) (fun h => h) ?_
  refine Lg.rest (R := fun v w' => v = .bool true ∧ Kpt W0 w0 w') (fun h => h) rfl Try.func8 (fun y τ2 n2 hy => ?_) (fun v w' h => HR.out v _ w' h)
  obtain ⟨hk2, a0, a1, a2, a3, hnum⟩ := HX.out
  have hk2 := hk2.re
  have a0 : q.cell? ⟨ab, 0, none⟩ = _ := a0
  have a2 : q.cell? ⟨g0, 0, none⟩ = _ := a2
  have a3 : q.cell? ⟨g0, 1, none⟩ = _ := a3
  have hnum : IntsAt q (.slice tA 4 tc) [2, -2, 9, 0] := hnum
  have hb5 := Blk.new q 31 #[.slice (some ⟨ab, 0, none⟩) 2 2, .slice oA oL oc, .slice tA 4 tc, .bool stk]
  have up : ∀ b o v, q.cell? ⟨b, o, none⟩ = some v → (q.alloc (.cells #[.slice (some ⟨ab, 0, none⟩) 2 2, .slice oA oL oc, .slice tA 4 tc, .bool stk] 31)).cell? ⟨b, o, none⟩ = some v := fun b o v h => (World.cell?_of_block (w := q) (a := ⟨b, o, none⟩) (Below.heap_alloc _ _ _ (lt_of_cell h))).trans h
  have a0 := up _ _ _ a0
  have a2 := up _ _ _ a2
  have a3 := up _ _ _ a3
  have hnum := hnum.kept (Kept.alloc (S := fun _ => False) q (.cells #[.slice (some ⟨ab, 0, none⟩) 2 2, .slice oA oL oc, .slice tA 4 tc, .bool stk] 31)) (fun _ _ _ _ h => h)
  have hk5 := hk2.trans (Kpt.old ((Old.refl q.heap.size q).new (Nat.le_refl _) (.cells #[.slice (some ⟨ab, 0, none⟩) 2 2, .slice oA oL oc, .slice tA 4 tc, .bool stk] 31)))
  generalize q.heap.size = b5 at hb5 ⊢
  generalize q.alloc (.cells #[.slice (some ⟨ab, 0, none⟩) 2 2, .slice oA oL oc, .slice tA 4 tc, .bool stk] 31) = w5 at hb5 a0 a2 a3 hnum hk5 hy
  subst hy
  have a0 : y.cell? ⟨ab, 0, none⟩ = _ := a0
  have a2 : y.cell? ⟨g0, 0, none⟩ = _ := a2
  have a3 : y.cell? ⟨g0, 1, none⟩ = _ := a3
  have hb5 : Blk y b5 _ _ := hb5
  have t0 := hb5.cell 0
  have t2 := hb5.cell 2
  simp at t0 t2 a2 a3
  have HN := Lib.hid hnum
  have HK := Lib.hid hk5.re
  clear hk2 hk5 hnum hb5 up HX
  go_wp2_with fail
  have i1 := (show IntsAt y _ _ from HN.out).kept (Kept.alloc (S := fun _ => False) y (.cells #[.int .i64 2, .int .i64 (-2), .int .i64 9, .int .i64 0] 2)) (fun _ _ _ _ h => h)
  have i2 := ints_new y [2, -2, 9, 0] 4 rfl 2
  refine (same_numbers _ _ [2, -2, 9, 0] [2, -2, 9, 0] _ i1 i2 (by unfold maxLen; decide)).mono ?_
  rintro e w' ⟨rfl, k, rfl⟩
  clear i1 i2
  have hk6 := HK.out.trans (Kpt.old ((Old.refl y.heap.size y).new (Nat.le_refl _) (.cells #[.int .i64 2, .int .i64 (-2), .int .i64 9, .int .i64 0] 2)))
  have hk6 : Kpt W0 w0 ((y.alloc (.cells #[.int .i64 2, .int .i64 (-2), .int .i64 9, .int .i64 0] 2)).drewN k) := ⟨hk6.size, hk6.near, hk6.io⟩
  clear a0 a2 a3 t0 t2 HN HK
  generalize ((y.alloc (.cells #[.int .i64 2, .int .i64 (-2), .int .i64 9, .int .i64 0] 2)).drewN k) = w6 at hk6 ⊢
  have HK := Lib.hid hk6
  clear hk6
  go_wp2_with fail
  refine (new_ok 2 w6 (by decide) (by decide) (by decide)).mono ?_
  rintro e w7 ⟨rfl, R0, B0, Z0⟩
  have hk7 := HK.out.trans (Kpt.old (Old.of B0))
  have hsb : w0.heap.size ≤ w6.heap.size := HK.out.size
  clear HK
  generalize w6.heap.size + 1 = rb at R0 ⊢
  generalize w6.heap.size = sb at R0 hsb
  have HSB := Lib.hid hsb
  clear hsb
  clear B0 Z0
  have HK := Lib.hid hk7
  have HR0 := Lib.hid R0
  clear hk7 R0
  go_wp2_with fail
  refine (put_n rb sb 2 _ _ 0 7 w7 HR0.out (by decide) (by decide)).mono ?_
  rintro e w8 ⟨rfl, R1, K1, Z1, -⟩
  have K1 := Lib.hid K1
  have HR1 := Lib.hid R1
  clear R1 HR0 Z1
  go_wp2_with fail
  refine (put_n rb sb 2 _ _ 1 8 w8 HR1.out (by decide) (by decide)).mono ?_
  rintro e w9 ⟨rfl, R2, K2, Z2, -⟩
  have K2 := Lib.hid K2
  have HR2 := Lib.hid R2
  clear R2 HR1 Z2
  go_wp2_with fail
  refine (put_n rb sb 2 _ _ 2 9 w9 HR2.out (by decide) (by decide)).mono ?_
  rintro e w10 ⟨rfl, R3, K3, Z3, -⟩
  have K3 := Lib.hid K3
  have HR3 := Lib.hid R3
  clear R3 HR2 Z3
  go_wp2_with fail
  refine (get_ok Stepper.none slots_step_none 0 rb sb 2 _ _ 2 w10 HR3.out (by decide) (by decide) (by decide) trivial id id).mono ?_
  rintro e w11 ⟨rfl, K4, Z4, -⟩
  rw [show (upd (upd (upd (fun _ => 0) ((0 : Int) % (2 : Nat)).toNat 7) ((1 : Int) % (2 : Nat)).toNat 8) ((2 : Int) % (2 : Nat)).toNat 9) ((2 : Int) % (2 : Nat)).toNat = 9 from by decide]
  have HR4 := Lib.hid (HR3.out.kept K4 id id)
  have K4 := Lib.hid K4
  clear HR3 Z4
  go_wp2_with fail
  refine (get_lost Stepper.none slots_step_none 0 rb sb 2 _ _ 0 w11 HR4.out (by decide) (by decide) (by decide) trivial id id).mono ?_
  rintro e w12 ⟨rfl, K5, Z5, -⟩
  have HR5 := Lib.hid (HR4.out.kept K5 id id)
  have K5 := Lib.hid K5
  clear HR4 Z5
  go_wp2_with fail
  refine (highest_x Stepper.none slots_step_none 0 rb sb 2 _ _ 1 5 w12 HR5.out (by decide) (by decide) (by decide) (by decide) trivial id id).mono ?_
  rintro e w13 ⟨rfl, K6, Z6, -⟩
  rw [show (highR (upd (upd (upd (fun _ => -2) ((0 : Int) % (2 : Nat)).toNat (2 * ((0 : Int) / (2 : Nat)))) ((1 : Int) % (2 : Nat)).toNat (2 * ((1 : Int) / (2 : Nat)))) ((2 : Int) % (2 : Nat)).toNat (2 * ((2 : Int) / (2 : Nat)))) 2 (highN 2 1 5) 1).1 = 2 from by decide]
  have HR6 := Lib.hid (HR5.out.kept K6 id id)
  have K6 := Lib.hid K6
  clear HR5 Z6
  go_wp2_with fail
  refine (there_x Stepper.none slots_step_none 0 rb sb 2 _ _ 1 w13 HR6.out (by decide) (by decide) trivial id id).mono ?_
  rintro e w14 ⟨rfl, K7, Z7, -⟩
  rw [show ((upd (upd (upd (fun _ => -2) ((0 : Int) % (2 : Nat)).toNat (2 * ((0 : Int) / (2 : Nat)))) ((1 : Int) % (2 : Nat)).toNat (2 * ((1 : Int) / (2 : Nat)))) ((2 : Int) % (2 : Nat)).toNat (2 * ((2 : Int) / (2 : Nat)))) ((1 : Int) % (2 : Nat)).toNat == 2 * ((1 : Int) / (2 : Nat))) = true from by decide]
  have HR7 := Lib.hid (HR6.out.kept K7 id id)
  have K7 := Lib.hid K7
  clear HR6 Z7
  go_wp2_with fail
  refine (there_x Stepper.none slots_step_none 0 rb sb 2 _ _ 0 w14 HR7.out (by decide) (by decide) trivial id id).mono ?_
  rintro e w15 ⟨rfl, K8, Z8, -⟩
  rw [show ((upd (upd (upd (fun _ => -2) ((0 : Int) % (2 : Nat)).toNat (2 * ((0 : Int) / (2 : Nat)))) ((1 : Int) % (2 : Nat)).toNat (2 * ((1 : Int) / (2 : Nat)))) ((2 : Int) % (2 : Nat)).toNat (2 * ((2 : Int) / (2 : Nat)))) ((0 : Int) % (2 : Nat)).toNat == 2 * ((0 : Int) / (2 : Nat))) = false from by decide]
  have K8 := Lib.hid K8
  clear HR7 Z8
  go_wp2
  go_ret
  refine ⟨_, rfl, rfl, HK.out.then ?_⟩
  have h7 := HK.out.size
  have P : ∀ {a b : World}, Kept (fun b => b = sb) a b → w0.heap.size ≤ a.heap.size → Old w0.heap.size a b := fun k h => Old.kept k (fun b e => by rw [e]; exact HSB.out) h
  have N : ∀ {a b : World}, Kept Stepper.none.own a b → w0.heap.size ≤ a.heap.size → Old w0.heap.size a b := fun k h => Old.kept k (fun b e => e.elim) h
  have o1 := P K1.out h7
  have o2 := o1.trans (P K2.out (by have := K1.out.size; omega))
  have o3 := o2.trans (P K3.out (by have := o2.size; omega))
  have o4 := o3.trans (N K4.out (by have := o3.size; omega))
  have o5 := o4.trans (N K5.out (by have := o4.size; omega))
  have o6 := o5.trans (N K6.out (by have := o5.size; omega))
  have o7 := o6.trans (N K7.out (by have := o6.size; omega))
  exact o7.trans (N K8.out (by have := o7.size; omega))
end Go.Proofs.Yteainbnoemkfcaa
namespace Go.Proofs.Yteainbnoemkfcaa
open Go.ChangeShapes Go.WideShapes Go.ChangeAt Go.RowKit Go.Deep
theorem spot_none {w : World} {p : Addr} {v : Value} (h : w.cell? p = some v) : p.spot = none ∧ p.block < w.heap.size := by
  unfold World.cell? at h
  cases ho : w.heap[p.block]? with
  | none => rw [ho] at h; cases h
  | some x =>
    have hlt : p.block < w.heap.size := (Array.getElem?_eq_some_iff.1 ho).1
    rw [ho] at h
    cases x with
    | cells c t r =>
      simp only at h
      split at h
      · cases h
      · rename_i hs
        exact ⟨by simpa using hs, hlt⟩
    | _ => cases h
theorem Try.opCells : Try.prog.cellsOf 49 = 4 := by kernel_rfl
theorem Try.intCells : Try.prog.cellsOf 3 = 1 := by kernel_rfl
theorem Try.longCells : Try.prog.cellsOf 2 = 1 := by kernel_rfl
section
variable {H : Type} {enc : TypeId × Value → H}
end
end Go.Proofs.Yteainbnoemkfcaa
namespace Go.Proofs.Yteainbnoemkfcaa
open Go.RowKit Go.Turn Go.Tame Go.Conc
theorem numbers_eq (a b : Value) (xs : List Int) (w : World) (ha : IntsAt w a xs) (hb : IntsAt w b xs) (hx : xs.length ≤ maxLen) : Calls Try.prog 20 #[a, b] w fun e w' => e = .returned (.bool true) ∧ ∃ k, w.drewN k = w' :=
  (same_numbers a b xs xs w ha hb hx).mono fun _ _ ⟨h1, h2⟩ => ⟨by rw [h1]; simp, h2⟩
theorem ints_eq (a b : Value) (xs : List Int) (w : World) (ha : IntsAt w a xs) (hb : IntsAt w b xs) (hx : xs.length ≤ maxLen) : Calls Try.prog 29 #[a, b] w fun e w' => e = .returned (.bool true) ∧ ∃ k, w.drewN k = w' := by
  obtain ⟨A, c, rfl, hA⟩ := ha
  obtain ⟨B, d, rfl, hB⟩ := hb
  unfold maxLen at hx
  have HA := Lib.hid hA
  have HB := Lib.hid hB
  clear hA hB
  go_enter Try.func29, Try.ntmps29
  go_wp2
  go_loopw [5] (fun i wr => ∃ j : Nat, j ≤ xs.length ∧ i = .int .i64 j ∧ ∃ k, w.drewN k = wr) (fun i _ => xs.length - (intOf i).toNat)
  case atStart => exact ⟨0, Nat.zero_le _, rfl, 0, rfl⟩
  case round =>
    obtain ⟨j, hj, rfl, k, rfl⟩ := hrel
    by_cases hlt : j < xs.length
    · obtain ⟨b1, o1, rfl, _, e1⟩ := HA.out j hlt
      obtain ⟨b2, o2, rfl, _, e2⟩ := HB.out j hlt
      generalize xs.getD j 0 = x at e1 e2
      have b0 : (0 : Int) ≤ j := by omega
      have b1' : (j : Int) < xs.length := by omega
      go_wp2_with fail
      go_quiet (fail)
      go_wp2
      go_roundw
      case rel => exact ⟨j + 1, by omega, by go_num, _, rfl⟩
      case measure => simp [intOf]; omega
    · go_wp2
      go_ret
      exact ⟨rfl, _, rfl⟩
theorem quietK {P : Program} {f : FuncId} {args : Array Value} {w : World} {k n : Nat} {v : Value}
    (h : Calls P f args (w.drewN (k + n)) fun e w' => e = .returned v ∧ ∃ m, (w.drewN (k + n)).drewN m = w') : Calls P f args (w.drewN (k + n)) fun e w'' => e = .returned v ∧ ∃ m, w'' = w.drewN (k + m) :=
  h.mono fun _ _ ⟨he, m, hm⟩ => ⟨he, n + m, by rw [← hm, World.drewN_drewN, Nat.add_assoc]⟩
def AnsAt (w : World) (v : Value) (l : List Ans) : Prop := ∃ A c, v = .slice A l.length c ∧ ∀ i (h : i < l.length), ∃ b o lv, A = some ⟨b, o, none⟩ ∧ w.cell? ⟨b, o + i * 3, none⟩ = some (.bool l[i].ok) ∧ w.cell? ⟨b, o + i * 3 + 1, none⟩ = some (.int .i64 l[i].n) ∧ w.cell? ⟨b, o + i * 3 + 2, none⟩ = some lv ∧ IntsAt w lv l[i].ls ∧ l[i].ls.length ≤ maxLen
theorem answers_eq (a b : Value) (l : List Ans) (w : World) (ha : AnsAt w a l) (hb : AnsAt w b l) (hx : l.length ≤ maxLen) : Calls Try.prog 16 #[a, b] w fun e w' => e = .returned (.bool true) ∧ ∃ k, w.drewN k = w' := by
  obtain ⟨A, c, rfl, hA⟩ := ha
  obtain ⟨B, d, rfl, hB⟩ := hb
  unfold maxLen at hx
  have HA := Lib.hid hA
  have HB := Lib.hid hB
  clear hA hB
  go_enter Try.func16, Try.ntmps16
  go_wp2
  go_loopw [5] (fun i wr => ∃ j : Nat, j ≤ l.length ∧ i = .int .i64 j ∧ ∃ k, w.drewN k = wr) (fun i _ => l.length - (intOf i).toNat)
  case atStart => exact ⟨0, Nat.zero_le _, rfl, 0, rfl⟩
  case round =>
    obtain ⟨j, hj, rfl, k, rfl⟩ := hrel
    by_cases hlt : j < l.length
    · obtain ⟨b1, o1, lv1, rfl, p1, p2, p3, p4, p5⟩ := HA.out j hlt
      obtain ⟨b2, o2, lv2, rfl, q1, q2, q3, q4, q5⟩ := HB.out j hlt
      generalize l[j] = x at *
      obtain ⟨ok, n, ls⟩ := x
      simp only at p1 p2 p3 p4 p5 q1 q2 q3 q4
      have HP := Lib.hid (And.intro p4 (And.intro q4 p5))
      have b0 : (0 : Int) ≤ j := by omega
      have b1' : (j : Int) < l.length := by omega
      have r1 : (ok != ok) = false := by simp
      have r2 : (n != n) = false := by simp
      clear p4 q4 p5 q5
      go_wp2_with fail
      go_quiet ((go_at_call 20; exact quietK (numbers_eq lv1 lv2 ls (w.drewN (k + _)) HP.out.1 HP.out.2.1 HP.out.2.2)))
      go_wp2
      go_roundw
      case rel => exact ⟨j + 1, by omega, by go_num, _, rfl⟩
      case measure => simp [intOf]; omega
    · go_wp2
      go_ret
      exact ⟨rfl, _, rfl⟩
theorem IntsAt.below {w w' : World} {v : Value} {xs : List Int} (h : IntsAt w v xs) (hk : Below w.heap.size w w') : IntsAt w' v xs := by
  obtain ⟨A, c, e, h1⟩ := h
  refine ⟨A, c, e, fun i hi => ?_⟩
  obtain ⟨b, o, h2, h3, h4⟩ := h1 i hi
  exact ⟨b, o, h2, Nat.lt_of_lt_of_le h3 hk.size, (World.cell?_of_block (w := w) (hk.block b h3)).trans h4⟩
theorem AnsAt.below {w w' : World} {v : Value} {l : List Ans} (h : AnsAt w v l) (hk : Below w.heap.size w w') : AnsAt w' v l := by
  obtain ⟨A, c, e, h1⟩ := h
  refine ⟨A, c, e, fun i hi => ?_⟩
  obtain ⟨b, o, lv, h2, h3, h4, h5, h6, h7⟩ := h1 i hi
  have hb : w'.heap[b]? = w.heap[b]? := hk.block b (lt_of_cell h3)
  exact ⟨b, o, lv, h2, (World.cell?_of_block (w := w) hb).trans h3, (World.cell?_of_block (w := w) hb).trans h4, (World.cell?_of_block (w := w) hb).trans h5, h6.below hk, h7⟩
structure TraceAt (w : World) (n : Nat) (ans : Nat → List Ans) (ord sta : List Int) (A : Option Addr) (c : Nat) (ov tv : Value) : Prop where
  ord : IntsAt w ov ord ∧ ord.length ≤ maxLen
  sta : IntsAt w tv sta ∧ sta.length ≤ maxLen
  row : ∀ i, i < n → ∃ b o row, A = some ⟨b, o, none⟩ ∧ w.cell? ⟨b, o + i, none⟩ = some row ∧ AnsAt w row (ans i) ∧ (ans i).length ≤ maxLen
theorem TraceAt.below {w w' : World} {n : Nat} {ans : Nat → List Ans} {ord sta : List Int} {A : Option Addr} {c : Nat} {ov tv : Value} (h : TraceAt w n ans ord sta A c ov tv) (hk : Below w.heap.size w w') : TraceAt w' n ans ord sta A c ov tv :=
  ⟨⟨h.ord.1.below hk, h.ord.2⟩, ⟨h.sta.1.below hk, h.sta.2⟩, fun i hi => by
    obtain ⟨b, o, row, h1, h2, h3, h4⟩ := h.row i hi
    exact ⟨b, o, row, h1, (World.cell?_of_block (w := w) (hk.block b (lt_of_cell h2))).trans h2, h3.below hk, h4⟩⟩
theorem trace_eq (w : World) (n : Nat) (ans : Nat → List Ans) (ord sta : List Int) (A1 A2 : Option Addr) (c1 c2 : Nat) (ov1 tv1 ov2 tv2 : Value) (st : Bool) (h1 : TraceAt w n ans ord sta A1 c1 ov1 tv1) (h2 : TraceAt w n ans ord sta A2 c2 ov2 tv2) (hn : n ≤ maxLen) :
    Calls Try.prog 9 #[.agg #[.slice A1 n c1, ov1, tv1, .bool st], .agg #[.slice A2 n c2, ov2, tv2, .bool st]] w fun e w' => e = .returned (.bool true) ∧ Below w.heap.size w w' := by
  obtain ⟨o1, d1, e1, -⟩ := id h1.ord.1
  obtain ⟨o2, d2, e2, -⟩ := id h2.ord.1
  obtain ⟨s1, f1, e3, -⟩ := id h1.sta.1
  obtain ⟨s2, f2, e4, -⟩ := id h2.sta.1
  subst e1 e2 e3 e4
  have hb : ∀ a b, Below w.heap.size w ((w.alloc (.cells a 31)).alloc (.cells b 31)) := fun a b => ((Below.refl _ _).alloc (Nat.le_refl _) _).alloc (by simp) _
  have HB := Lib.hid hb
  have H1 := Lib.hid h1
  have H2 := Lib.hid h2
  have hne : (st != st) = false := by simp
  unfold maxLen at hn
  clear h1 h2 hb
  go_enter Try.func9, Try.ntmps9
  go_wp2_with fail
  have k1 : Blk ((w.alloc (.cells #[.slice A1 n c1, .slice o1 ord.length d1, .slice s1 sta.length f1, .bool st] 31)).alloc (.cells #[.slice A2 n c2, .slice o2 ord.length d2, .slice s2 sta.length f2, .bool st] 31)) w.heap.size 31 _ := (Blk.new w 31 #[.slice A1 n c1, .slice o1 ord.length d1, .slice s1 sta.length f1, .bool st]).alloc _
  have k2 := Blk.new (w.alloc (.cells #[.slice A1 n c1, .slice o1 ord.length d1, .slice s1 sta.length f1, .bool st] 31)) 31 #[.slice A2 n c2, .slice o2 ord.length d2, .slice s2 sta.length f2, .bool st]
  rw [World.size_alloc] at k2
  have HB1 := HB.out #[.slice A1 n c1, .slice o1 ord.length d1, .slice s1 sta.length f1, .bool st] #[.slice A2 n c2, .slice o2 ord.length d2, .slice s2 sta.length f2, .bool st]
  generalize (w.alloc (.cells #[.slice A1 n c1, .slice o1 ord.length d1, .slice s1 sta.length f1, .bool st] 31)).alloc (.cells #[.slice A2 n c2, .slice o2 ord.length d2, .slice s2 sta.length f2, .bool st] 31) = z at *
  have T1 := Lib.hid (H1.out.below HB1)
  have T2 := Lib.hid (H2.out.below HB1)
  have HZ := Lib.hid HB1
  clear HB H1 H2 HB1
  have x0 : z.cell? ⟨w.heap.size, 0, none⟩ = some (.slice A1 n c1) := k1.cell 0
  have x2 : z.cell? ⟨w.heap.size, 2, none⟩ = some (.slice s1 sta.length f1) := k1.cell 2
  have x3 : z.cell? ⟨w.heap.size, 3, none⟩ = some (.bool st) := k1.cell 3
  have y0 : z.cell? ⟨w.heap.size + 1, 0, none⟩ = some (.slice A2 n c2) := k2.cell 0
  have y2 : z.cell? ⟨w.heap.size + 1, 2, none⟩ = some (.slice s2 sta.length f2) := k2.cell 2
  have y3 : z.cell? ⟨w.heap.size + 1, 3, none⟩ = some (.bool st) := k2.cell 3
  clear k1 k2
  refine (ints_eq _ _ ord z T1.out.ord.1 T2.out.ord.1 T1.out.ord.2).mono ?_
  rintro e w' ⟨rfl, m1, rfl⟩
  go_wp2_with fail
  refine (numbers_eq _ _ sta (z.drewN m1) T1.out.sta.1 T2.out.sta.1 T1.out.sta.2).mono ?_
  rintro e w' ⟨rfl, m2, rfl⟩
  go_wp2
  go_loopw [5] (fun i wr => ∃ j : Nat, j ≤ n ∧ i = .int .i64 j ∧ ∃ k, z.drewN k = wr) (fun i _ => n - (intOf i).toNat)
  case atStart => exact ⟨0, Nat.zero_le _, rfl, _, rfl⟩
  case round =>
    obtain ⟨j, hj, rfl, k, rfl⟩ := hrel
    by_cases hlt : j < n
    · obtain ⟨b1, a1, r1, rfl, p1, p2, p3⟩ := T1.out.row j hlt
      obtain ⟨b2, a2, r2, rfl, q1, q2, q3⟩ := T2.out.row j hlt
      generalize ans j = l at *
      have b0 : (0 : Int) ≤ j := by omega
      have b1' : (j : Int) < n := by omega
      have HP := Lib.hid (And.intro p2 (And.intro q2 p3))
      clear p2 q2 p3 q3
      go_wp2_with fail
      go_quiet ((go_at_call 16; exact quietK (answers_eq r1 r2 l (z.drewN (k + _)) HP.out.1 HP.out.2.1 HP.out.2.2)))
      go_wp2
      go_roundw
      case rel => exact ⟨j + 1, by omega, by go_num, _, rfl⟩
      case measure => simp [intOf]; omega
    · go_wp2
      go_ret
      have hz := HZ.out
      exact ⟨rfl, Below.drewN hz k⟩
end Go.Proofs.Yteainbnoemkfcaa
namespace Go.Proofs.Yteainbnoemkfcaa
open Go.RowKit Go.Turn Go.Tame Go.Conc
theorem own_max {w : World} {base : Nat} {e : TypeId} {size n : Nat} {v : Value} {xs : List Value} (h : w.ownsRow base e size v n xs) : n ≤ maxLen := by
  rcases h.2 with ⟨_, rfl⟩ | ⟨g, cap, cur, _, _, _, h1, h2, _⟩
  · exact Nat.zero_le _
  · omega
theorem AnsRow.at_ {w : World} {G : Nat → Prop} : ∀ {l : List Ans} {xs : List Value}, AnsRow w G l xs → ∀ i (h : i < l.length), ∃ lv, xs[i * 3]? = some (.bool l[i].ok) ∧ xs[i * 3 + 1]? = some (.int .i64 l[i].n) ∧ xs[i * 3 + 2]? = some lv ∧ LsAt w lv l[i].ls
  | [], _, _, i, h => absurd h (Nat.not_lt_zero i)
  | a :: l, xs, ⟨lv, xs', e, h1, _, h3⟩, 0, _ => ⟨lv, by rw [e]; rfl, by rw [e]; rfl, by rw [e]; rfl, h1⟩
  | a :: l, xs, ⟨lv, xs', e, h1, _, h3⟩, i + 1, h => by
    obtain ⟨lv', k1, k2, k3, k4⟩ := h3.at_ i (by simpa using h)
    subst e
    refine ⟨lv', ?_, ?_, ?_, by simpa using k4⟩
    · rw [show (i + 1) * 3 = i * 3 + 3 from by omega]; simpa using k1
    · rw [show (i + 1) * 3 + 1 = (i * 3 + 1) + 3 from by omega]; simpa using k2
    · rw [show (i + 1) * 3 + 2 = (i * 3 + 2) + 3 from by omega]; simpa using k3
theorem AnsAt.of_own {w : World} {G : Nat → Prop} {v : Value} {l : List Ans} {xs : List Value} (h : w.ownsRow 0 46 3 v l.length xs) (k : AnsRow w G l xs) : AnsAt w v l := by
  rcases id h.2 with ⟨rfl, h0⟩ | ⟨g, cap, cur, rfl, _⟩
  · exact ⟨none, 0, by rw [h0], fun i hi => by omega⟩
  · refine ⟨_, _, rfl, fun i hi => ?_⟩
    obtain ⟨lv, k1, k2, k3, k4⟩ := k.at_ i hi
    exact ⟨g, 0, lv, rfl, by rw [Nat.zero_add]; exact (h.cellAt _ (by omega)).trans k1, by rw [Nat.zero_add]; exact (h.cellAt _ (by omega)).trans k2, by rw [Nat.zero_add]; exact (h.cellAt _ (by omega)).trans k3, IntsAt.of_own k4, own_max k4⟩
theorem AnsAll.trace {w : World} {ab n : Nat} {ans : Nat → List Ans} {H : Nat → Prop} (h : AnsAll w ab n ans H) {b1 b2 : Nat} {e1 e2 : TypeId} {ov tv : Value} {n1 n2 : Nat} {ord sta : List Int} (h1 : w.ownsRow b1 e1 1 ov n1 (ord.map (Value.int .i64))) (h2 : w.ownsRow b2 e2 1 tv n2 (sta.map (Value.int .i64))) :
    TraceAt w n ans ord sta (some ⟨ab, 0, none⟩) n ov tv := by
  have l1 : ord.length = n1 := by simpa using h1.1
  have l2 : sta.length = n2 := by simpa using h2.1
  refine ⟨⟨IntsAt.of_own h1, by rw [l1]; exact own_max h1⟩, ⟨IntsAt.of_own h2, by rw [l2]; exact own_max h2⟩, fun i hi => ?_⟩
  obtain ⟨rw_, c, k1, k2, k3, k4, _⟩ := h.rows
  obtain ⟨xs, m1, m2, _⟩ := k4 i hi
  exact ⟨ab, 0, rw_ i, rfl, by rw [Nat.zero_add]; exact (cell_of_row w ab i c _ (0, 0) k1).trans (k3 i hi), AnsAt.of_own m1 m2, own_max m1⟩
end Go.Proofs.Yteainbnoemkfcaa
