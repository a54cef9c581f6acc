/- DERIVED. A run by a schedule on a ring of slots (package slots: Play), goroutine 0 alone. -/
import Derived.Test.YteainbnoemkfcaaGc
import Derived.Test.YteainbnoemkfcaaRows
import Derived.KernelRfl
import Derived.Test.YteainbnoemkfcaaGe
import Derived.Test.YteainbnoemkfcaaGg
import Derived.Laws.Cover1
set_option linter.unusedVariables false
namespace Go.Proofs.Yteainbnoemkfcaa
open Go.Tame
theorem code_all : (Try.prog.funcs.all fun fn => match fn.body with | some c => codeOk Try.prog true c | none => true) = true := by kernel_rfl
theorem code_ok (f : Nat) (fn : Func) (c : Code) (hf : Try.prog.funcs[f]? = some fn) (hb : fn.body = some c) : codeOk Try.prog true c = true := by
  have h := (Array.all_eq_true'.1 code_all) fn (Array.mem_of_getElem? hf)
  rw [hb] at h
  exact h
theorem num_all : (Try.prog.funcs.all fun fn => !(fn.name == "runtime.NumGoroutine")) = true := by kernel_rfl
theorem num_ok : NoNum Try.prog := fun f fn hf => by
  have h := (Array.all_eq_true'.1 num_all) fn (Array.mem_of_getElem? hf)
  simpa using h
theorem ext_all : (Try.prog.funcs.all fun fn => fn.body.isSome || (extNames.contains fn.name && fn.origin == "" && (Extern.findNext fn).isNone)) = true := by kernel_rfl
theorem ext_ok (f : Nat) (fn : Func) (hf : Try.prog.funcs[f]? = some fn) (hb : fn.body = none) : fn.name ∈ extNames ∧ fn.origin = "" ∧ Extern.findNext fn = none := by
  have h := (Array.all_eq_true'.1 ext_all) fn (Array.mem_of_getElem? hf)
  rw [hb] at h
  simp only [Option.isSome_none, Bool.false_or, Bool.and_eq_true, List.contains_iff_mem, beq_iff_eq, Option.isNone_iff_eq_none] at h
  exact ⟨h.1.1, h.1.2, h.2⟩
theorem Try.tame : Prog Try.prog where
  code := code_ok
  ext := ext_of ext_ok num_ok
  lv := fun f fn hf hb args e he => by
    rw [(ext_ok f fn hf hb).2.2] at he; cases he
  num := num_ok
end Go.Proofs.Yteainbnoemkfcaa
namespace Go.Proofs.Yteainbnoemkfcaa
open Go.RowKit
theorem size_nil (w : World) : Calls Try.prog 14 #[.pointer none] w fun e w' => e = .returned (.int .i64 0) ∧ w = w' := by
  go_enter Try.func14, Try.ntmps14
  go_wp2
  go_ret
  exact ⟨rfl, rfl⟩
theorem size_ring (a : Addr) (sa : Option Addr) (n c : Nat) (w : World) (h : w.cell? a = some (.slice sa n c)) : Calls Try.prog 14 #[.pointer (some a)] w fun e w' => e = .returned (.int .i64 n) ∧ w = w' := by
  go_enter Try.func14, Try.ntmps14
  go_wp2
  go_ret
  exact ⟨rfl, rfl⟩
theorem good_yes (a : Addr) (sa : Option Addr) (n c : Nat) (q : Int) (w : World) (h : w.cell? a = some (.slice sa n c)) (hn : 0 < n) (h0 : 0 ≤ q) (h1 : q < 4611686018427387904) :
    Calls Try.prog 38 #[.pointer (some a), .int .i64 q] w fun e w' => e = .returned (.bool true) ∧ w = w' := by
  go_enter Try.func38, Try.ntmps38
  go_wp2
  go_ret
  exact ⟨by simp, rfl⟩
theorem slot_yes (a : Addr) (sa : Option Addr) (n c : Nat) (q : Int) (w : World) (h : w.cell? a = some (.slice sa n c)) (hn : 0 < n) (h2 : n ≤ 65536) (h0 : 0 ≤ q) (h1 : q < 4611686018427387904) :
    Calls Try.prog 18 #[.pointer (some a), .int .i64 q] w fun e w' => e = .returned (.int .i64 (q % n)) ∧ w = w' := by
  go_enter Try.func18, Try.ntmps18
  go_wp2_with (go_at_call 38; refine (good_yes a sa n c q _ h hn h0 h1).mono ?_; rintro e w' ⟨rfl, rfl⟩)
  go_ret
  exact ⟨rfl, rfl⟩
theorem lap_yes (a : Addr) (sa : Option Addr) (n c : Nat) (q : Int) (w : World) (h : w.cell? a = some (.slice sa n c)) (hn : 0 < n) (h2 : n ≤ 65536) (h0 : 0 ≤ q) (h1 : q < 4611686018427387904) :
    Calls Try.prog 19 #[.pointer (some a), .int .i64 q] w fun e w' => e = .returned (.int .i64 (q / n)) ∧ w = w' := by
  go_enter Try.func19, Try.ntmps19
  go_wp2_with (go_at_call 38; refine (good_yes a sa n c q _ h hn h0 h1).mono ?_; rintro e w' ⟨rfl, rfl⟩)
  go_ret
  exact ⟨rfl, rfl⟩
theorem step_nil (w : World) : Calls Try.prog 40 #[.nilIface] w fun e w' => e = .returned (.tuple #[]) ∧ w = w' := by
  go_enter Try.func40, Try.ntmps40
  go_wp2
  go_end0
  exact ⟨rfl, rfl⟩
theorem atomic_store (a : Addr) (v : Int) (u : Int) (w : World) (h : w.cell? a = some (.int .i64 u)) (hf : w.frozen? a = false) : Calls Try.prog 36 #[.pointer (some a), .int .i64 v] w fun e w' => e = .returned (.tuple #[]) ∧ w.setCell a (.int .i64 v) = w' := by
  have hst := run_call_store (P := Try.prog) Try.func50 (by kernel_rfl) (by kernel_rfl) (by kernel_rfl) (by kernel_rfl) (k := .i64) (y := v) h hf
  go_enter Try.func36, Try.ntmps36
  go_wp2
  go_end0
  exact ⟨rfl, rfl⟩
theorem atomic_load (a : Addr) (v : Int) (w : World) (h : w.cell? a = some (.int .i64 v)) : Calls Try.prog 39 #[.pointer (some a)] w fun e w' => e = .returned (.int .i64 v) ∧ w = w' := by
  have hld := run_call_load (P := Try.prog) Try.func51 (by kernel_rfl) (by kernel_rfl) (by kernel_rfl) .i64 (by kernel_rfl) h
  go_enter Try.func39, Try.ntmps39
  go_wp2
  go_ret
  exact ⟨rfl, rfl⟩
def upd (f : Nat → Int) (i : Nat) (x : Int) : Nat → Int := fun j => if j = i then x else f j
structure RingAt (w : World) (rb sb n : Nat) (st va : Nat → Int) : Prop where
  ring : w.cell? ⟨rb, 0, none⟩ = some (.slice (some ⟨sb, 0, none⟩) n n)
  stamp : ∀ i, i < n → w.cell? ⟨sb, i * 2, none⟩ = some (.int .i64 (st i))
  value : ∀ i, i < n → w.cell? ⟨sb, i * 2 + 1, none⟩ = some (.int .i64 (va i))
  free : ∀ i, w.frozen? ⟨sb, i, none⟩ = false
  pos : 0 < n
  most : n ≤ 65536
  ne : rb ≠ sb
  rlt : rb < w.heap.size
  glt : sb < w.heap.size
theorem upd_upd (f : Nat → Int) (i : Nat) (x y : Int) : upd (upd f i x) i y = upd f i y := by
  funext j
  unfold upd
  split <;> rfl
theorem upd_same (f : Nat → Int) (i : Nat) (x : Int) : upd f i x i = x := if_pos rfl
theorem upd_ne (f : Nat → Int) {i j : Nat} (x : Int) (h : j ≠ i) : upd f i x j = f j := if_neg h
section
variable {w w' : World} {rb sb n : Nat} {st va : Nat → Int}
theorem RingAt.setStamp (H : RingAt w rb sb n st va) {i : Nat} (hi : i < n) (x : Int) : RingAt (w.setCell ⟨sb, i * 2, none⟩ (.int .i64 x)) rb sb n (upd st i x) va where
  ring := (World.cell?_setCell_other _ _ _ _ (by intro e; injection e with e; exact H.ne e.symm)).trans H.ring
  stamp := fun j hj => by
    unfold upd
    by_cases e : j = i
    · subst e; rw [if_pos rfl]; exact World.cell?_setCell_same _ _ _ (H.stamp j hj)
    · rw [if_neg e]; exact (World.cell?_setCell_other _ _ _ _ (by simp <;> omega)).trans (H.stamp j hj)
  value := fun j hj => (World.cell?_setCell_other _ _ _ _ (by simp <;> omega)).trans (H.value j hj)
  free := fun j => by rw [World.frozen?_setCell]; exact H.free j
  pos := H.pos
  most := H.most
  ne := H.ne
  rlt := by simpa using H.rlt
  glt := by simpa using H.glt
theorem RingAt.setValue (H : RingAt w rb sb n st va) {i : Nat} (hi : i < n) (x : Int) : RingAt (w.setCell ⟨sb, i * 2 + 1, none⟩ (.int .i64 x)) rb sb n st (upd va i x) where
  ring := (World.cell?_setCell_other _ _ _ _ (by intro e; injection e with e; exact H.ne e.symm)).trans H.ring
  stamp := fun j hj => (World.cell?_setCell_other _ _ _ _ (by simp <;> omega)).trans (H.stamp j hj)
  value := fun j hj => by
    unfold upd
    by_cases e : j = i
    · subst e; rw [if_pos rfl]; exact World.cell?_setCell_same _ _ _ (H.value j hj)
    · rw [if_neg e]; exact (World.cell?_setCell_other _ _ _ _ (by simp <;> omega)).trans (H.value j hj)
  free := fun j => by rw [World.frozen?_setCell]; exact H.free j
  pos := H.pos
  most := H.most
  ne := H.ne
  rlt := by simpa using H.rlt
  glt := by simpa using H.glt
theorem RingAt.drewN (H : RingAt w rb sb n st va) (k : Nat) : RingAt (w.drewN k) rb sb n st va := ⟨H.ring, H.stamp, H.value, H.free, H.pos, H.most, H.ne, H.rlt, H.glt⟩
theorem RingAt.kept {S : Nat → Prop} (H : RingAt w rb sb n st va) (hk : Kept S w w') (h1 : ¬ S rb) (h2 : ¬ S sb) : RingAt w' rb sb n st va where
  ring := (World.cell?_of_block (w := w) (hk.block rb H.rlt h1)).trans H.ring
  stamp := fun i hi => (World.cell?_of_block (w := w) (a := ⟨sb, i * 2, none⟩) (hk.block sb H.glt h2)).trans (H.stamp i hi)
  value := fun i hi => (World.cell?_of_block (w := w) (a := ⟨sb, i * 2 + 1, none⟩) (hk.block sb H.glt h2)).trans (H.value i hi)
  free := fun i => (World.frozen?_of_block (w := w) (a := ⟨sb, i, none⟩) (hk.block sb H.glt h2)).trans (H.free i)
  pos := H.pos
  most := H.most
  ne := H.ne
  rlt := Nat.lt_of_lt_of_le H.rlt hk.size
  glt := Nat.lt_of_lt_of_le H.glt hk.size
end
theorem slots_step_none : Stepper.none.Steps Try.prog 40 := fun k w _ => (step_nil w).mono fun _ _ ⟨h, hw⟩ => ⟨h, trivial, hw ▸ Kept.refl _ _, by rw [hw]⟩
theorem get_ok (X : Stepper) (hs : X.Steps Try.prog 40) (t rb sb n : Nat) (st va : Nat → Int) (q : Int) (w : World) (H : RingAt w rb sb n st va) (h0 : 0 ≤ q) (h1 : q < 4611686018427387904) (he : st (q % n).toNat = 2 * (q / n)) (A : X.at_ t w) (n1 : ¬ X.own rb) (n2 : ¬ X.own sb) :
    Calls Try.prog 25 #[.pointer (some ⟨rb, 0, none⟩), X.v, .int .i64 q] w fun e w' => e = .returned (.tuple #[.int .i64 (va (q % n).toNat), .int .i64 0]) ∧ Kept X.own w w' ∧ w'.heap.size = w.heap.size ∧ X.at_ (t + 3) w' := by
  have HE := Lib.hid he
  clear he
  have hn := H.pos
  have h2 := H.most
  have hr := H.ring
  have hb0 : 0 ≤ q % (n : Int) := Int.emod_nonneg _ (by omega)
  have hb1 : q % (n : Int) < n := Int.emod_lt_of_pos _ (by omega)
  have hd0 : 0 ≤ q / (n : Int) := Int.ediv_nonneg h0 (by omega)
  have hd1 : q / (n : Int) ≤ q := Int.ediv_le_self _ h0
  have HH := Lib.hid H
  have HA := Lib.hid A
  have HN1 := Lib.hid n1
  have HN2 := Lib.hid n2
  clear H A n1 n2
  go_enter Try.func25, Try.ntmps25
  go_wp2_with (go_at_call 38; refine (good_yes _ _ n _ q _ hr hn h0 h1).mono ?_; rintro e w' ⟨rfl, rfl⟩)
  go_quiet (first | (go_at_call 18; exact quietS (slot_yes _ _ n _ q _ hr hn h2 h0 h1)) | (go_at_call 19; exact quietS (lap_yes _ _ n _ q _ hr hn h2 h0 h1)))
  generalize hi : (q % (n : Int)).toNat = i at *
  have hi' : i < n := by omega
  have HI := Lib.hid hi
  clear hi
  have H1 := HH.out.drewN nq
  have A1 := X.keep HA.out (Kept.drewN (fun _ => False) w nq) (fun _ _ h => h)
  go_wp2_with fail
  refine (hs t _ A1).mono ?_
  rintro e w1 ⟨rfl, A1, K1, Z1⟩
  have H1 := H1.kept K1 HN1.out HN2.out
  have S1 := H1.stamp i hi'
  rw [HE.out] at S1
  have hS := Lib.hid S1
  clear S1
  go_wp2_with fail
  refine (atomic_load _ _ _ hS.out).mono ?_
  rintro e w' ⟨rfl, rfl⟩
  go_wp2_with fail
  refine (hs _ _ A1).mono ?_
  rintro e w2 ⟨rfl, A2, K2, Z2⟩
  have H2 := H1.kept K2 HN1.out HN2.out
  go_wp2_with fail
  refine (atomic_load _ _ _ (H2.value i hi')).mono ?_
  rintro e w' ⟨rfl, rfl⟩
  go_wp2_with fail
  refine (hs _ _ A2).mono ?_
  rintro e w3 ⟨rfl, A3, K3, Z3⟩
  have H3 := H2.kept K3 HN1.out HN2.out
  have S3 := H3.stamp i hi'
  rw [HE.out] at S3
  have hS3 := Lib.hid S3
  clear S3
  go_wp2_with fail
  refine (atomic_load _ _ _ hS3.out).mono ?_
  rintro e w' ⟨rfl, rfl⟩
  have HZ := Lib.hid (And.intro Z1 (And.intro Z2 Z3))
  have HK := Lib.hid (And.intro K1 (And.intro K2 K3))
  have HX := Lib.hid A3
  clear Z1 Z2 Z3 K1 K2 K3 H1 H2 H3 A1 A2 A3 hr
  go_wp2
  go_ret2
  have z := HZ.out
  have k := HK.out
  simp at z
  rw [HI.out]
  exact ⟨rfl, (((Kept.drewN _ _ nq).trans k.1).trans k.2.1).trans k.2.2, by omega, HX.out⟩
theorem get_lost (X : Stepper) (hs : X.Steps Try.prog 40) (t rb sb n : Nat) (st va : Nat → Int) (q : Int) (w : World) (H : RingAt w rb sb n st va) (h0 : 0 ≤ q) (h1 : q < 4611686018427387904) (he : 2 * (q / n) < st (q % n).toNat) (A : X.at_ t w) (n1 : ¬ X.own rb) (n2 : ¬ X.own sb) :
    Calls Try.prog 25 #[.pointer (some ⟨rb, 0, none⟩), X.v, .int .i64 q] w fun e w' => e = .returned (.tuple #[.int .i64 0, .int .i64 10]) ∧ Kept X.own w w' ∧ w'.heap.size = w.heap.size ∧ X.at_ (t + 1) w' := by
  have hn := H.pos
  have h2 := H.most
  have hr := H.ring
  have hb0 : 0 ≤ q % (n : Int) := Int.emod_nonneg _ (by omega)
  have hb1 : q % (n : Int) < n := Int.emod_lt_of_pos _ (by omega)
  have hd0 : 0 ≤ q / (n : Int) := Int.ediv_nonneg h0 (by omega)
  have hd1 : q / (n : Int) ≤ q := Int.ediv_le_self _ h0
  have HH := Lib.hid H
  have HA := Lib.hid A
  have HN1 := Lib.hid n1
  have HN2 := Lib.hid n2
  clear H A n1 n2
  go_enter Try.func25, Try.ntmps25
  go_wp2_with (go_at_call 38; refine (good_yes _ _ n _ q _ hr hn h0 h1).mono ?_; rintro e w' ⟨rfl, rfl⟩)
  go_quiet (first | (go_at_call 18; exact quietS (slot_yes _ _ n _ q _ hr hn h2 h0 h1)) | (go_at_call 19; exact quietS (lap_yes _ _ n _ q _ hr hn h2 h0 h1)))
  generalize hi : (q % (n : Int)).toNat = i at *
  have hi' : i < n := by omega
  have HI := Lib.hid hi
  clear hi
  have H1 := HH.out.drewN nq
  have A1 := X.keep HA.out (Kept.drewN (fun _ => False) w nq) (fun _ _ h => h)
  go_wp2_with fail
  refine (hs t _ A1).mono ?_
  rintro e w1 ⟨rfl, A1, K1, Z1⟩
  have H1 := H1.kept K1 HN1.out HN2.out
  have S1 := H1.stamp i hi'
  have hS := Lib.hid S1
  clear S1
  go_wp2_with fail
  refine (atomic_load _ _ _ hS.out).mono ?_
  rintro e w' ⟨rfl, rfl⟩
  have HZ := Lib.hid Z1
  have HK := Lib.hid K1
  have HX := Lib.hid A1
  clear Z1 K1 H1 A1 hr
  go_wp2
  go_ret2
  have z := HZ.out
  simp at z
  exact ⟨rfl, (Kept.drewN _ _ nq).trans HK.out, by omega, HX.out⟩
theorem Try.slotInfo : (Try.prog.info? 85).map (fun i => (i.zero, i.size, i.bytes)) = some (some (.agg #[.int .i64 0, .int .i64 0]), 2, 16) := by kernel_rfl
theorem made_zero (n j : Nat) (h : j < n * 2) : (madeCells #[.int .i64 0, .int .i64 0] (n * 2))[j]? = some (.int .i64 0) := by
  unfold madeCells
  rw [Array.getElem?_map, Array.getElem?_range, if_pos h]
  rcases Nat.mod_two_eq_zero_or_one j with e | e <;> simp [e]
theorem ring_made (w : World) (n : Nat) (hn : 0 < n) (h2 : n ≤ 65536) :
    RingAt ((w.alloc (.cells (madeCells #[.int .i64 0, .int .i64 0] (n * 2)) 85)).alloc (.cells #[.slice (some ⟨w.heap.size, 0, none⟩) n n] 66)) (w.heap.size + 1) w.heap.size n (fun _ => 0) (fun _ => 0) := by
  have b0 := Blk.new w 85 (madeCells #[.int .i64 0, .int .i64 0] (n * 2))
  have b1 := b0.alloc (.cells #[.slice (some ⟨w.heap.size, 0, none⟩) n n] 66)
  have b2 := Blk.new (w.alloc (.cells (madeCells #[.int .i64 0, .int .i64 0] (n * 2)) 85)) 66 #[.slice (some ⟨w.heap.size, 0, none⟩) n n]
  rw [World.size_alloc] at b2
  exact { ring := b2.cell 0, stamp := fun i hi => (b1.cell _).trans (made_zero n _ (by omega)), value := fun i hi => (b1.cell _).trans (made_zero n _ (by omega)), free := fun i => b1.frozen i, pos := hn, most := h2, ne := by omega, rlt := by simp, glt := by simp; omega }
theorem fill_succ (k : Nat) (a b : Int) : (fun j => if j < k + 1 then a else b) = upd (fun j => if j < k then a else b) k a := by
  funext j
  unfold upd
  dsimp only
  by_cases h : j = k
  · subst h; simp
  · rw [if_neg h]; by_cases h' : j < k
    · rw [if_pos h', if_pos (by omega)]
    · rw [if_neg h', if_neg (by omega)]
def NearB (w : World) (b : Nat) : Prop := ∃ c t, w.heap[b]? = some (.cells c t (0, 0))
theorem NearB.set_ {w : World} {d i : Nat} {v : Value} {b : Nat} (h : NearB w b) : NearB (w.setCell ⟨d, i, none⟩ v) b := by
  obtain ⟨c, t, h⟩ := h
  by_cases e : b = d
  · subst e
    exact ⟨_, _, (show Blk w b t c from h).set_ i v⟩
  · exact ⟨c, t, (Below.heap_setCell _ _ _ _ e).trans h⟩
theorem new_near (n : Nat) (w : World) (hn : 0 < n) (h2 : n ≤ 65536) (hb : (bits BinOp.and IntKind.i64 (n : Int) ((n : Int) - 1) != 0) = false) : Calls Try.prog 12 #[.int .i64 n] w fun e w' => e = .returned (.tuple #[.pointer (some ⟨w.heap.size + 1, 0, none⟩), .int .i64 0]) ∧
    RingAt w' (w.heap.size + 1) w.heap.size n (fun _ => -2) (fun _ => 0) ∧ Below w.heap.size w w' ∧ w'.heap.size = w.heap.size + 2 ∧ NearB w' w.heap.size ∧ NearB w' (w.heap.size + 1) := by
  obtain ⟨i0, hi, hz0, hz1, hz2⟩ := info_parts Try.slotInfo
  have hmk := fun wx => run_make (P := Try.prog) wx 64 85 i0 _ Try.underlying64 hi hz0 .i64 .i64 n n (by omega) (by omega) (by rw [hz2]; omega) (by omega)
  simp only [Int.toNat_natCast, hz1, Value.cells] at hmk
  have h1 : (1 : Int) ≤ n := by omega
  have h3 : (n : Int) ≤ 65536 := by omega
  have hr := ring_made w n hn h2
  have hbel : Below w.heap.size w ((w.alloc (.cells (madeCells #[.int .i64 0, .int .i64 0] (n * 2)) 85)).alloc (.cells #[.slice (some ⟨w.heap.size, 0, none⟩) n n] 66)) := ((Below.refl _ _).alloc (Nat.le_refl _) _).alloc (by simp) _
  have hnear : NearB ((w.alloc (.cells (madeCells #[.int .i64 0, .int .i64 0] (n * 2)) 85)).alloc (.cells #[.slice (some ⟨w.heap.size, 0, none⟩) n n] 66)) w.heap.size ∧ NearB ((w.alloc (.cells (madeCells #[.int .i64 0, .int .i64 0] (n * 2)) 85)).alloc (.cells #[.slice (some ⟨w.heap.size, 0, none⟩) n n] 66)) (w.heap.size + 1) := by
    have hb := Blk.new (w.alloc (.cells (madeCells #[.int .i64 0, .int .i64 0] (n * 2)) 85)) 66 #[.slice (some ⟨w.heap.size, 0, none⟩) n n]
    rw [World.size_alloc] at hb
    exact ⟨⟨_, _, (Blk.new w 85 (madeCells #[.int .i64 0, .int .i64 0] (n * 2))).alloc _⟩, ⟨_, _, hb⟩⟩
  have HR := Lib.hid hr
  have HB := Lib.hid (And.intro hbel hnear)
  clear hr hbel hnear hz1 hz2 hz0 hi
  go_enter Try.func12, Try.ntmps12
  go_wp2
  go_loopw [28] (fun i wr => ∃ k : Nat, k ≤ n ∧ i = .int .i64 k ∧ RingAt wr (w.heap.size + 1) w.heap.size n (fun j => if j < k then -2 else 0) (fun _ => 0) ∧ (Below w.heap.size w wr ∧ NearB wr w.heap.size ∧ NearB wr (w.heap.size + 1)) ∧ wr.heap.size = w.heap.size + 2) (fun i _ => n - (intOf i).toNat)
  case atStart => exact ⟨0, Nat.zero_le _, rfl, by simpa using HR.out, HB.out, by simp⟩
  case round =>
    obtain ⟨k, hk, rfl, H, hbl, hsz⟩ := hrel
    have hring := H.ring
    have HH := Lib.hid H
    have HS := Lib.hid hsz
    clear hmk hb H hsz
    by_cases hlt : k < n
    · go_wp2_with (go_at_call 36; refine (atomic_store _ _ _ _ (HH.out.stamp k hlt) (HH.out.free _)).mono ?_; rintro e w' ⟨rfl, rfl⟩)
      go_roundw
      case rel =>
        refine ⟨k + 1, by omega, by go_num, ?_, ⟨hbl.1.setCell (by simp) _, hbl.2.1.set_, hbl.2.2.set_⟩, by simpa using HS.out⟩
        rw [fill_succ]
        exact HH.out.setStamp hlt (-2)
      case measure => simp [intOf]; omega
    · go_wp2
      go_ret2
      refine ⟨rfl, ⟨HH.out.ring, fun i hi => ?_, HH.out.value, HH.out.free, HH.out.pos, HH.out.most, HH.out.ne, HH.out.rlt, HH.out.glt⟩, hbl.1, HS.out, hbl.2⟩
      have h := HH.out.stamp i hi
      rwa [if_pos (by omega)] at h
theorem new_ok (n : Nat) (w : World) (hn : 0 < n) (h2 : n ≤ 65536) (hb : (bits BinOp.and IntKind.i64 (n : Int) ((n : Int) - 1) != 0) = false) : Calls Try.prog 12 #[.int .i64 n] w fun e w' => e = .returned (.tuple #[.pointer (some ⟨w.heap.size + 1, 0, none⟩), .int .i64 0]) ∧
    RingAt w' (w.heap.size + 1) w.heap.size n (fun _ => -2) (fun _ => 0) ∧ Below w.heap.size w w' ∧ w'.heap.size = w.heap.size + 2 :=
  (new_near n w hn h2 hb).mono fun _ _ ⟨h1, h2, h3, h4, _⟩ => ⟨h1, h2, h3, h4⟩
end Go.Proofs.Yteainbnoemkfcaa
namespace Go.Proofs.Yteainbnoemkfcaa
open Go.RowKit Go.Turn Go.Tame Go.Conc
abbrev RSt : Type := (Nat → Int) × (Nat → Int)
structure RAt (rb sb n : Nat) (a : RSt) (w : World) : Prop where
  r : RingAt w rb sb n a.1 a.2
  b1 : ∃ c t, w.heap[rb]? = some (.cells c t (0, 0))
  b2 : ∃ c t, w.heap[sb]? = some (.cells c t (0, 0))
theorem RAt.law {rb sb n : Nat} (a : RSt) (w w' : World) (h : RAt rb sb n a w) (hs : ∀ b, b = rb ∨ b = sb → w'.heap[b]? = w.heap[b]?) : RAt rb sb n a w' := by
  have h1 := hs rb (.inl rfl)
  have h2 := hs sb (.inr rfl)
  obtain ⟨c1, t1, e1⟩ := h.b1
  obtain ⟨c2, t2, e2⟩ := h.b2
  exact ⟨⟨(World.cell?_of_block (w := w) h1).trans h.r.ring, fun i hi => (World.cell?_of_block (w := w) (a := ⟨sb, i * 2, none⟩) h2).trans (h.r.stamp i hi), fun i hi => (World.cell?_of_block (w := w) (a := ⟨sb, i * 2 + 1, none⟩) h2).trans (h.r.value i hi), fun i => (World.frozen?_of_block (w := w) (a := ⟨sb, i, none⟩) h2).trans (h.r.free i), h.r.pos, h.r.most, h.r.ne, lt_of_some (h1.trans e1), lt_of_some (h2.trans e2)⟩, ⟨c1, t1, h1.trans e1⟩, ⟨c2, t2, h2.trans e2⟩⟩
def ringI (rb sb rn : Nat) : Inner := ⟨RSt, RAt rb sb rn, fun b => b = rb ∨ b = sb, RAt.law⟩
abbrev OpsB.ring (B : OpsB) (rb sb rn : Nat) (good : OpI → Prop) : OpsD := B.on (ringI rb sb rn) good
theorem held_in {H : Nat → Prop} (w : World) {p : Addr} (hp : H p.block) (v : Value) : Held H w H (w.setCell p v) :=
  ⟨by simp [World.setCell], fun b c t r hb hn _ => ⟨(Below.heap_setCell _ _ _ _ (fun e => hn (by rw [e]; exact hp))).trans hb, hn⟩⟩
theorem set_near {w : World} {d i : Nat} {v : Value} {b : Nat} (h : ∃ c t, w.heap[b]? = some (.cells c t (0, 0))) : ∃ c t, (w.setCell ⟨d, i, none⟩ v).heap[b]? = some (.cells c t (0, 0)) := by
  obtain ⟨c, t, h⟩ := h
  by_cases e : b = d
  · subst e
    exact ⟨_, _, (show Blk w b t c from h).set_ i v⟩
  · exact ⟨c, t, (Below.heap_setCell _ _ _ _ e).trans h⟩
section
variable {B : OpsB} {rb sb rn : Nat} {good : OpI → Prop}
theorem ring_stamp {s : (B.ring rb sb rn good).St} {H : Nat → Prop} {w : World} (h : RepO (B.ring rb sb rn good) s H w) {i : Nat} (hi : i < rn) (x : Int) : RepO (B.ring rb sb rn good) ((upd s.1.1 i x, s.1.2), s.2) H (w.setCell ⟨sb, i * 2, none⟩ (.int .i64 x)) ∧ Held H w H (w.setCell ⟨sb, i * 2, none⟩ (.int .i64 x)) := by
  have ha : RAt rb sb rn s.1 w := h.at_
  have hn : RAt rb sb rn (upd s.1.1 i x, s.1.2) (w.setCell ⟨sb, i * 2, none⟩ (.int .i64 x)) := ⟨ha.r.setStamp hi x, set_near ha.b1, set_near ha.b2⟩
  refine ⟨h.inner (a' := (upd s.1.1 i x, s.1.2)) hn (fun b hb hbi => Below.heap_setCell _ _ _ _ (fun e => hbi (.inr e))) (fun b hb => ?_), held_in w (h.bi sb (.inr rfl)) _⟩
  rcases hb with rfl | rfl
  · obtain ⟨c, t, e⟩ := hn.b1; exact ⟨c, t, _, e, by decide⟩
  · obtain ⟨c, t, e⟩ := hn.b2; exact ⟨c, t, _, e, by decide⟩
theorem ring_value {s : (B.ring rb sb rn good).St} {H : Nat → Prop} {w : World} (h : RepO (B.ring rb sb rn good) s H w) {i : Nat} (hi : i < rn) (x : Int) : RepO (B.ring rb sb rn good) ((s.1.1, upd s.1.2 i x), s.2) H (w.setCell ⟨sb, i * 2 + 1, none⟩ (.int .i64 x)) ∧ Held H w H (w.setCell ⟨sb, i * 2 + 1, none⟩ (.int .i64 x)) := by
  have ha : RAt rb sb rn s.1 w := h.at_
  have hn : RAt rb sb rn (s.1.1, upd s.1.2 i x) (w.setCell ⟨sb, i * 2 + 1, none⟩ (.int .i64 x)) := ⟨ha.r.setValue hi x, set_near ha.b1, set_near ha.b2⟩
  refine ⟨h.inner (a' := (s.1.1, upd s.1.2 i x)) hn (fun b hb hbi => Below.heap_setCell _ _ _ _ (fun e => hbi (.inr e))) (fun b hb => ?_), held_in w (h.bi sb (.inr rfl)) _⟩
  rcases hb with rfl | rfl
  · obtain ⟨c, t, e⟩ := hn.b1; exact ⟨c, t, _, e, by decide⟩
  · obtain ⟨c, t, e⟩ := hn.b2; exact ⟨c, t, _, e, by decide⟩
end
structure RLens (A : Type) where
  get : A → RSt
  put : RSt → A → A
def RLens.st {A R : Type} (l : RLens A) (s : A × R) (i : Nat) (x : Int) : A × R := (l.put (upd (l.get s.1).1 i x, (l.get s.1).2) s.1, s.2)
def RLens.va {A R : Type} (l : RLens A) (s : A × R) (i : Nat) (x : Int) : A × R := (l.put ((l.get s.1).1, upd (l.get s.1).2 i x) s.1, s.2)
def idL : RLens RSt := ⟨fun a => a, fun r _ => r⟩
structure RingIn (D : OpsD) (l : RLens D.A) (rb sb rn : Nat) : Prop where
  at_ : ∀ (s : D.St) (H : Nat → Prop) (w : World), RepO D s H w → RAt rb sb rn (l.get s.1) w
  stamp : ∀ (s : D.St) (H : Nat → Prop) (w : World), RepO D s H w → ∀ i, i < rn → ∀ x, RepO D (l.st s i x) H (w.setCell ⟨sb, i * 2, none⟩ (.int .i64 x)) ∧ Held H w H (w.setCell ⟨sb, i * 2, none⟩ (.int .i64 x))
  value : ∀ (s : D.St) (H : Nat → Prop) (w : World), RepO D s H w → ∀ i, i < rn → ∀ x, RepO D (l.va s i x) H (w.setCell ⟨sb, i * 2 + 1, none⟩ (.int .i64 x)) ∧ Held H w H (w.setCell ⟨sb, i * 2 + 1, none⟩ (.int .i64 x))
theorem ring_in (B : OpsB) (rb sb rn : Nat) (good : OpI → Prop) : RingIn (B.ring rb sb rn good) idL rb sb rn :=
  ⟨fun _ _ _ h => h.at_, fun _ _ _ h _ hi x => ring_stamp h hi x, fun _ _ _ h _ hi x => ring_value h hi x⟩
theorem method_stand (n : Nat) (a : Addr) (w : World) : (method (n + 1) 116 (.pointer (some a)) "Step").run Try.prog w = .ok (79, .pointer (some a)) w := by kernel_rfl
set_option maxRecDepth 100000 in
theorem slots_step {D : OpsD} {L : Lg Try.prog (Tree D.St D.St)} {Cap : (Nat → Prop) → World → Prop} {sb : Nat} (hre : ∀ H w τ n, Cap H w → Cap H (w.re τ n)) (hcap : ∀ H w H' w', Cap H w → Held H w H' w' → Cap H' w') (hS : StepO D L Cap sb) (s : D.St) (H : Nat → Prop) (k : D.St → Tree D.St D.St) (w : World) (hr : RepO D s H w) (hc : Cap H w) :
    Ccalls L 40 #[.iface 116 (.pointer (some ⟨sb, 0, none⟩))] (.yield s k) w fun u t' w' => u = .tuple #[] ∧ ∃ s' H', t' = k s' ∧ (RepO D s' H' w' ∧ Cap H' w') ∧ Held H w H' w' := by
  intro c mid hR
  rw [show Frame.enter Try.prog 40 #[.iface 116 (.pointer (some ⟨sb, 0, none⟩))] .normal = Frame.at { (default : Frame) with fn := 40, kind := .normal } ⟨#[.iface 116 (.pointer (some ⟨sb, 0, none⟩))] ++ Array.replicate (Try.f40.ntmps - 1) undef, []⟩ [.code (Try.f40.body.getD .skip)] from by simp [Frame.enter, Frame.at, Try.func40]; rfl]
  simp only [Try.f40, Option.getD_some, Nat.reduceSub, Array.replicate_succ, Array.replicate_zero, List.push_toArray, List.append_toArray, List.nil_append, List.cons_append]
  refine Lg.move _ (fun _ _ => step_seq) (fun h => h) ?_
  have HR := Lib.hid hR
  have Hr := Lib.hid hr
  clear hR hr
  refine Lg.code fun K hK y τ n hy => ?_
  go_wp2
  refine hK _ _ (fun _ => rfl) ?_
  clear hK K
  subst hy
  refine Lg.move _ (fun _ _ => step_cond rfl) (fun h => h) ?_
  refine Lg.move _ (fun _ _ => step_region) (fun h => h) ?_
  refine Lg.pre 0 1 1 (by simp) fun K hK z τ3 n3 hz => ?_
  subst hz
  have hr : RepO D s H z := Hr.out.re.re
  have hc : Cap H z := hcap _ _ _ _ hc (re_held.2 (re_held.2 (Held.refl _ _)))
  have hm := fun wx => method_stand 244 ⟨sb, 0, none⟩ wx
  go_wp2
  refine hK _ _ (fun _ => rfl) ?_
  clear hK K
  refine Lg.call (i := 1) (rest := []) (f := 79) (args := #[.pointer (some ⟨sb, 0, none⟩)]) rfl rfl (fun y => ?_) (hS s H k z hr hc) ?_
  · go_simp
  rintro vv t' w' ⟨rfl, s', H', rfl, ⟨hr', hc'⟩, hh⟩
  rw [Frame.finish_at]
  walk_nrm
  refine Lg.move _ (fun _ _ => step_region_end) (fun h => h) ?_
  refine Lg.move _ (fun _ _ => step_end) (fun h => h) ?_
  exact Lg.leave rfl Try.func40 rfl (fun _ _ _ _ => by simp [results, Try.f40]) (HR.out _ _ _ ⟨rfl, s', H', rfl, ⟨hr', hc'⟩, re_held.2 (re_held.2 hh)⟩)
structure Now (D : OpsD) (Cap : (Nat → Prop) → World → Prop) (H0 : Nat → Prop) (w0 : World) (s : D.St) (H : Nat → Prop) (w : World) : Prop where
  rep : RepO D s H w
  cap0 : Cap H0 w0
  held : Held H0 w0 H w
def CapK (Cap : (Nat → Prop) → World → Prop) : Prop := ∀ H w H' w', Cap H w → Held H w H' w' → Cap H' w'
theorem Now.re {D : OpsD} {Cap : (Nat → Prop) → World → Prop} {H0 H : Nat → Prop} {w0 y : World} {s : D.St} {τ : Nat → Question → Nat} {n : Nat} (hk : CapK Cap) (h : Now D Cap H0 w0 s H (y.re τ n)) : Now D Cap H0 w0 s H y :=
  ⟨h.rep.re, h.cap0, held_re.1 h.held⟩
theorem Now.to {D : OpsD} {Cap : (Nat → Prop) → World → Prop} {H0 H H' : Nat → Prop} {w0 w w' : World} {s s' : D.St} (hk : CapK Cap) (h : Now D Cap H0 w0 s H w) (h' : RepO D s' H' w' ∧ Held H w H' w') : Now D Cap H0 w0 s' H' w' :=
  ⟨h'.1, h.cap0, h.held.trans h'.2⟩
def SStep (D : OpsD) (L : Lg Try.prog (Tree D.St D.St)) (Cap : (Nat → Prop) → World → Prop) (f : FuncId) (v : Value) : Prop :=
  ∀ H0 w0 s H k w, Now D Cap H0 w0 s H w → Ccalls L f #[v] (.yield s k) w fun u t' w' => u = .tuple #[] ∧ ∃ s' H', t' = k s' ∧ Now D Cap H0 w0 s' H' w'
theorem slots_sstep {D : OpsD} {L : Lg Try.prog (Tree D.St D.St)} {Cap : (Nat → Prop) → World → Prop} {sb : Nat} (hre : ∀ H w τ n, Cap H w → Cap H (w.re τ n)) (hcap : CapK Cap) (hS : StepO D L Cap sb) : SStep D L Cap 40 (.iface 116 (.pointer (some ⟨sb, 0, none⟩))) :=
  fun H0 w0 s H k w h => (slots_step hre hcap hS s H k w h.rep (hcap _ _ _ _ h.cap0 h.held)).mono fun v t' w' ⟨e, s', H', e2, h2, h3⟩ => ⟨e, s', H', e2, h2.1, h.cap0, h.held.trans h3⟩
def putT {A R : Type} (l : RLens A) (n : Nat) (q v : Int) (s : A × R) (k : A × R → Tree (A × R) (A × R)) : Tree (A × R) (A × R) :=
  .yield s fun s1 => .yield (l.st s1 (q % n).toNat (2 * (q / n) - 1)) fun s2 => .yield (l.va s2 (q % n).toNat v) fun s3 => k (l.st s3 (q % n).toNat (2 * (q / n)))
theorem Now.drewN {D : OpsD} {Cap : (Nat → Prop) → World → Prop} {H0 H : Nat → Prop} {w0 y : World} {s : D.St} (hk : CapK Cap) (h : Now D Cap H0 w0 s H y) (n : Nat) : Now D Cap H0 w0 s H (y.drewN n) :=
  Now.re (τ := y.tape) (n := y.drawn) hk h
set_option maxHeartbeats 2000000 in
set_option maxRecDepth 100000 in
theorem slots_put {D : OpsD} {l : RLens D.A} {rb sb rn : Nat} (R : RingIn D l rb sb rn) {L : Lg Try.prog (Tree D.St D.St)} {Cap : (Nat → Prop) → World → Prop} {V : Value} (hk : CapK Cap) (hS : SStep D L Cap 40 V) (hrn : 0 < rn) (h2 : rn ≤ 65536) (q v : Int) (h0 : 0 ≤ q) (h1 : q < 4611686018427387904) (H0 : Nat → Prop) (w0 : World) (s : D.St) (H : Nat → Prop) (k) (w : World) (hn : Now D Cap H0 w0 s H w) :
    Ccalls L 23 #[.pointer (some ⟨rb, 0, none⟩), V, .int .i64 q, .int .i64 v] (putT l rn q v s k) w fun u t' w' => u = .int .i64 0 ∧ ∃ s' H', t' = k s' ∧ Now D Cap H0 w0 s' H' w' := by
  have hb0 : 0 ≤ q % (rn : Int) := Int.emod_nonneg _ (by omega)
  have hb1 : q % (rn : Int) < rn := Int.emod_lt_of_pos _ (by omega)
  have hd0 : 0 ≤ q / (rn : Int) := Int.ediv_nonneg h0 (by omega)
  have hd1 : q / (rn : Int) ≤ q := Int.ediv_le_self _ h0
  intro c mid hR
  have HR := Lib.hid hR
  have HN := Lib.hid hn
  clear hR hn
  rw [show Frame.enter Try.prog 23 #[.pointer (some ⟨rb, 0, none⟩), V, .int .i64 q, .int .i64 v] .normal = Frame.at { (default : Frame) with fn := 23, kind := .normal } ⟨#[.pointer (some ⟨rb, 0, none⟩), V, .int .i64 q, .int .i64 v] ++ Array.replicate (Try.f23.ntmps - 4) undef, []⟩ [.code (Try.f23.body.getD .skip)] from by simp [Frame.enter, Frame.at, Try.func23]; rfl]
  simp only [Try.f23, Option.getD_some, Nat.reduceSub, Array.replicate_succ, Array.replicate_zero, List.push_toArray, List.append_toArray, List.nil_append, List.cons_append]
  unfold putT
  refine Lg.move _ (fun _ _ => step_seq) (fun h => h) ?_
  refine Lg.code fun K hK y τ n' hy => ?_
  subst hy
  have hn := HN.out.re hk
  clear HN
  have hr := (R.at_ _ _ _ hn.rep).r.ring
  have HN := Lib.hid hn
  clear hn
  go_wp2
  refine hK _ _ (fun _ => rfl) ?_
  clear hK K hr
  refine Lg.move _ (fun _ _ => step_seq) (fun h => h) ?_
  refine Lg.code fun K hK y τ n' hy => ?_
  subst hy
  have hn := HN.out.re hk
  clear HN
  have hr := (R.at_ _ _ _ hn.rep).r.ring
  have HN := Lib.hid hn
  clear hn
  go_wp2_with (go_at_call 38; refine (good_yes _ _ rn _ q _ hr hrn h0 h1).mono ?_; rintro e w' ⟨rfl, rfl⟩)
  refine hK _ _ (fun _ => rfl) ?_
  clear hK K hr
  refine Lg.move _ (fun _ _ => step_seq) (fun h => h) ?_
  refine Lg.code fun K hK y τ n' hy => ?_
  subst hy
  have hn := HN.out.re hk
  clear HN
  have hr := (R.at_ _ _ _ hn.rep).r.ring
  have HN := Lib.hid hn
  clear hn
  go_quiet (first | (go_at_call 18; exact quietS (slot_yes _ _ rn _ q _ hr hrn h2 h0 h1)) | (go_at_call 19; exact quietS (lap_yes _ _ rn _ q _ hr hrn h2 h0 h1)))
  refine hK _ _ (fun _ => rfl) ?_
  clear hK K hr
  have hn := HN.out.drewN hk nq
  generalize World.drewN _ nq = y' at hn ⊢
  clear HN
  have HN := Lib.hid hn
  clear hn
  refine Lg.move _ (fun _ _ => step_seq) (fun h => h) ?_
  refine Lg.move _ (fun _ _ => step_region) (fun h => h) ?_
  refine Lg.pre 0 1 1 (by simp) fun K hK z τ n' hz => ?_
  subst hz
  go_wp2
  refine hK _ _ (fun _ => rfl) ?_
  clear hK K
  refine Lg.call (i := 1) (rest := []) (f := 40) (args := #[V]) rfl rfl (fun y => by go_simp) (hS _ _ _ _ _ _ (HN.out.re hk)) ?_
  rintro vv t' w' ⟨rfl, s, H, rfl, hn⟩
  clear HN
  rw [Frame.finish_at]
  walk_nrm
  refine Lg.move _ (fun _ _ => step_region_end) (fun h => h) ?_
  have HN := Lib.hid hn
  clear hn
  refine Lg.move _ (fun _ _ => step_seq) (fun h => h) ?_
  refine Lg.code fun K hK y τ n' hy => ?_
  subst hy
  have hn := HN.out.re hk
  clear HN
  have hat := R.at_ _ _ _ hn.rep
  have s0 := hat.r.stamp (q % (rn : Int)).toNat (by omega)
  have z0 := hat.r.free ((q % (rn : Int)).toNat * 2)
  have HN := Lib.hid hn
  clear hn hat
  go_wp2_with (go_at_call 36; refine (atomic_store _ _ _ _ s0 z0).mono ?_; rintro e w' ⟨rfl, rfl⟩)
  refine hK _ _ (fun _ => rfl) ?_
  clear hK K s0 z0
  have hn := HN.out.to hk (R.stamp _ _ _ HN.out.rep (q % (rn : Int)).toNat (by omega) (2 * (q / (rn : Int)) - 1))
  clear HN
  have HN := Lib.hid hn
  clear hn
  generalize World.setCell _ _ _ = y' at HN ⊢
  refine Lg.move _ (fun _ _ => step_seq) (fun h => h) ?_
  refine Lg.move _ (fun _ _ => step_region) (fun h => h) ?_
  refine Lg.pre 0 1 1 (by simp) fun K hK z τ n' hz => ?_
  subst hz
  go_wp2
  refine hK _ _ (fun _ => rfl) ?_
  clear hK K
  refine Lg.call (i := 1) (rest := []) (f := 40) (args := #[V]) rfl rfl (fun y => by go_simp) (hS _ _ _ _ _ _ (HN.out.re hk)) ?_
  rintro vv t' w' ⟨rfl, s, H, rfl, hn⟩
  clear HN
  rw [Frame.finish_at]
  walk_nrm
  refine Lg.move _ (fun _ _ => step_region_end) (fun h => h) ?_
  have HN := Lib.hid hn
  clear hn
  refine Lg.move _ (fun _ _ => step_seq) (fun h => h) ?_
  refine Lg.code fun K hK y τ n' hy => ?_
  subst hy
  have hn := HN.out.re hk
  clear HN
  have hat := R.at_ _ _ _ hn.rep
  have s0 := hat.r.value (q % (rn : Int)).toNat (by omega)
  have z0 := hat.r.free ((q % (rn : Int)).toNat * 2 + 1)
  have HN := Lib.hid hn
  clear hn hat
  go_wp2_with (go_at_call 36; refine (atomic_store _ _ _ _ s0 z0).mono ?_; rintro e w' ⟨rfl, rfl⟩)
  refine hK _ _ (fun _ => rfl) ?_
  clear hK K s0 z0
  have hn := HN.out.to hk (R.value _ _ _ HN.out.rep (q % (rn : Int)).toNat (by omega) v)
  clear HN
  have HN := Lib.hid hn
  clear hn
  generalize World.setCell _ _ _ = y' at HN ⊢
  refine Lg.move _ (fun _ _ => step_seq) (fun h => h) ?_
  refine Lg.move _ (fun _ _ => step_region) (fun h => h) ?_
  refine Lg.pre 0 1 1 (by simp) fun K hK z τ n' hz => ?_
  subst hz
  go_wp2
  refine hK _ _ (fun _ => rfl) ?_
  clear hK K
  refine Lg.call (i := 1) (rest := []) (f := 40) (args := #[V]) rfl rfl (fun y => by go_simp) (hS _ _ _ _ _ _ (HN.out.re hk)) ?_
  rintro vv t' w' ⟨rfl, s, H, rfl, hn⟩
  clear HN
  rw [Frame.finish_at]
  walk_nrm
  refine Lg.move _ (fun _ _ => step_region_end) (fun h => h) ?_
  have HN := Lib.hid hn
  clear hn
  refine Lg.move _ (fun _ _ => step_seq) (fun h => h) ?_
  refine Lg.code fun K hK y τ n' hy => ?_
  subst hy
  have hn := HN.out.re hk
  clear HN
  have hat := R.at_ _ _ _ hn.rep
  have s0 := hat.r.stamp (q % (rn : Int)).toNat (by omega)
  have z0 := hat.r.free ((q % (rn : Int)).toNat * 2)
  have HN := Lib.hid hn
  clear hn hat
  go_wp2_with (go_at_call 36; refine (atomic_store _ _ _ _ s0 z0).mono ?_; rintro e w' ⟨rfl, rfl⟩)
  refine hK _ _ (fun _ => rfl) ?_
  clear hK K s0 z0
  have hn := HN.out.to hk (R.stamp _ _ _ HN.out.rep (q % (rn : Int)).toNat (by omega) (2 * (q / (rn : Int))))
  clear HN
  have HN := Lib.hid hn
  clear hn
  generalize World.setCell _ _ _ = y' at HN ⊢
  refine Lg.move _ (fun _ _ => step_seq) (fun h => h) ?_
  refine Lg.code fun K hK y τ n' hy => ?_
  subst hy
  have hn := HN.out.re hk
  clear HN
  have HN := Lib.hid hn
  clear hn
  go_wp2
  refine hK _ _ (fun _ => rfl) ?_
  refine Lg.move _ (fun _ _ => step_ret) (fun h => h) ?_
  refine Lg.leave rfl Try.func23 rfl (v := .int .i64 0) (fun _ _ _ _ => by simp [results, Try.f23]) (HR.out _ _ _ ⟨rfl, _, H, rfl, HN.out⟩)
def getT {A R : Type} (l : RLens A) (n : Nat) (q : Int) (s : A × R) (k : Int → Int → A × R → Tree (A × R) (A × R)) : Tree (A × R) (A × R) :=
  .yield s fun s1 => if (l.get s1.1).1 (q % n).toNat < 2 * (q / n) then k 0 6 s1 else if 2 * (q / n) < (l.get s1.1).1 (q % n).toNat then k 0 10 s1 else
    .yield s1 fun s2 => .yield s2 fun s3 => if (l.get s3.1).1 (q % n).toNat = (l.get s1.1).1 (q % n).toNat then k ((l.get s2.1).2 (q % n).toNat) 0 s3 else k 0 10 s3
set_option maxHeartbeats 4000000 in
set_option maxRecDepth 100000 in
theorem slots_get {D : OpsD} {l : RLens D.A} {rb sb rn : Nat} (R : RingIn D l rb sb rn) {L : Lg Try.prog (Tree D.St D.St)} {Cap : (Nat → Prop) → World → Prop} {V : Value} (hk : CapK Cap) (hS : SStep D L Cap 40 V) (hrn : 0 < rn) (h2 : rn ≤ 65536) (q : Int) (h0 : 0 ≤ q) (h1 : q < 4611686018427387904) (H0 : Nat → Prop) (w0 : World) (s : D.St) (H : Nat → Prop) (k) (w : World) (hn : Now D Cap H0 w0 s H w) :
    Ccalls L 25 #[.pointer (some ⟨rb, 0, none⟩), V, .int .i64 q] (getT l rn q s k) w fun u t' w' => ∃ x e s' H', u = .tuple #[.int .i64 x, .int .i64 e] ∧ t' = k x e s' ∧ Now D Cap H0 w0 s' H' w' := by
  have hb0 : 0 ≤ q % (rn : Int) := Int.emod_nonneg _ (by omega)
  have hb1 : q % (rn : Int) < rn := Int.emod_lt_of_pos _ (by omega)
  have hd0 : 0 ≤ q / (rn : Int) := Int.ediv_nonneg h0 (by omega)
  have hd1 : q / (rn : Int) ≤ q := Int.ediv_le_self _ h0
  intro c mid hR
  have HR := Lib.hid hR
  have HN := Lib.hid hn
  clear hR hn
  rw [show Frame.enter Try.prog 25 #[.pointer (some ⟨rb, 0, none⟩), V, .int .i64 q] .normal = Frame.at { (default : Frame) with fn := 25, kind := .normal } ⟨#[.pointer (some ⟨rb, 0, none⟩), V, .int .i64 q] ++ Array.replicate (Try.f25.ntmps - 3) undef, []⟩ [.code (Try.f25.body.getD .skip)] from by simp [Frame.enter, Frame.at, Try.func25]; rfl]
  simp only [Try.f25, Option.getD_some, Nat.reduceSub, Array.replicate_succ, Array.replicate_zero, List.push_toArray, List.append_toArray, List.nil_append, List.cons_append]
  unfold getT
  refine Lg.move _ (fun _ _ => step_seq) (fun h => h) ?_
  refine Lg.code fun K hK y τ n' hy => ?_
  subst hy
  have hn := HN.out.re hk
  clear HN
  have hr := (R.at_ _ _ _ hn.rep).r.ring
  have HN := Lib.hid hn
  clear hn
  go_wp2
  refine hK _ _ (fun _ => rfl) ?_
  clear hK K hr
  refine Lg.move _ (fun _ _ => step_seq) (fun h => h) ?_
  refine Lg.code fun K hK y τ n' hy => ?_
  subst hy
  have hn := HN.out.re hk
  clear HN
  have hr := (R.at_ _ _ _ hn.rep).r.ring
  have HN := Lib.hid hn
  clear hn
  go_wp2_with (go_at_call 38; refine (good_yes _ _ rn _ q _ hr hrn h0 h1).mono ?_; rintro e w' ⟨rfl, rfl⟩)
  refine hK _ _ (fun _ => rfl) ?_
  clear hK K hr
  refine Lg.move _ (fun _ _ => step_seq) (fun h => h) ?_
  refine Lg.code fun K hK y τ n' hy => ?_
  subst hy
  have hn := HN.out.re hk
  clear HN
  have hr := (R.at_ _ _ _ hn.rep).r.ring
  have HN := Lib.hid hn
  clear hn
  go_quiet (first | (go_at_call 18; exact quietS (slot_yes _ _ rn _ q _ hr hrn h2 h0 h1)) | (go_at_call 19; exact quietS (lap_yes _ _ rn _ q _ hr hrn h2 h0 h1)))
  refine hK _ _ (fun _ => rfl) ?_
  clear hK K hr
  have hn := HN.out.drewN hk nq
  generalize World.drewN _ nq = y' at hn ⊢
  clear HN
  have HN := Lib.hid hn
  clear hn
  refine Lg.move _ (fun _ _ => step_seq) (fun h => h) ?_
  refine Lg.move _ (fun _ _ => step_region) (fun h => h) ?_
  refine Lg.pre 0 1 1 (by simp) fun K hK z τ n' hz => ?_
  subst hz
  go_wp2
  refine hK _ _ (fun _ => rfl) ?_
  clear hK K
  refine Lg.call (i := 1) (rest := []) (f := 40) (args := #[V]) rfl rfl (fun y => by go_simp) (hS _ _ _ _ _ _ (HN.out.re hk)) ?_
  rintro vv t' w' ⟨rfl, s, H, rfl, hn⟩
  clear HN
  rw [Frame.finish_at]
  walk_nrm
  refine Lg.move _ (fun _ _ => step_region_end) (fun h => h) ?_
  have HN := Lib.hid hn
  clear hn
  refine Lg.move _ (fun _ _ => step_seq) (fun h => h) ?_
  refine Lg.code fun K hK y τ n' hy => ?_
  subst hy
  have hn := HN.out.re hk
  clear HN
  have hat := R.at_ _ _ _ hn.rep
  have s0 := hat.r.stamp (q % (rn : Int)).toNat (by omega)
  have HN := Lib.hid hn
  clear hn hat
  go_wp2_with (go_at_call 39; refine (atomic_load _ _ _ s0).mono ?_; rintro e w' ⟨rfl, rfl⟩)
  refine hK _ _ (fun _ => rfl) ?_
  clear hK K s0
  generalize hx : (l.get s.1).1 (q % (rn : Int)).toNat = x
  refine Lg.move _ (fun _ _ => step_seq) (fun h => h) ?_
  refine Lg.move _ (fun _ _ => step_block) (fun h => h) ?_
  refine Lg.move _ (fun _ _ => step_seq) (fun h => h) ?_
  refine Lg.code fun K hK y τ n' hy => ?_
  subst hy
  have hn := HN.out.re hk
  clear HN
  have HN := Lib.hid hn
  clear hn
  go_wp2
  refine hK _ _ (fun _ => rfl) ?_
  clear hK K
  by_cases hlt : x < 2 * (q / (rn : Int))
  · simp only [hlt, decide_true, if_true]
    refine Lg.move _ (fun _ _ => step_cond (t := true) rfl) (fun h => h) ?_
    refine Lg.move _ (fun _ _ => step_seq) (fun h => h) ?_
    refine Lg.code fun K hK y τ n' hy => ?_
    subst hy
    have hn := HN.out.re hk
    clear HN
    have HN := Lib.hid hn
    clear hn
    go_wp2
    refine hK _ _ (fun _ => rfl) ?_
    clear hK K
    refine Lg.move _ (fun _ _ => step_ret) (fun h => h) ?_
    refine Lg.leave rfl Try.func25 rfl (v := .tuple #[.int .i64 0, .int .i64 6]) (fun _ _ _ _ => by simp [results, Try.f25]) (HR.out _ _ _ ⟨_, _, _, H, rfl, rfl, HN.out⟩)
  simp only [hlt, decide_false, if_false]
  refine Lg.move _ (fun _ _ => step_cond (t := false) rfl) (fun h => h) ?_
  refine Lg.move _ (fun _ _ => step_seq) (fun h => h) ?_
  refine Lg.code fun K hK y τ n' hy => ?_
  subst hy
  have hn := HN.out.re hk
  clear HN
  have HN := Lib.hid hn
  clear hn
  go_wp2
  refine hK _ _ (fun _ => rfl) ?_
  clear hK K
  by_cases hgt : 2 * (q / (rn : Int)) < x
  · simp only [hgt, decide_true, if_true]
    refine Lg.move _ (fun _ _ => step_cond (t := true) rfl) (fun h => h) ?_
    refine Lg.move _ (fun _ _ => step_seq) (fun h => h) ?_
    refine Lg.code fun K hK y τ n' hy => ?_
    subst hy
    have hn := HN.out.re hk
    clear HN
    have HN := Lib.hid hn
    clear hn
    go_wp2
    refine hK _ _ (fun _ => rfl) ?_
    clear hK K
    refine Lg.move _ (fun _ _ => step_ret) (fun h => h) ?_
    refine Lg.leave rfl Try.func25 rfl (v := .tuple #[.int .i64 0, .int .i64 10]) (fun _ _ _ _ => by simp [results, Try.f25]) (HR.out _ _ _ ⟨_, _, _, H, rfl, rfl, HN.out⟩)
  simp only [hgt, decide_false, if_false]
  refine Lg.move _ (fun _ _ => step_cond (t := false) rfl) (fun h => h) ?_
  refine Lg.move _ (fun _ _ => step_skip) (fun h => h) ?_
  refine Lg.move _ (fun _ _ => step_inBlock) (fun h => h) ?_
  refine Lg.move _ (fun _ _ => step_seq) (fun h => h) ?_
  refine Lg.move _ (fun _ _ => step_region) (fun h => h) ?_
  refine Lg.pre 0 1 1 (by simp) fun K hK z τ n' hz => ?_
  subst hz
  go_wp2
  refine hK _ _ (fun _ => rfl) ?_
  clear hK K
  refine Lg.call (i := 1) (rest := []) (f := 40) (args := #[V]) rfl rfl (fun y => by go_simp) (hS _ _ _ _ _ _ (HN.out.re hk)) ?_
  rintro vv t' w' ⟨rfl, s, H, rfl, hn⟩
  clear HN
  rw [Frame.finish_at]
  walk_nrm
  refine Lg.move _ (fun _ _ => step_region_end) (fun h => h) ?_
  have HN := Lib.hid hn
  clear hn
  refine Lg.move _ (fun _ _ => step_seq) (fun h => h) ?_
  refine Lg.code fun K hK y τ n' hy => ?_
  subst hy
  have hn := HN.out.re hk
  clear HN
  have hat := R.at_ _ _ _ hn.rep
  have s0 := hat.r.value (q % (rn : Int)).toNat (by omega)
  have HN := Lib.hid hn
  clear hn hat
  go_wp2_with (go_at_call 39; refine (atomic_load _ _ _ s0).mono ?_; rintro e w' ⟨rfl, rfl⟩)
  refine hK _ _ (fun _ => rfl) ?_
  clear hK K s0
  refine Lg.move _ (fun _ _ => step_seq) (fun h => h) ?_
  refine Lg.move _ (fun _ _ => step_region) (fun h => h) ?_
  refine Lg.pre 0 1 1 (by simp) fun K hK z τ n' hz => ?_
  subst hz
  go_wp2
  refine hK _ _ (fun _ => rfl) ?_
  clear hK K
  refine Lg.call (i := 1) (rest := []) (f := 40) (args := #[V]) rfl rfl (fun y => by go_simp) (hS _ _ _ _ _ _ (HN.out.re hk)) ?_
  rintro vv t' w' ⟨rfl, s, H, rfl, hn⟩
  clear HN
  rw [Frame.finish_at]
  walk_nrm
  refine Lg.move _ (fun _ _ => step_region_end) (fun h => h) ?_
  have HN := Lib.hid hn
  clear hn
  refine Lg.move _ (fun _ _ => step_seq) (fun h => h) ?_
  refine Lg.move _ (fun _ _ => step_seq) (fun h => h) ?_
  refine Lg.code fun K hK y τ n' hy => ?_
  subst hy
  have hn := HN.out.re hk
  clear HN
  have hat := R.at_ _ _ _ hn.rep
  have s0 := hat.r.stamp (q % (rn : Int)).toNat (by omega)
  have HN := Lib.hid hn
  clear hn hat
  go_wp2_with (go_at_call 39; refine (atomic_load _ _ _ s0).mono ?_; rintro e w' ⟨rfl, rfl⟩)
  refine hK _ _ (fun _ => rfl) ?_
  clear hK K s0
  generalize (l.get s.1).1 (q % (rn : Int)).toNat = z
  by_cases hne : z = x
  · subst hne
    simp only [bne_self_eq_false, if_true]
    refine Lg.move _ (fun _ _ => step_cond (t := false) rfl) (fun h => h) ?_
    refine Lg.move _ (fun _ _ => step_skip) (fun h => h) ?_
    refine Lg.move _ (fun _ _ => step_seq) (fun h => h) ?_
    refine Lg.code fun K hK y τ n' hy => ?_
    subst hy
    have hn := HN.out.re hk
    clear HN
    have HN := Lib.hid hn
    clear hn
    go_wp2
    refine hK _ _ (fun _ => rfl) ?_
    clear hK K
    refine Lg.move _ (fun _ _ => step_ret) (fun h => h) ?_
    refine Lg.leave rfl Try.func25 rfl (v := .tuple #[_, .int .i64 0]) (fun _ _ _ _ => by simp [results, Try.f25]) (HR.out _ _ _ ⟨_, _, _, H, rfl, rfl, HN.out⟩)
  · have hb : (z != x) = true := by simpa using hne
    simp only [hb, if_neg hne]
    refine Lg.move _ (fun _ _ => step_cond (t := true) rfl) (fun h => h) ?_
    refine Lg.move _ (fun _ _ => step_seq) (fun h => h) ?_
    refine Lg.code fun K hK y τ n' hy => ?_
    subst hy
    have hn := HN.out.re hk
    clear HN
    have HN := Lib.hid hn
    clear hn
    go_wp2
    refine hK _ _ (fun _ => rfl) ?_
    clear hK K
    refine Lg.move _ (fun _ _ => step_ret) (fun h => h) ?_
    refine Lg.leave rfl Try.func25 rfl (v := .tuple #[.int .i64 0, .int .i64 10]) (fun _ _ _ _ => by simp [results, Try.f25]) (HR.out _ _ _ ⟨_, _, _, H, rfl, rfl, HN.out⟩)
end Go.Proofs.Yteainbnoemkfcaa
namespace Go.Proofs.Yteainbnoemkfcaa
open Go.RowKit Go.Turn Go.Tame Go.Conc
structure Own1 (D : OpsD) (w0 : World) (H : Nat → Prop) (w : World) (b : Nat) (t : TypeId) (cs : Array Value) : Prop where
  blk : Blk w b t cs
  nh : ¬ H b
  ge : w0.heap.size ≤ b
  nr : ¬ D.RB b
section
variable {D : OpsD} {Cap : (Nat → Prop) → World → Prop} {H0 H H' : Nat → Prop} {w0 w w' y : World} {s s' : D.St} {b b' : Nat} {t t' : TypeId} {cs cs' : Array Value}
theorem Now.rlt (h : Now D Cap H0 w0 s H w) (hb : D.RB b) : b < w.heap.size := by
  obtain ⟨c, t, r, hv⟩ := D.rbc b hb
  obtain ⟨r', k⟩ := h.rep.rb b c t r hb hv
  exact lt_of_some k
theorem Now.alloc (h : Now D Cap H0 w0 s H w) (o : Obj) : Now D Cap H0 w0 s H (w.alloc o) := ⟨h.rep.alloc o, h.cap0, h.held.trans (Held.alloc H w o)⟩
theorem Now.own (h : Now D Cap H0 w0 s H w) (t : TypeId) (cs : Array Value) : Own1 D w0 H (w.alloc (.cells cs t)) w.heap.size t cs :=
  ⟨Blk.new w t cs, fun z => Nat.lt_irrefl _ (h.rep.lt z), h.held.size, fun z => Nat.lt_irrefl _ (h.rlt z)⟩
theorem Own1.alloc (h : Own1 D w0 H w b t cs) (o : Obj) : Own1 D w0 H (w.alloc o) b t cs := ⟨h.blk.alloc o, h.nh, h.ge, h.nr⟩
theorem Own1.set_ (h : Own1 D w0 H w b t cs) (i : Nat) (u : Value) : Own1 D w0 H (w.setCell ⟨b, i, none⟩ u) b t (cs.setIfInBounds i u) := ⟨h.blk.set_ i u, h.nh, h.ge, h.nr⟩
theorem Own1.far (h : Own1 D w0 H w b t cs) (hb : b ≠ b') (i : Nat) (u : Value) : Own1 D w0 H (w.setCell ⟨b', i, none⟩ u) b t cs := ⟨h.blk.far hb u, h.nh, h.ge, h.nr⟩
theorem Own1.held (h : Own1 D w0 H w b t cs) (hh : Held H w H' w') : Own1 D w0 H' w' b t cs := by
  obtain ⟨h1, h2⟩ := hh.block b cs t (0, 0) h.blk h.nh (.inl (by decide))
  exact ⟨h1, h2, h.ge, h.nr⟩
theorem Own1.re {τ : Nat → Question → Nat} {n : Nat} (h : Own1 D w0 H (y.re τ n) b t cs) : Own1 D w0 H y b t cs := ⟨h.blk, h.nh, h.ge, h.nr⟩
theorem Now.set_ (h : Now D Cap H0 w0 s H w) (ho : Own1 D w0 H w b t cs) (i : Nat) (u : Value) : Now D Cap H0 w0 s H (w.setCell ⟨b, i, none⟩ u) :=
  ⟨h.rep.set_ (p := ⟨b, i, none⟩) ho.nh ho.nr u, h.cap0, held_set h.held ho.ge u⟩
theorem Now.here (hk : CapK Cap) (h : Now D Cap H0 w0 s H w) : Now D Cap H w s H w := ⟨h.rep, hk _ _ _ _ h.cap0 h.held, Held.refl _ _⟩
theorem Now.on (h : Now D Cap H0 w0 s H w) (h' : Now D Cap H w s' H' w') : Now D Cap H0 w0 s' H' w' := ⟨h'.rep, h.cap0, h.held.trans h'.held⟩
theorem Now.kept (h : Now D Cap H0 w0 s H w) (hk : Kept (fun _ => False) w w') : Now D Cap H0 w0 s H w' :=
  ⟨RepO.law D s H w w' h.rep (fun b hb => hk.block b (h.rep.lt hb) id) fun b c t r _ hb => ⟨r, (hk.block b (lt_of_some hb) id).trans hb⟩, h.cap0, h.held.trans ⟨hk.size, fun b c t r hb hn _ => ⟨(hk.block b (lt_of_some hb) id).trans hb, hn⟩⟩⟩
theorem Own1.kept (h : Own1 D w0 H w b t cs) (hk : Kept (fun _ => False) w w') : Own1 D w0 H w' b t cs := ⟨(hk.block b h.blk.lt id).trans h.blk, h.nh, h.ge, h.nr⟩
end
theorem told_any (e : Int) (w : World) : Calls Try.prog 43 #[.int .i64 e] w fun x w' => x = .returned (.agg #[.bool (e == 0), .int .i64 e, .slice none 0 0]) ∧ Kept (fun _ => False) w w' := by
  go_enter Try.func43, Try.ntmps43
  go_wp2
  try simp only [Exit.inBlock, Exit.then]
  refine bodyPost_ret (v := .agg #[.bool (e == 0), .int .i64 e, .slice none 0 0]) ?_ rfl ?_
  · simp [results, Try.f43, go_sem]
  exact ⟨rfl, Kept.alloc _ _⟩
def doR (B : OpsB) (rb sb rn : Nat) (good : OpI → Prop) : (B.ring rb sb rn good).DoT := fun o st k =>
  if o.kind = 1 then putT idL rn o.a o.b st fun s => k ⟨true, 0, []⟩ s else if o.kind = 2 then getT idL rn o.a st fun x e s => k ⟨e == 0, wrap64 (e + x), []⟩ s else .cut
def PG (o : OpI) : Prop := (o.kind = 1 ∨ o.kind = 2) ∧ 0 ≤ o.a ∧ o.a < 4611686018427387904
theorem own_nil (w : World) (base : Nat) (t : TypeId) (size : Nat) : w.ownsRow base t size (.slice none 0 0) 0 [] := ⟨by simp, .inl ⟨rfl, rfl⟩⟩
set_option maxHeartbeats 4000000 in
set_option maxRecDepth 100000 in
theorem ring_do (B : OpsB) (rb sb rn : Nat) (hrn : 0 < rn) (h2 : rn ≤ 65536) (i : Nat) : DoLaw (B.ring rb sb rn PG) i (doR B rb sb rn PG) 32 #[.pointer (some ⟨rb, 0, none⟩)] #[] := by
  intro tb L Cap hre hk hst o st H k w hgood hrep hcap
  have hS := slots_sstep hre hk hst
  have hn : Now (B.ring rb sb rn PG) Cap H w st H w := ⟨hrep, hcap, Held.refl _ _⟩
  generalize (Value.iface 116 (.pointer (some ⟨tb, 0, none⟩))) = V at hS ⊢
  suffices hmain : ∀ w0 H0, w0.heap.size = w.heap.size → Now (B.ring rb sb rn PG) Cap H0 w0 st H w → Ccalls L 32 #[.pointer (some ⟨rb, 0, none⟩), V, .int .i64 i, o.val] (doR B rb sb rn PG o st k) w fun v t' w' => ∃ a st' H' lv, t' = k a st' ∧ v = .agg #[.bool a.ok, .int .i64 a.n, lv] ∧ RepO (B.ring rb sb rn PG) st' H' w' ∧ Held H0 w0 H' w' ∧ w'.ownsRow w0.heap.size 2 1 lv a.ls.length (a.ls.map (Value.int .i64)) ∧ ∀ b, lv.ownBlock = some b → ¬ H' b from hmain w H rfl hn
  clear hrep hcap hn
  intro w0 H0 hsz hn c mid hR
  clear hsz
  have HR := Lib.hid hR
  have HN := Lib.hid hn
  clear hR hn
  obtain ⟨hkind, ha0, ha1⟩ := hgood
  obtain ⟨kd, oa, ob, oc⟩ := o
  rw [show Frame.enter Try.prog 32 #[.pointer (some ⟨rb, 0, none⟩), V, .int .i64 i, OpI.val ⟨kd, oa, ob, oc⟩] .normal = Frame.at { (default : Frame) with fn := 32, kind := .normal } ⟨#[.pointer (some ⟨rb, 0, none⟩), V, .int .i64 i, .agg #[.int .i64 kd, .int .i64 oa, .int .i64 ob, .int .i64 oc]] ++ Array.replicate (Try.f32.ntmps - 4) undef, []⟩ [.code (Try.f32.body.getD .skip)] from by simp [Frame.enter, Frame.at, Try.func32]; exact ⟨rfl, rfl⟩]
  simp only [Try.f32, Option.getD_some, Nat.reduceSub, Array.replicate_succ, Array.replicate_zero, List.push_toArray, List.append_toArray, List.nil_append, List.cons_append]
  refine Lg.move _ (fun _ _ => step_seq) (fun h => h) ?_
  refine Lg.code fun K hK y τ n' hy => ?_
  subst hy
  have hn := HN.out.re hk
  clear HN
  have HN := Lib.hid hn
  clear hn
  go_wp2
  refine hK _ _ (fun _ => rfl) ?_
  clear hK K
  have hb7 := (HN.out.own 49 #[.int .i64 kd, .int .i64 oa, .int .i64 ob, .int .i64 oc]).alloc (.cells #[.bool false, .int .i64 0, .slice none 0 0] 46)
  have hb8 := (HN.out.alloc (.cells #[.int .i64 kd, .int .i64 oa, .int .i64 ob, .int .i64 oc] 49)).own 46 #[.bool false, .int .i64 0, .slice none 0 0]
  have hn := (HN.out.alloc (.cells #[.int .i64 kd, .int .i64 oa, .int .i64 ob, .int .i64 oc] 49)).alloc (.cells #[.bool false, .int .i64 0, .slice none 0 0] 46)
  rw [show (y.alloc (.cells #[.int .i64 kd, .int .i64 oa, .int .i64 ob, .int .i64 oc] 49)).heap.size = y.heap.size + 1 from by simp] at hb8
  clear HN
  generalize (y.alloc (.cells #[.int .i64 kd, .int .i64 oa, .int .i64 ob, .int .i64 oc] 49)).alloc (.cells #[.bool false, .int .i64 0, .slice none 0 0] 46) = z at hn hb7 hb8 ⊢
  have hne : y.heap.size ≠ y.heap.size + 1 := by omega
  generalize y.heap.size + 1 = b8 at hb8 hne ⊢
  generalize y.heap.size = b7 at hb7 hne ⊢
  have HN := Lib.hid hn
  have HB7 := Lib.hid hb7
  have HB8 := Lib.hid hb8
  clear hn hb7 hb8
  refine Lg.move _ (fun _ _ => step_seq) (fun h => h) ?_
  refine Lg.code fun K hK y τ n' hy => ?_
  subst hy
  have hn := HN.out.re hk
  have hb7 := HB7.out.re
  have hb8 := HB8.out.re
  clear HN HB7 HB8
  have HN := Lib.hid hn
  have HB7 := Lib.hid hb7
  have HB8 := Lib.hid hb8
  clear hn hb7 hb8
  go_wp2
  refine hK _ _ (fun _ => rfl) ?_
  clear hK K
  refine Lg.move _ (fun _ _ => step_seq) (fun h => h) ?_
  refine Lg.move _ (fun _ _ => step_seq) (fun h => h) ?_
  refine Lg.code fun K hK y τ n' hy => ?_
  subst hy
  have hn := HN.out.re hk
  have hb7 := HB7.out.re
  have hb8 := HB8.out.re
  clear HN HB7 HB8
  have o0 := hb7.blk.cell 0
  have HN := Lib.hid hn
  have HB7 := Lib.hid hb7
  have HB8 := Lib.hid hb8
  clear hn hb7 hb8
  go_wp2
  refine hK _ _ (fun _ => rfl) ?_
  clear hK K o0
  refine Lg.move _ (fun _ _ => step_block) (fun h => h) ?_
  rcases hkind with rfl | rfl
  · refine Lg.move _ (fun _ _ => step_seq) (fun h => h) ?_
    refine Lg.code fun K hK y τ n' hy => ?_
    subst hy
    have hn := HN.out.re hk
    have hb7 := HB7.out.re
    have hb8 := HB8.out.re
    clear HN HB7 HB8
    have HN := Lib.hid hn
    have HB7 := Lib.hid hb7
    have HB8 := Lib.hid hb8
    clear hn hb7 hb8
    go_wp2
    refine hK _ _ (fun _ => rfl) ?_
    clear hK K
    refine Lg.move _ (fun _ _ => step_cond (t := true) rfl) (fun h => h) ?_
    refine Lg.move _ (fun _ _ => step_seq) (fun h => h) ?_
    refine Lg.move _ (fun _ _ => step_region) (fun h => h) ?_
    refine Lg.pre 0 6 3 (by simp) fun K hK z τ n' hz => ?_
    subst hz
    have hn := HN.out.re hk
    have hb7 := HB7.out.re
    have hb8 := HB8.out.re
    clear HN HB7 HB8
    have o1 := hb7.blk.cell 1
    have o2 := hb7.blk.cell 2
    have HN := Lib.hid hn
    have HB7 := Lib.hid hb7
    have HB8 := Lib.hid hb8
    clear hn hb7 hb8
    simp only [List.drop_zero, List.take_succ_cons, List.take_zero]
    go_wp2
    refine hK _ _ (fun _ => rfl) ?_
    clear hK K o1 o2
    rw [show doR B rb sb rn PG ⟨1, oa, ob, oc⟩ st k = putT idL rn oa ob st fun s => k ⟨true, 0, []⟩ s from if_pos rfl]
    refine Lg.call (i := 6) (rest := [7, 8]) (f := 23) (args := #[.pointer (some ⟨rb, 0, none⟩), V, .int .i64 oa, .int .i64 ob]) rfl rfl (fun y => by go_simp) (slots_put (ring_in B rb sb rn PG) hk hS hrn h2 oa ob ha0 ha1 H z st H _ z (HN.out.here hk)) ?_
    rintro vv t' w' ⟨rfl, s', H', rfl, hn'⟩
    rw [Frame.finish_at]
    walk_nrm
    have hb7 := HB7.out.held hn'.held
    have hb8 := HB8.out.held hn'.held
    have hn := HN.out.on hn'
    clear HN HB7 HB8 hn'
    have HN := Lib.hid hn
    have HB7 := Lib.hid hb7
    have HB8 := Lib.hid hb8
    clear hn hb7 hb8
    refine (show L.T _ (Frame.at _ ⟨_, []⟩ (.inRegion _ (List.range' 7 (2 + 0)) :: _)) (c :: mid) w' from ?_)
    refine Lg.pre 7 2 0 (by simp) fun K hK z τ n' hz => ?_
    subst hz
    have hn := HN.out.re hk
    have hb7 := HB7.out.re
    have hb8 := HB8.out.re
    clear HN HB7 HB8
    have HN := Lib.hid hn
    have HB7 := Lib.hid hb7
    have HB8 := Lib.hid hb8
    clear hn hb7 hb8
    simp only [List.drop_succ_cons, List.drop_zero, List.take_succ_cons, List.take_zero]
    go_wp2_with (go_at_call 43; refine (told_any 0 _).mono ?_; rintro e w' ⟨rfl, hkept⟩; have hn := HN.out.kept hkept; have hb8 := HB8.out.kept hkept; have z0 := hb8.blk.frozen 0; have z1 := hb8.blk.frozen 1; have z2 := hb8.blk.frozen 2; have o0 := hb8.blk.cell 0; have o1 := hb8.blk.cell 1; have o2 := hb8.blk.cell 2; simp at o0 o1 o2)
    refine hK _ _ (fun _ => rfl) ?_
    clear hK K
    clear HN HB7 HB8 o0 o1 o2 z0 z1 z2
    have hbb := ((hb8.set_ 0 (.bool (true))).set_ 1 (.int .i64 (0))).set_ 2 (.slice none 0 0)
    have hnn := ((hn.set_ hb8 0 (.bool (true))).set_ (hb8.set_ 0 (.bool (true))) 1 (.int .i64 (0))).set_ ((hb8.set_ 0 (.bool (true))).set_ 1 (.int .i64 (0))) 2 (.slice none 0 0)
    simp only [List.setIfInBounds_toArray, List.set_cons_zero, List.set_cons_succ] at hbb
    generalize World.setCell _ _ _ = w6 at hbb hnn ⊢
    clear hn hb8
    refine Lg.move _ (fun _ _ => step_region_end) (fun h => h) ?_
    refine Lg.move _ (fun _ _ => step_ret) (fun h => h) ?_
    refine Lg.leave rfl Try.func32 rfl (v := .agg #[.bool (true), .int .i64 (0), .slice none 0 0]) (fun y τ n hy => ?_) (HR.out _ _ _ ⟨⟨true, 0, []⟩, _, _, _, rfl, rfl, hnn.rep, hnn.held, own_nil _ _ _ _, fun b hb => by simp [Value.ownBlock] at hb⟩)
    have c0 : y.cell? ⟨b8, 0, none⟩ = some (.bool (true)) := by have := hbb.blk.cell 0; rw [hy] at this; exact this
    have c1 : y.cell? ⟨b8, 1, none⟩ = some (.int .i64 (0)) := by have := hbb.blk.cell 1; rw [hy] at this; exact this
    have c2 : y.cell? ⟨b8, 2, none⟩ = some (.slice none 0 0) := by have := hbb.blk.cell 2; rw [hy] at this; exact this
    simp [results, Try.f32, go_sem, c0, c1, c2]
  · refine Lg.move _ (fun _ _ => step_seq) (fun h => h) ?_
    refine Lg.code fun K hK y τ n' hy => ?_
    subst hy
    have hn := HN.out.re hk
    have hb7 := HB7.out.re
    have hb8 := HB8.out.re
    clear HN HB7 HB8
    have HN := Lib.hid hn
    have HB7 := Lib.hid hb7
    have HB8 := Lib.hid hb8
    clear hn hb7 hb8
    go_wp2
    refine hK _ _ (fun _ => rfl) ?_
    clear hK K
    refine Lg.move _ (fun _ _ => step_cond (t := false) rfl) (fun h => h) ?_
    refine Lg.move _ (fun _ _ => step_seq) (fun h => h) ?_
    refine Lg.code fun K hK y τ n' hy => ?_
    subst hy
    have hn := HN.out.re hk
    have hb7 := HB7.out.re
    have hb8 := HB8.out.re
    clear HN HB7 HB8
    have HN := Lib.hid hn
    have HB7 := Lib.hid hb7
    have HB8 := Lib.hid hb8
    clear hn hb7 hb8
    go_wp2
    refine hK _ _ (fun _ => rfl) ?_
    clear hK K
    refine Lg.move _ (fun _ _ => step_cond (t := true) rfl) (fun h => h) ?_
    refine Lg.move _ (fun _ _ => step_seq) (fun h => h) ?_
    refine Lg.move _ (fun _ _ => step_region) (fun h => h) ?_
    refine Lg.pre 0 4 6 (by simp) fun K hK z τ n' hz => ?_
    subst hz
    have hn := HN.out.re hk
    have hb7 := HB7.out.re
    have hb8 := HB8.out.re
    clear HN HB7 HB8
    have o1 := hb7.blk.cell 1
    have HN := Lib.hid hn
    have HB7 := Lib.hid hb7
    have HB8 := Lib.hid hb8
    clear hn hb7 hb8
    simp only [List.drop_zero, List.take_succ_cons, List.take_zero]
    go_wp2
    refine hK _ _ (fun _ => rfl) ?_
    clear hK K o1
    rw [show doR B rb sb rn PG ⟨2, oa, ob, oc⟩ st k = getT idL rn oa st fun x e s => k ⟨e == 0, wrap64 (e + x), []⟩ s from (if_neg (show ¬ (2 : Int) = 1 by decide)).trans (if_pos rfl)]
    refine Lg.call (i := 4) (rest := [5, 6, 7, 8, 9]) (f := 25) (args := #[.pointer (some ⟨rb, 0, none⟩), V, .int .i64 oa]) rfl rfl (fun y => by go_simp) (slots_get (ring_in B rb sb rn PG) hk hS hrn h2 oa ha0 ha1 H z st H _ z (HN.out.here hk)) ?_
    rintro vv t' w' ⟨x, e, s', H', rfl, rfl, hn'⟩
    rw [Frame.finish_at]
    walk_nrm
    have hb7 := HB7.out.held hn'.held
    have hb8 := HB8.out.held hn'.held
    have hn := HN.out.on hn'
    clear HN HB7 HB8 hn'
    have HN := Lib.hid hn
    have HB7 := Lib.hid hb7
    have HB8 := Lib.hid hb8
    clear hn hb7 hb8
    refine (show L.T _ (Frame.at _ ⟨_, []⟩ (.inRegion _ (List.range' 5 (5 + 0)) :: _)) (c :: mid) w' from ?_)
    refine Lg.pre 5 5 0 (by simp) fun K hK z τ n' hz => ?_
    subst hz
    have hn := HN.out.re hk
    have hb7 := HB7.out.re
    have hb8 := HB8.out.re
    clear HN HB7 HB8
    have HN := Lib.hid hn
    have HB7 := Lib.hid hb7
    have HB8 := Lib.hid hb8
    clear hn hb7 hb8
    simp only [List.drop_succ_cons, List.drop_zero, List.take_succ_cons, List.take_zero]
    go_wp2
    refine hK _ _ (fun _ => rfl) ?_
    clear hK K
    refine Lg.move _ (fun _ _ => step_region_end) (fun h => h) ?_
    refine Lg.move _ (fun _ _ => step_seq) (fun h => h) ?_
    refine Lg.code fun K hK y τ n' hy => ?_
    subst hy
    have hn := HN.out.re hk
    have hb7 := HB7.out.re
    have hb8 := HB8.out.re
    clear HN HB7 HB8
    have HN := Lib.hid hn
    have HB7 := Lib.hid hb7
    have HB8 := Lib.hid hb8
    clear hn hb7 hb8
    go_wp2_with (go_at_call 43; refine (told_any e _).mono ?_; rintro e' w' ⟨rfl, hkept⟩)
    refine hK _ _ (fun _ => rfl) ?_
    clear hK K
    have hn0 := HN.out.kept hkept
    have hb80 := HB8.out.kept hkept
    have hne2 : b8 ≠ w'.heap.size := fun h => by have := hb80.blk.lt; omega
    have hb7 := hn0.own 46 #[.bool (e == 0), .int .i64 e, .slice none 0 0]
    have hb8 := hb80.alloc (.cells #[.bool (e == 0), .int .i64 e, .slice none 0 0] 46)
    have hn := hn0.alloc (.cells #[.bool (e == 0), .int .i64 e, .slice none 0 0] 46)
    clear hn0 hb80 HN HB7 HB8 hkept hne
    generalize w'.alloc (.cells #[.bool (e == 0), .int .i64 e, .slice none 0 0] 46) = v at hn hb7 hb8 ⊢
    generalize w'.heap.size = b7' at hb7 hne2 ⊢
    have HN := Lib.hid hn
    have HB7 := Lib.hid hb7
    have HB8 := Lib.hid hb8
    clear hn hb7 hb8
    refine Lg.move _ (fun _ _ => step_seq) (fun h => h) ?_
    refine Lg.code fun K hK y τ n' hy => ?_
    subst hy
    have hn := HN.out.re hk
    have hb7 := HB7.out.re
    have hb8 := HB8.out.re
    clear HN HB7 HB8
    have o1 := hb7.blk.cell 1
    have z1 := hb7.blk.frozen 1
    have HN := Lib.hid hn
    have HB7 := Lib.hid hb7
    have HB8 := Lib.hid hb8
    clear hn hb7 hb8
    go_wp2
    refine hK _ _ (fun _ => rfl) ?_
    clear hK K o1 z1
    have hn := HN.out.set_ HB7.out 1 (.int .i64 (wrap64 (e + x)))
    have hb8 := HB8.out.far hne2 1 (.int .i64 (wrap64 (e + x)))
    have hb7 := HB7.out.set_ 1 (.int .i64 (wrap64 (e + x)))
    simp only [List.setIfInBounds_toArray, List.set_cons_zero, List.set_cons_succ] at hb7
    clear HN HB7 HB8
    generalize World.setCell _ _ _ = y' at hn hb7 hb8 ⊢
    have HN := Lib.hid hn
    have HB7 := Lib.hid hb7
    have HB8 := Lib.hid hb8
    clear hn hb7 hb8
    refine Lg.move _ (fun _ _ => step_seq) (fun h => h) ?_
    refine Lg.move _ (fun _ _ => step_region) (fun h => h) ?_
    refine Lg.pre 0 2 0 (by simp) fun K hK y τ n' hy => ?_
    subst hy
    have hn := HN.out.re hk
    have hb7 := HB7.out.re
    have hb8 := HB8.out.re
    clear HN HB7 HB8
    have p0 := hb7.blk.cell 0
    have p1 := hb7.blk.cell 1
    have p2 := hb7.blk.cell 2
    have o0 := hb8.blk.cell 0
    have o1 := hb8.blk.cell 1
    have o2 := hb8.blk.cell 2
    have z0 := hb8.blk.frozen 0
    have z1 := hb8.blk.frozen 1
    have z2 := hb8.blk.frozen 2
    simp at p0 p1 p2 o0 o1 o2
    simp only [List.drop_zero, List.take_succ_cons, List.take_zero]
    have HN := Lib.hid hn
    have HB8 := Lib.hid hb8
    clear hn hb7 hb8
    go_wp2
    refine hK _ _ (fun _ => rfl) ?_
    clear hK K o0 o1 o2 z0 z1 z2 p0 p1 p2
    have hn := HN.out
    have hb8 := HB8.out
    clear HN HB8
    have hbb := ((hb8.set_ 0 (.bool (e == 0))).set_ 1 (.int .i64 (wrap64 (e + x)))).set_ 2 (.slice none 0 0)
    have hnn := ((hn.set_ hb8 0 (.bool (e == 0))).set_ (hb8.set_ 0 (.bool (e == 0))) 1 (.int .i64 (wrap64 (e + x)))).set_ ((hb8.set_ 0 (.bool (e == 0))).set_ 1 (.int .i64 (wrap64 (e + x)))) 2 (.slice none 0 0)
    simp only [List.setIfInBounds_toArray, List.set_cons_zero, List.set_cons_succ] at hbb
    generalize World.setCell _ _ _ = w6 at hbb hnn ⊢
    clear hn hb8
    refine Lg.move _ (fun _ _ => step_region_end) (fun h => h) ?_
    refine Lg.move _ (fun _ _ => step_ret) (fun h => h) ?_
    refine Lg.leave rfl Try.func32 rfl (v := .agg #[.bool (e == 0), .int .i64 (wrap64 (e + x)), .slice none 0 0]) (fun y τ n hy => ?_) (HR.out _ _ _ ⟨⟨e == 0, wrap64 (e + x), []⟩, _, _, _, rfl, rfl, hnn.rep, hnn.held, own_nil _ _ _ _, fun b hb => by simp [Value.ownBlock] at hb⟩)
    have c0 : y.cell? ⟨b8, 0, none⟩ = some (.bool (e == 0)) := by have := hbb.blk.cell 0; rw [hy] at this; exact this
    have c1 : y.cell? ⟨b8, 1, none⟩ = some (.int .i64 (wrap64 (e + x))) := by have := hbb.blk.cell 1; rw [hy] at this; exact this
    have c2 : y.cell? ⟨b8, 2, none⟩ = some (.slice none 0 0) := by have := hbb.blk.cell 2; rw [hy] at this; exact this
    simp [results, Try.f32, go_sem, c0, c1, c2]
end Go.Proofs.Yteainbnoemkfcaa
namespace Go.Proofs.Yteainbnoemkfcaa
open Go.RowKit Go.Turn Go.Tame Go.Conc
theorem okt_ite {D : OpsD} {i : Nat} {σ : D.St} {c : Prop} [Decidable c] {t u : Tree D.St D.St} (h1 : OKt D i t σ) (h2 : OKt D i u σ) : OKt D i (if c then t else u) σ := by
  split
  · exact h1
  · exact h2
theorem doR_ok (B : OpsB) (rb sb rn : Nat) (i : Nat) : DoOk (B.ring rb sb rn PG) i (doR B rb sb rn PG) := by
  intro o hg σ k hk
  have key : ∀ t, doR B rb sb rn PG o σ k = t → OKt (B.ring rb sb rn PG) i t σ → OKt (B.ring rb sb rn PG) i (doR B rb sb rn PG o σ k) σ := fun t e h => by rw [e]; exact h
  obtain ⟨hk1 | hk2, _⟩ := hg
  · refine key _ (if_pos hk1) ⟨fun _ _ => rfl, fun σ1 h1 => ⟨fun _ _ => rfl, fun σ2 h2 => ⟨fun _ _ => rfl, fun σ3 h3 => ?_⟩⟩⟩
    exact OKt.congr (hk ⟨true, 0, []⟩ ((upd σ3.1.1 (o.a % rn).toNat (2 * (o.a / rn)), σ3.1.2), σ3.2) (h3.trans (h2.trans h1))) (fun _ _ => rfl)
  · refine key _ ((if_neg (fun e => by rw [e] at hk2; cases hk2)).trans (if_pos hk2)) ⟨fun _ _ => rfl, fun σ1 h1 => ?_⟩
    have hk0 : ∀ a (σ' : (B.ring rb sb rn PG).St), σ'.2 i = σ.2 i → OKt (B.ring rb sb rn PG) i (k a σ') σ' := hk
    refine okt_ite (D := B.ring rb sb rn PG) (hk0 _ _ h1) (okt_ite (D := B.ring rb sb rn PG) (hk0 _ _ h1) ?_)
    refine ⟨fun _ _ => rfl, fun σ2 h2 => ⟨fun _ _ => rfl, fun σ3 h3 => ?_⟩⟩
    exact okt_ite (D := B.ring rb sb rn PG) (hk0 _ _ (h3.trans (h2.trans h1))) (hk0 _ _ (h3.trans (h2.trans h1)))
abbrev RSt2 : Type := RSt × (Nat → List Ans)
def doR0 (rn : Nat) : OpI → RSt2 → (Ans → RSt2 → Tree RSt2 RSt2) → Tree RSt2 RSt2 := fun o st k =>
  if o.kind = 1 then putT idL rn o.a o.b st fun s => k ⟨true, 0, []⟩ s else if o.kind = 2 then getT idL rn o.a st fun x e s => k ⟨e == 0, wrap64 (e + x), []⟩ s else .cut
theorem do_enters (args : Array Value) (w : World) : (callFunc 32 args).run Try.prog w = .ok (.enter 32 args) w := by kernel_rfl
end Go.Proofs.Yteainbnoemkfcaa
namespace Go.Proofs.Yteainbnoemkfcaa
open Go.RowKit
theorem Try.info64 : (Try.prog.info? 2).map (fun i => (i.zero, i.size, i.bytes)) = some (some (.int .i64 0), 1, 8) := by kernel_rfl
def rowN (f : Nat → Int) (k : Nat) : List Int := (List.range k).map f
theorem rowN_succ (f : Nat → Int) (k : Nat) : rowN f (k + 1) = rowN f k ++ [f k] := by simp [rowN, List.range_succ]
def NumsRow (w0 : World) (n : Nat) (xs : List Int) (e : Ending) (w' : World) : Prop := ∃ v, e = .returned v ∧ w'.ownsRow w0.heap.size 2 1 v n (xs.map (Value.int .i64)) ∧ Below w0.heap.size w0 w'
theorem cell_new1 (w : World) (v : Value) (t : TypeId) : ∀ j u, [v][j]? = some u → (w.alloc (.cells #[v] t)).cell? ((⟨w.heap.size, 0, none⟩ : Addr).add j) = some u := by
  intro j u h
  cases j with
  | zero =>
    simp only [List.getElem?_cons_zero, Option.some.injEq] at h
    subst h
    exact (Blk.new w t #[v]).cell 0
  | succ j => simp at h
theorem stamps_ok (w : World) (rb sb n : Nat) (st va : Nat → Int) (H : RingAt w rb sb n st va) : Calls Try.prog 21 #[.pointer (some ⟨rb, 0, none⟩)] w (NumsRow w n (rowN st n)) := by
  have hn := H.pos
  have h2 := H.most
  have hr := H.ring
  have HH := Lib.hid H
  obtain ⟨i0, hi0, hz0, hz1, hz2⟩ := info_parts Try.info64
  clear H
  go_enter Try.func21, Try.ntmps21
  go_wp2_with (go_at_call 14; refine (size_ring _ _ n _ _ hr).mono ?_; rintro e w' ⟨rfl, rfl⟩)
  clear hr
  go_loopw [3, 7] (fun o i wr => ∃ j : Nat, j ≤ n ∧ i = .int .i64 j ∧ wr.ownsRow w.heap.size 2 1 o j ((rowN st j).map (Value.int .i64)) ∧ Below w.heap.size w wr) (fun _ i _ => n - (intOf i).toNat)
  case atStart => exact ⟨0, Nat.zero_le _, rfl, ⟨by simp [rowN], .inl ⟨rfl, rfl⟩⟩, Below.refl _ _⟩
  case round =>
    obtain ⟨j, hj, rfl, hown, hb⟩ := hrel
    obtain ⟨A, cap, rfl⟩ := own_slice hown
    have HO := Lib.hid hown
    have HR := Lib.hid (HH.out.kept (Kept.of_below (S := fun _ => False) hb) id id)
    have d2 := HR.out.ring
    clear hown
    by_cases hlt : j < n
    · have hcell := HR.out.stamp j hlt
      have hb1 : w.heap.size ≤ wr.heap.size := hb.size
      go_wp2_with (first
        | (go_at_call 39; refine (atomic_load _ _ _ hcell).mono ?_; rintro e w' ⟨rfl, rfl⟩)
        | (at_builtin; refine wpList_append_own _ rfl _ _ 22 rfl w.heap.size 2 i0 (.int .i64 0) 1 8 Try.underlying22 hi0 hz0 hz1 hz2 rfl (by decide) _ _ _ rfl (HO.out.alloc _) ⟨wr.heap.size, 0, none⟩ 1 1 [.int .i64 (st j)] rfl rfl ?c1 ?c2 ?c3 ?c4 ?c5 ?_))
      case c1 => exact cell_new1 _ _ _
      case c2 => simp [Value.oneCell']
      case c3 => unfold maxLen; omega
      case c4 => omega
      case c5 => simp; omega
      intro v' w3 hown1 hg1 _
      have ho1 : w3.ownsRow w.heap.size 2 1 v' (j + 1) ((rowN st (j + 1)).map (Value.int .i64)) := by rw [rowN_succ, List.map_append]; exact hown1
      have hb3 : Below w.heap.size w w3 := (hb.alloc hb.size _).grown hg1 (by simp; omega) (fun k hk => (HO.out.lt k hk).1)
      have HO2 := Lib.hid (And.intro ho1 hb3)
      clear hown1 hg1 ho1 hb3
      go_wp2
      go_roundw
      case rel => exact ⟨j + 1, by omega, by go_num, HO2.out.1, HO2.out.2⟩
      case measure => simp [intOf]; omega
    · go_wp2
      go_ret
      have ej : j = n := by omega
      exact ⟨_, rfl, by rw [← ej]; exact HO.out, hb⟩
theorem values_ok (w : World) (rb sb n : Nat) (st va : Nat → Int) (H : RingAt w rb sb n st va) : Calls Try.prog 22 #[.pointer (some ⟨rb, 0, none⟩)] w (NumsRow w n (rowN va n)) := by
  have hn := H.pos
  have h2 := H.most
  have hr := H.ring
  have HH := Lib.hid H
  obtain ⟨i0, hi0, hz0, hz1, hz2⟩ := info_parts Try.info64
  clear H
  go_enter Try.func22, Try.ntmps22
  go_wp2_with (go_at_call 14; refine (size_ring _ _ n _ _ hr).mono ?_; rintro e w' ⟨rfl, rfl⟩)
  clear hr
  go_loopw [3, 7] (fun o i wr => ∃ j : Nat, j ≤ n ∧ i = .int .i64 j ∧ wr.ownsRow w.heap.size 2 1 o j ((rowN va j).map (Value.int .i64)) ∧ Below w.heap.size w wr) (fun _ i _ => n - (intOf i).toNat)
  case atStart => exact ⟨0, Nat.zero_le _, rfl, ⟨by simp [rowN], .inl ⟨rfl, rfl⟩⟩, Below.refl _ _⟩
  case round =>
    obtain ⟨j, hj, rfl, hown, hb⟩ := hrel
    obtain ⟨A, cap, rfl⟩ := own_slice hown
    have HO := Lib.hid hown
    have HR := Lib.hid (HH.out.kept (Kept.of_below (S := fun _ => False) hb) id id)
    have d2 := HR.out.ring
    clear hown
    by_cases hlt : j < n
    · have hcell := HR.out.value j hlt
      have hb1 : w.heap.size ≤ wr.heap.size := hb.size
      go_wp2_with (first
        | (go_at_call 39; refine (atomic_load _ _ _ hcell).mono ?_; rintro e w' ⟨rfl, rfl⟩)
        | (at_builtin; refine wpList_append_own _ rfl _ _ 22 rfl w.heap.size 2 i0 (.int .i64 0) 1 8 Try.underlying22 hi0 hz0 hz1 hz2 rfl (by decide) _ _ _ rfl (HO.out.alloc _) ⟨wr.heap.size, 0, none⟩ 1 1 [.int .i64 (va j)] rfl rfl ?c1 ?c2 ?c3 ?c4 ?c5 ?_))
      case c1 => exact cell_new1 _ _ _
      case c2 => simp [Value.oneCell']
      case c3 => unfold maxLen; omega
      case c4 => omega
      case c5 => simp; omega
      intro v' w3 hown1 hg1 _
      have ho1 : w3.ownsRow w.heap.size 2 1 v' (j + 1) ((rowN va (j + 1)).map (Value.int .i64)) := by rw [rowN_succ, List.map_append]; exact hown1
      have hb3 : Below w.heap.size w w3 := (hb.alloc hb.size _).grown hg1 (by simp; omega) (fun k hk => (HO.out.lt k hk).1)
      have HO2 := Lib.hid (And.intro ho1 hb3)
      clear hown1 hg1 ho1 hb3
      go_wp2
      go_roundw
      case rel => exact ⟨j + 1, by omega, by go_num, HO2.out.1, HO2.out.2⟩
      case measure => simp [intOf]; omega
    · go_wp2
      go_ret
      have ej : j = n := by omega
      exact ⟨_, rfl, by rw [← ej]; exact HO.out, hb⟩
theorem there_x (X : Stepper) (hs : X.Steps Try.prog 40) (t rb sb n : Nat) (st va : Nat → Int) (q : Int) (w : World) (H : RingAt w rb sb n st va) (h0 : 0 ≤ q) (h1 : q < 4611686018427387904) (A : X.at_ t w) (n1 : ¬ X.own rb) (n2 : ¬ X.own sb) :
    Calls Try.prog 26 #[.pointer (some ⟨rb, 0, none⟩), X.v, .int .i64 q] w fun e w' => e = .returned (.bool (st (q % n).toNat == 2 * (q / n))) ∧ Kept X.own w w' ∧ w'.heap.size = w.heap.size ∧ X.at_ (t + 1) w' := by
  have hn := H.pos
  have h2 := H.most
  have hr := H.ring
  have hb0 : 0 ≤ q % (n : Int) := Int.emod_nonneg _ (by omega)
  have hb1 : q % (n : Int) < n := Int.emod_lt_of_pos _ (by omega)
  have hd0 : 0 ≤ q / (n : Int) := Int.ediv_nonneg h0 (by omega)
  have hd1 : q / (n : Int) ≤ q := Int.ediv_le_self _ h0
  have HH := Lib.hid H
  have HN1 := Lib.hid n1
  have HN2 := Lib.hid n2
  clear H n1 n2
  go_enter Try.func26, Try.ntmps26
  go_wp2_with (go_at_call 38; refine (good_yes _ _ n _ q _ hr hn h0 h1).mono ?_; rintro e w' ⟨rfl, rfl⟩)
  go_wp2_with fail
  refine (hs t _ A).mono ?_
  rintro e w1 ⟨rfl, A1, K1, Z1⟩
  have H1 := HH.out.kept K1 HN1.out HN2.out
  have hr1 := H1.ring
  have hs1 := H1.stamp (q % (n : Int)).toNat (by omega)
  have HK := Lib.hid (And.intro K1 (And.intro Z1 A1))
  clear K1 Z1 A1 A hr H1
  go_wp2
  go_quiet (first | (go_at_call 18; exact quietS (slot_yes _ _ n _ q _ hr1 hn h2 h0 h1)) | (go_at_call 19; exact quietS (lap_yes _ _ n _ q _ hr1 hn h2 h0 h1)) | (go_at_call 39; exact quietS (atomic_load _ _ _ hs1)))
  go_wp2
  go_ret
  refine ⟨rfl, HK.out.1.trans (Kept.drewN _ _ nq), HK.out.2.1, X.keep HK.out.2.2 (Kept.drewN (fun _ => False) _ nq) (fun _ _ h => h)⟩
end Go.Proofs.Yteainbnoemkfcaa
namespace Go.Proofs.Yteainbnoemkfcaa
open Go.RowKit
def highR (st : Nat → Int) (n : Nat) : Nat → Int → Int × Nat
  | 0, q => (q - 1, 0)
  | k + 1, q => if st (q % n).toNat = 2 * (q / n) then ((highR st n k (q + 1)).1, (highR st n k (q + 1)).2 + 1) else (q - 1, 1)
def highN (n : Nat) (a b : Int) : Nat := (min (min b (a + n - 1)) 4611686018427387903 + 1 - a).toNat
set_option maxRecDepth 100000 in
theorem highest_x (X : Stepper) (hs : X.Steps Try.prog 40) (t rb sb n : Nat) (st va : Nat → Int) (a b : Int) (w : World) (H : RingAt w rb sb n st va) (h0 : 0 ≤ a) (h1 : a < 4611686018427387904) (hab : a ≤ b) (hb : b < 9223372036854775808) (A : X.at_ t w) (n1 : ¬ X.own rb) (n2 : ¬ X.own sb) :
    Calls Try.prog 27 #[.pointer (some ⟨rb, 0, none⟩), X.v, .int .i64 a, .int .i64 b] w fun e w' => e = .returned (.int .i64 (highR st n (highN n a b) a).1) ∧ Kept X.own w w' ∧ w'.heap.size = w.heap.size ∧ X.at_ (t + (highR st n (highN n a b) a).2) w' := by
  have hn := H.pos
  have h2 := H.most
  have hr := H.ring
  have HH := Lib.hid H
  have HN1 := Lib.hid n1
  have HN2 := Lib.hid n2
  have HA := Lib.hid A
  clear H n1 n2 A
  go_enter Try.func27, Try.ntmps27
  obtain ⟨Y, e1⟩ : ∃ Y, (if a + (n : Int) - 1 < b then a + (n : Int) - 1 else b) = Y := ⟨_, rfl⟩
  obtain ⟨M, e2⟩ : ∃ M, (if 4611686018427387903 < Y then 4611686018427387903 else Y) = M := ⟨_, rfl⟩
  obtain ⟨m0, m1, m2, m3⟩ : a - 1 ≤ M ∧ M ≤ 4611686018427387903 ∧ (M + 1 - a).toNat = highN n a b ∧ a ≤ M := by
    unfold highN
    rw [← e2, ← e1]
    split <;> split <;> omega
  generalize highN n a b = kk at m2 ⊢
  have hk := Lib.hid m2
  clear m2
  go_wp2_with (first | (go_at_call 38; refine (good_yes _ _ n _ a _ hr hn h0 h1).mono ?_; rintro e w' ⟨rfl, rfl⟩) | (go_at_call 14; refine (size_ring _ _ n _ _ hr).mono ?_; rintro e w' ⟨rfl, rfl⟩))
  clear e1 e2 hr hab hb
  have hk := hk.out
  go_loopw [10] (fun i wr => ∃ j : Nat, j ≤ kk ∧ i = .int .i64 (a + j) ∧ (highR st n kk a).1 = (highR st n (kk - j) (a + j)).1 ∧ (highR st n kk a).2 = (highR st n (kk - j) (a + j)).2 + j ∧ Kept X.own w wr ∧ wr.heap.size = w.heap.size ∧ X.at_ (t + j) wr) (fun i _ => kk - (intOf i - a).toNat)
  case atStart => exact ⟨0, Nat.zero_le _, by simp, by simp, by simp, Kept.refl _ _, rfl, HA.out⟩
  case round =>
    obtain ⟨j, hj, rfl, r1, r2, K1, Z1, A1⟩ := hrel
    have HK := Lib.hid (And.intro r1 (And.intro r2 (And.intro K1 (And.intro Z1 A1))))
    clear r1 r2 K1 Z1 A1
    by_cases hlt : j < kk
    · go_wp2_with fail
      refine (there_x X hs (t + j) rb sb n st va (a + j) wr (HH.out.kept HK.out.2.2.1 HN1.out HN2.out) (by omega) (by omega) HK.out.2.2.2.2 HN1.out HN2.out).mono ?_
      rintro e w1 ⟨rfl, K2, Z2, A2⟩
      obtain ⟨r1, r2, K1, Z1, A1⟩ := HK.out
      obtain ⟨k, hkk⟩ : ∃ k, kk - j = k + 1 := ⟨kk - j - 1, by omega⟩
      rw [hkk] at r1 r2
      simp only [highR] at r1 r2
      by_cases heq : st ((a + j) % (n : Int)).toNat = 2 * ((a + j) / (n : Int))
      · rw [if_pos heq] at r1 r2
        have hB : (st ((a + j) % (n : Int)).toNat == 2 * ((a + j) / (n : Int))) = true := by simpa using heq
        rw [hB]
        have HX := Lib.hid (And.intro r1 (And.intro r2 (And.intro (K1.trans K2) (And.intro (Z2.trans Z1) A2))))
        have Hk := Lib.hid hkk
        clear r1 r2 K1 Z1 A1 K2 Z2 A2 HK heq hB hkk
        go_wp2
        go_roundw
        case rel =>
          obtain ⟨x1, x2, x3, x4, x5⟩ := HX.out
          have hkk := Hk.out
          rw [show a + (j : Int) + 1 = a + ((j + 1 : Nat) : Int) from by omega, show k = kk - (j + 1) from by omega] at x1 x2
          exact ⟨j + 1, by omega, by go_num, x1, by omega, x3, x4, x5⟩
        case measure => simp [intOf]; omega
      · rw [if_neg heq] at r1 r2
        have hB : (st ((a + j) % (n : Int)).toNat == 2 * ((a + j) / (n : Int))) = false := by simpa using heq
        rw [hB]
        have HX := Lib.hid (And.intro r1 (And.intro r2 (And.intro (K1.trans K2) (And.intro (Z2.trans Z1) A2))))
        clear r1 r2 K1 Z1 A1 K2 Z2 A2 HK heq hB hkk
        go_wp2
        go_ret
        obtain ⟨x1, x2, x3, x4, x5⟩ := HX.out
        exact ⟨by rw [x1]; rfl, x3, x4, by rw [x2]; rw [show t + (1 + j) = t + j + 1 from by omega]; exact x5⟩
    · have ej : j = kk := by omega
      subst ej
      go_wp2
      go_ret
      obtain ⟨r1, r2, K1, Z1, A1⟩ := HK.out
      simp only [Nat.sub_self, highR] at r1 r2
      exact ⟨by rw [r1]; exact congrArg (fun z => Ending.returned (.int .i64 z)) (by omega), K1, Z1, by rw [r2]; simpa using A1⟩
end Go.Proofs.Yteainbnoemkfcaa
namespace Go.Proofs.Yteainbnoemkfcaa
open Go.RowKit
theorem row_cells {w : World} {base g cap n : Nat} {e : TypeId} {xs : List Value} (h : w.ownsRow base e 1 (.slice (some ⟨g, 0, none⟩) n cap) n xs) : ∀ j u, xs[j]? = some u → w.cell? ((⟨g, 0, none⟩ : Addr).add j) = some u := by
  intro j u hj
  have hl : xs.length = n := by simpa using h.1
  have hjl : j < xs.length := (List.getElem?_eq_some_iff.1 hj).1
  have hc := h.cellAt (g := g) j (by omega)
  have e0 : (⟨g, 0, none⟩ : Addr).add j = ⟨g, j, none⟩ := by unfold Addr.add; split <;> simp_all
  rw [e0, hc, hj]
theorem row_addr {w : World} {base : Nat} {e : TypeId} {size n cap : Nat} {A : Option Addr} {xs : List Value} (h : w.ownsRow base e size (.slice A n cap) n xs) (hn : 0 < n) : ∃ g, A = some ⟨g, 0, none⟩ ∧ base ≤ g ∧ g < w.heap.size := by
  rcases h.2 with ⟨e, _⟩ | ⟨g, cap', cur, e, hg, hh, _⟩
  · cases e; omega
  · cases e
    refine ⟨g, rfl, hg, ?_⟩
    rcases Nat.lt_or_ge g w.heap.size with hlt | hge
    · exact hlt
    · rw [Array.getElem?_eq_none hge] at hh; cases hh
theorem row_cap {w : World} {base n cap size : Nat} {A : Option Addr} {e : TypeId} {xs : List Value} (h : w.ownsRow base e size (.slice A n cap) n xs) : n ≤ cap := by
  rcases h.2 with ⟨e, _⟩ | ⟨g, cap', cur, e, hg, _, h1, _⟩
  · cases e; omega
  · cases e; exact h1
set_option maxRecDepth 100000 in
theorem state_ok (w : World) (rb sb n : Nat) (st va : Nat → Int) (H : RingAt w rb sb n st va) : Calls Try.prog 33 #[.pointer (some ⟨rb, 0, none⟩)] w (NumsRow w (n + n) (rowN st n ++ rowN va n)) := by
  have hn := H.pos
  have h2 := H.most
  have HH := Lib.hid H
  obtain ⟨i0, hi0, hz0, hz1, hz2⟩ := info_parts Try.info64
  clear H
  go_enter Try.func33, Try.ntmps33
  go_wp2_with fail
  refine (stamps_ok w rb sb n st va HH.out).mono ?_
  rintro e w1 ⟨v1, rfl, o1, B1⟩
  obtain ⟨A1, c1, rfl⟩ := own_slice o1
  have HO := Lib.hid (And.intro o1 B1)
  clear o1 B1
  go_wp2_with fail
  refine (values_ok w1 rb sb n st va (HH.out.kept (Kept.of_below (S := fun _ => False) HO.out.2) id id)).mono ?_
  rintro e w2 ⟨v2, rfl, o2, B2⟩
  obtain ⟨A2, c2, rfl⟩ := own_slice o2
  obtain ⟨o1, B1⟩ := HO.out
  clear HO
  have k1 := own_kept o1 (Kept.of_below (S := fun _ => False) B2) (fun _ _ h => h)
  have z1 := B1.size
  have z2 := B2.size
  obtain ⟨g2, rfl, hg2, hl2⟩ := row_addr o2 hn
  have B := B1.trans (B2.mono z1)
  have HO := Lib.hid (And.intro o2 B)
  have hc2 := row_cap o2
  clear o1 B1 B2 o2 B
  go_wp2_with (at_builtin; refine wpList_append_own _ rfl _ _ 22 rfl w.heap.size 2 i0 (.int .i64 0) 1 8 Try.underlying22 hi0 hz0 hz1 hz2 rfl (by decide) _ _ _ rfl k1 ⟨g2, 0, none⟩ n c2 ((rowN va n).map (Value.int .i64)) rfl (by simp [rowN]) ?c1 ?c2 ?c3 ?c4 ?c5 ?_)
  case c1 => exact row_cells HO.out.1
  case c2 => simp [Value.oneCell']
  case c3 => unfold maxLen; omega
  case c4 => omega
  case c5 => omega
  intro v3 w3 hown hgrow hl3
  have k4 : w3.ownsRow w.heap.size 2 1 v3 (n + n) ((rowN st n ++ rowN va n).map (Value.int .i64)) := by rw [List.map_append]; exact hown
  have hb3 := (HO.out.2).grown hgrow (by omega) (fun k hk => (k1.lt k hk).1)
  clear hown hgrow
  go_wp2
  go_ret
  exact ⟨_, rfl, k4, hb3⟩
end Go.Proofs.Yteainbnoemkfcaa
namespace Go.Proofs.Yteainbnoemkfcaa
open Go.RowKit
structure NumsIn (w : World) (A : Option Addr) (c : Nat) (xs : List Int) : Prop where
  le : xs.length ≤ c
  max : c ≤ maxLen
  cells : ∀ i, i < xs.length → ∃ b o, A = some ⟨b, o, none⟩ ∧ w.cell? ⟨b, o + i, none⟩ = some (.int .i64 (xs.getD i 0))
theorem NumsIn.kept {w w' : World} {A : Option Addr} {c : Nat} {xs : List Int} {Z : Nat → Prop} (h : NumsIn w A c xs) (hk : Kept Z w w') (hz : ∀ b, b < w.heap.size → ¬ Z b) : NumsIn w' A c xs :=
  ⟨h.le, h.max, fun i hi => by
    obtain ⟨b, o, h1, h2⟩ := h.cells i hi
    have hb : b < w.heap.size := by
      rcases Nat.lt_or_ge b w.heap.size with hlt | hge
      · exact hlt
      · simp [World.cell?, Array.getElem?_eq_none hge] at h2
    exact ⟨b, o, h1, (World.cell?_of_block (w := w) (a := ⟨b, o + i, none⟩) (hk.block b hb (hz b hb))).trans h2⟩⟩
theorem put_n (rb sb n : Nat) (st va : Nat → Int) (q v : Int) (w : World) (H : RingAt w rb sb n st va) (h0 : 0 ≤ q) (h1 : q < 4611686018427387904) :
    Calls Try.prog 23 #[.pointer (some ⟨rb, 0, none⟩), .nilIface, .int .i64 q, .int .i64 v] w fun e w' => e = .returned (.int .i64 0) ∧
      RingAt w' rb sb n (upd st (q % n).toNat (2 * (q / n))) (upd va (q % n).toNat v) ∧ Kept (fun b => b = sb) w w' ∧ w'.heap.size = w.heap.size ∧ ∀ b, NearB w b → NearB w' b := by
  have hn := H.pos
  have h2 := H.most
  have hr := H.ring
  have hb0 : 0 ≤ q % (n : Int) := Int.emod_nonneg _ (by omega)
  have hb1 : q % (n : Int) < n := Int.emod_lt_of_pos _ (by omega)
  have hd0 : 0 ≤ q / (n : Int) := Int.ediv_nonneg h0 (by omega)
  have hd1 : q / (n : Int) ≤ q := Int.ediv_le_self _ h0
  have HH := Lib.hid H
  clear H
  go_enter Try.func23, Try.ntmps23
  go_wp2_with (go_at_call 38; refine (good_yes _ _ n _ q _ hr hn h0 h1).mono ?_; rintro e w' ⟨rfl, rfl⟩)
  go_quiet (first | (go_at_call 18; exact quietS (slot_yes _ _ n _ q _ hr hn h2 h0 h1)) | (go_at_call 19; exact quietS (lap_yes _ _ n _ q _ hr hn h2 h0 h1)))
  generalize hi : (q % (n : Int)).toNat = i at *
  have hi' : i < n := by omega
  have HI := Lib.hid hi
  clear hi
  have H1 := HH.out.drewN nq
  have hw1 : Kept (fun b => b = sb) w (w.drewN nq) ∧ (w.drewN nq).heap.size = w.heap.size ∧ ∀ b, NearB w b → NearB (w.drewN nq) b := ⟨Kept.drewN _ _ _, rfl, fun _ h => h⟩
  generalize World.drewN _ nq = w1 at H1 hw1 ⊢
  have HW := Lib.hid hw1
  clear hw1
  go_wp2_with fail
  refine (step_nil _).mono ?_
  rintro e w' ⟨rfl, rfl⟩
  go_wp2_with fail
  refine (atomic_store _ _ _ _ (H1.stamp i hi') (H1.free _)).mono ?_
  rintro e w' ⟨rfl, rfl⟩
  have H2 := H1.setStamp hi' (2 * (q / n) - 1)
  go_wp2_with fail
  refine (step_nil _).mono ?_
  rintro e w' ⟨rfl, rfl⟩
  go_wp2_with fail
  refine (atomic_store _ _ _ _ (H2.value i hi') (H2.free _)).mono ?_
  rintro e w' ⟨rfl, rfl⟩
  have H3 := H2.setValue hi' v
  go_wp2_with fail
  refine (step_nil _).mono ?_
  rintro e w' ⟨rfl, rfl⟩
  go_wp2_with fail
  refine (atomic_store _ _ _ _ (H3.stamp i hi') (H3.free _)).mono ?_
  rintro e w' ⟨rfl, rfl⟩
  have H4 := Lib.hid (H3.setStamp hi' (2 * (q / n)))
  clear H1 H2 H3 hr
  go_wp2
  go_ret
  rw [HI.out]
  obtain ⟨k1, k2, k3⟩ := HW.out
  refine ⟨rfl, by rw [← upd_upd st i (2 * (q / n) - 1)]; exact H4.out, ?_, by simp [k2], fun b h => (((k3 b h).set_).set_).set_⟩
  have S : ∀ (w : World) (i : Nat) (u : Value), Kept (fun b => b = sb) w (w.setCell ⟨sb, i, none⟩ u) := fun w i u => Kept.setCell (S := fun b => b = sb) w (p := ⟨sb, i, none⟩) rfl u
  exact ((k1.trans (S _ _ _)).trans (S _ _ _)).trans (S _ _ _)
def begS (n : Nat) (vs : List Int) : Nat → (Nat → Int) × (Nat → Int)
  | 0 => (fun _ => -2, fun _ => 0)
  | k + 1 => (upd (begS n vs k).1 (((k : Int) % n).toNat) (2 * ((k : Int) / n)), upd (begS n vs k).2 (((k : Int) % n).toNat) (vs.getD k 0))
set_option maxRecDepth 100000 in
theorem begun_ok (w : World) (A : Option Addr) (c n : Nat) (vs : List Int) (hn : 0 < n) (h2 : n ≤ 65536) (hbt : (bits BinOp.and IntKind.i64 (n : Int) ((n : Int) - 1) != 0) = false) (hx : NumsIn w A c ((n : Int) :: vs)) (hlen : vs.length ≤ 4611686018427387903) :
    Calls Try.prog 30 #[.slice A (vs.length + 1) c] w fun e w' => e = .returned (.pointer (some ⟨w.heap.size + 1, 0, none⟩)) ∧ RingAt w' (w.heap.size + 1) w.heap.size n (begS n vs vs.length).1 (begS n vs vs.length).2 ∧ Below w.heap.size w w' ∧ w'.heap.size = w.heap.size + 2 ∧ NearB w' w.heap.size ∧ NearB w' (w.heap.size + 1) := by
  have hle := hx.le
  have hmx := hx.max
  simp only [List.length_cons] at hle
  obtain ⟨B, o, rfl, c0⟩ := hx.cells 0 (by simp)
  have hcell : ∀ i, i < vs.length → w.cell? ⟨B, o + 1 + i, none⟩ = some (.int .i64 (vs.getD i 0)) := fun i hi => by
    obtain ⟨b', o', e, h⟩ := hx.cells (i + 1) (by simpa using hi)
    cases e
    rw [show o + 1 + i = o + (i + 1) from by omega]
    simpa using h
  simp only [Nat.add_zero, List.getD_cons_zero] at c0
  have hB : B < w.heap.size := by
    rcases Nat.lt_or_ge B w.heap.size with hlt | hge
    · exact hlt
    · simp [World.cell?, Array.getElem?_eq_none hge] at c0
  unfold maxLen at hmx
  clear hx
  have HC := Lib.hid hcell
  have HBT := Lib.hid hbt
  clear hcell hbt
  have hn1 : (1 : Int) ≤ n := by omega
  have hn2 : (n : Int) ≤ 65536 := by omega
  have hn3 : ((vs.length : Int) + 1 == 0) = false := by simp; omega
  go_enter Try.func30, Try.ntmps30
  go_wp2_with fail
  refine (new_near n w hn h2 HBT.out).mono ?_
  rintro e w1 ⟨rfl, H1, B1, Z1⟩
  have HX := Lib.hid (And.intro H1 (And.intro B1 Z1))
  clear H1 B1 Z1 c0
  go_wp2
  · go_loopw [32] (fun i wr => ∃ j : Nat, j ≤ vs.length ∧ i = .int .i64 j ∧ RingAt wr (w.heap.size + 1) w.heap.size n (begS n vs j).1 (begS n vs j).2 ∧ Below w.heap.size w wr ∧ wr.heap.size = w.heap.size + 2 ∧ NearB wr w.heap.size ∧ NearB wr (w.heap.size + 1)) (fun i _ => vs.length - (intOf i).toNat)
    case atStart => exact ⟨0, Nat.zero_le _, rfl, HX.out⟩
    case round =>
      obtain ⟨j, hj, rfl, H1, B1, Z1⟩ := hrel
      by_cases hlt : j < vs.length
      · exfalso
        omega
      · have ej : j = vs.length := by omega
        subst ej
        have HY := Lib.hid (And.intro H1 (And.intro B1 Z1))
        clear H1 B1 Z1
        go_wp2
        go_ret
        exact ⟨rfl, HY.out⟩
  · go_loopw [32] (fun i wr => ∃ j : Nat, j ≤ vs.length ∧ i = .int .i64 j ∧ RingAt wr (w.heap.size + 1) w.heap.size n (begS n vs j).1 (begS n vs j).2 ∧ Below w.heap.size w wr ∧ wr.heap.size = w.heap.size + 2 ∧ NearB wr w.heap.size ∧ NearB wr (w.heap.size + 1)) (fun i _ => vs.length - (intOf i).toNat)
    case atStart => exact ⟨0, Nat.zero_le _, rfl, HX.out⟩
    case round =>
      obtain ⟨j, hj, rfl, H1, B1, Z1⟩ := hrel
      by_cases hlt : j < vs.length
      · have c1 : wr.cell? ⟨B, o + 1 + j, none⟩ = some (.int .i64 (vs.getD j 0)) := (World.cell?_of_block (w := w) (B1.block B hB)).trans (HC.out j hlt)
        have HY := Lib.hid (And.intro H1 (And.intro B1 Z1))
        clear H1 B1 Z1
        obtain ⟨x, hx⟩ : ∃ x, vs.getD j 0 = x := ⟨_, rfl⟩
        rw [hx] at c1
        have HVX := Lib.hid hx
        clear hx
        go_wp2_with fail
        refine (put_n (w.heap.size + 1) w.heap.size n _ _ j x wr HY.out.1 (by omega) (by omega)).mono ?_
        rintro e w2 ⟨rfl, H2, K2, Z2, N2⟩
        have B2 : Below w.heap.size w w2 := HY.out.2.1.trans (K2.to_below (B := w.heap.size) (fun k hk => by omega) (by rw [HY.out.2.2.1]; omega))
        have HZ := Lib.hid (And.intro H2 (And.intro B2 (And.intro (Z2.trans HY.out.2.2.1) (And.intro (N2 _ HY.out.2.2.2.1) (N2 _ HY.out.2.2.2.2)))))
        clear H2 K2 B2 Z2 N2 HY c1
        go_wp2
        go_roundw
        case rel => exact ⟨j + 1, by omega, by go_num, by simp only [begS]; rw [HVX.out]; exact HZ.out⟩
        case measure => simp [intOf]; omega
      · have ej : j = vs.length := by omega
        subst ej
        have HY := Lib.hid (And.intro H1 (And.intro B1 Z1))
        clear H1 B1 Z1
        go_wp2
        go_ret
        exact ⟨rfl, HY.out⟩
end Go.Proofs.Yteainbnoemkfcaa
namespace Go.Proofs.Yteainbnoemkfcaa
open Go.RowKit
def Zr (w : World) (p : Option Addr) : Prop := p = none ∨ ∃ a, p = some a ∧ w.cell? a = some (.slice none 0 0)
theorem size_zero (p : Option Addr) (w : World) (h : Zr w p) : Calls Try.prog 14 #[.pointer p] w fun e w' => e = .returned (.int .i64 0) ∧ w = w' := by
  rcases h with rfl | ⟨a, rfl, h⟩
  · exact size_nil w
  · exact size_ring a none 0 0 w h
def BadAt (p : Option Addr) (q : Int) (w : World) : Prop := Calls Try.prog 38 #[.pointer p, .int .i64 q] w fun e w' => e = .returned (.bool false) ∧ w = w'
theorem bad_zero (p : Option Addr) (q : Int) (w : World) (h : Zr w p) : BadAt p q w := by
  unfold BadAt
  go_enter Try.func38, Try.ntmps38
  go_wp2_with (go_at_call 14; refine (size_zero p w h).mono ?_; rintro e w' ⟨rfl, rfl⟩)
  go_ret
  exact ⟨by simp, rfl⟩
theorem bad_low (a : Addr) (sa : Option Addr) (n c : Nat) (q : Int) (w : World) (h : w.cell? a = some (.slice sa n c)) (hq : q < 0) : BadAt (some a) q w := by
  unfold BadAt
  by_cases hn : 0 < n
  · go_enter Try.func38, Try.ntmps38
    go_wp2
    go_ret
    exact ⟨by first | (simp; done) | (simp; omega), rfl⟩
  · go_enter Try.func38, Try.ntmps38
    go_wp2
    go_ret
    exact ⟨by first | (simp; done) | (simp; omega), rfl⟩
theorem bad_high (a : Addr) (sa : Option Addr) (n c : Nat) (q : Int) (w : World) (h : w.cell? a = some (.slice sa n c)) (hq : 4611686018427387904 ≤ q) : BadAt (some a) q w := by
  unfold BadAt
  by_cases hn : 0 < n
  · go_enter Try.func38, Try.ntmps38
    go_wp2
    go_ret
    exact ⟨by first | (simp; done) | (simp; omega), rfl⟩
  · go_enter Try.func38, Try.ntmps38
    go_wp2
    go_ret
    exact ⟨by first | (simp; done) | (simp; omega), rfl⟩
section
variable {p : Option Addr} {q : Int} {w : World}
theorem put_bad (h : BadAt p q w) (S : Value) (v : Int) : Calls Try.prog 23 #[.pointer p, S, .int .i64 q, .int .i64 v] w fun e w' => e = .returned (.int .i64 1) ∧ w = w' := by
  go_enter Try.func23, Try.ntmps23
  go_wp2_with (go_at_call 38; refine (show Calls _ _ _ _ _ from h).mono ?_; rintro e w' ⟨rfl, rfl⟩)
  go_ret
  exact ⟨rfl, rfl⟩
theorem get_bad (h : BadAt p q w) (S : Value) : Calls Try.prog 25 #[.pointer p, S, .int .i64 q] w fun e w' => e = .returned (.tuple #[.int .i64 0, .int .i64 1]) ∧ w = w' := by
  go_enter Try.func25, Try.ntmps25
  go_wp2_with (go_at_call 38; refine (show Calls _ _ _ _ _ from h).mono ?_; rintro e w' ⟨rfl, rfl⟩)
  go_ret2
  exact ⟨rfl, rfl⟩
theorem there_bad (h : BadAt p q w) (S : Value) : Calls Try.prog 26 #[.pointer p, S, .int .i64 q] w fun e w' => e = .returned (.bool false) ∧ w = w' := by
  go_enter Try.func26, Try.ntmps26
  go_wp2_with (go_at_call 38; refine (show Calls _ _ _ _ _ from h).mono ?_; rintro e w' ⟨rfl, rfl⟩)
  go_ret
  exact ⟨rfl, rfl⟩
theorem gather_bad (h : BadAt p q w) (S : Value) (m : Int) : Calls Try.prog 28 #[.pointer p, S, .int .i64 q, .int .i64 m] w fun e w' => e = .returned (.tuple #[.slice none 0 0, .int .i64 1]) ∧ w = w' := by
  go_enter Try.func28, Try.ntmps28
  go_wp2_with (go_at_call 38; refine (show Calls _ _ _ _ _ from h).mono ?_; rintro e w' ⟨rfl, rfl⟩)
  go_ret2
  exact ⟨rfl, rfl⟩
def pre64 (q : Int) : Int := if q = -9223372036854775808 then q else q - 1
theorem highest_bad (h : BadAt p q w) (S : Value) (t : Int) (hq : -9223372036854775808 ≤ q) (hq2 : q < 9223372036854775808) : Calls Try.prog 27 #[.pointer p, S, .int .i64 q, .int .i64 t] w fun e w' => e = .returned (.int .i64 (pre64 q)) ∧ w = w' := by
  unfold pre64
  by_cases hm : q = -9223372036854775808
  · subst hm
    go_enter Try.func27, Try.ntmps27
    go_wp2_with (go_at_call 38; refine (show Calls _ _ _ _ _ from h).mono ?_; rintro e w' ⟨rfl, rfl⟩)
    go_ret
    exact ⟨rfl, rfl⟩
  · have hb : (q == -9223372036854775808) = false := by simpa using hm
    go_enter Try.func27, Try.ntmps27
    go_wp2_with (go_at_call 38; refine (show Calls _ _ _ _ _ from h).mono ?_; rintro e w' ⟨rfl, rfl⟩)
    go_ret
    exact ⟨rfl, rfl⟩
end
theorem stamps_zero (p : Option Addr) (w : World) (h : Zr w p) : Calls Try.prog 21 #[.pointer p] w fun e w' => e = .returned (.slice none 0 0) ∧ w = w' := by
  go_enter Try.func21, Try.ntmps21
  go_wp2_with (go_at_call 14; refine (size_zero p w h).mono ?_; rintro e w' ⟨rfl, rfl⟩)
  go_loopw [3, 7] (fun o i wr => o = .slice none 0 0 ∧ i = .int .i64 0 ∧ wr = w) (fun _ _ _ => 0)
  case atStart => exact ⟨rfl, rfl, rfl⟩
  case round =>
    obtain ⟨rfl, rfl, rfl⟩ := hrel
    go_wp2
    go_ret
    exact ⟨rfl, rfl⟩
theorem values_zero (p : Option Addr) (w : World) (h : Zr w p) : Calls Try.prog 22 #[.pointer p] w fun e w' => e = .returned (.slice none 0 0) ∧ w = w' := by
  go_enter Try.func22, Try.ntmps22
  go_wp2_with (go_at_call 14; refine (size_zero p w h).mono ?_; rintro e w' ⟨rfl, rfl⟩)
  go_loopw [3, 7] (fun o i wr => o = .slice none 0 0 ∧ i = .int .i64 0 ∧ wr = w) (fun _ _ _ => 0)
  case atStart => exact ⟨rfl, rfl, rfl⟩
  case round =>
    obtain ⟨rfl, rfl, rfl⟩ := hrel
    go_wp2
    go_ret
    exact ⟨rfl, rfl⟩
end Go.Proofs.Yteainbnoemkfcaa
namespace Go.Proofs.Yteainbnoemkfcaa
open Go.RowKit Go.Turn Go.Tame Go.Conc
theorem NumsIn.blocks {w w' : World} {A : Option Addr} {c : Nat} {xs : List Int} (h : NumsIn w A c xs) (hb : ∀ b, b < w.heap.size → w'.heap[b]? = w.heap[b]?) : NumsIn w' A c xs :=
  ⟨h.le, h.max, fun i hi => by
    obtain ⟨b, o, h1, h2⟩ := h.cells i hi
    exact ⟨b, o, h1, (World.cell?_of_block (w := w) (a := ⟨b, o + i, none⟩) (hb b (lt_of_cell h2))).trans h2⟩⟩
theorem Old.below {B : Nat} {a b c : World} (h : Old B a b) (k : Below b.heap.size b c) (hB : B ≤ b.heap.size) : Old B a c :=
  h.trans ⟨k.size, fun i hi => k.block i (by omega), k.os, k.output⟩
structure OpsCells (W0 : World) (good : OpI → Prop) (w0 : World) (n : Nat) (A : Nat → Option Addr) (len : Nat → Nat) (ops : Nat → List OpI) : Prop where
  len : ∀ i, i < n → (ops i).length = min (len i) 65536
  good : ∀ i, i < n → ∀ o ∈ ops i, good o
  cells : ∀ i, i < n → ∀ j (h : j < (ops i).length), ∃ b o cs t r, A i = some ⟨b, o, none⟩ ∧ w0.heap[b]? = some (.cells cs t r) ∧ (r.2 < big ∨ b < W0.heap.size) ∧ ∀ m, m < 4 → cs[o + j * 4 + m]? = (ops i)[j].cells[m]?
theorem OpsCells.opsIn {I : Inner} {good : OpI → Prop} {a0 : I.A} {W0 w0 w1 : World} {n : Nat} {A : Nat → Option Addr} {len : Nat → Nat} {ops : Nat → List OpI} (h : OpsCells W0 good w0 n A len ops) (ho : Old w0.heap.size w0 w1) (hat : I.At a0 w1) (hbi : ∀ b, I.BI b → (∃ c t r, w1.heap[b]? = some (.cells c t r) ∧ r.2 < big) ∧ w0.heap.size ≤ b) : OpsIn W0 I good a0 w1 n A len ops where
  at_ := hat
  bi := fun b hb => (hbi b hb).1
  len := h.len
  good := h.good
  cells := fun i hi j hj => by
    obtain ⟨b, o, cs, t, r, h1, h2, h3, h4⟩ := h.cells i hi j hj
    have hlt := lt_of_some h2
    exact ⟨b, o, cs, t, r, h1, (ho.block b hlt).trans h2, h3, fun z => by have := (hbi b z).2; omega, h4⟩
structure PlayDone (W0 : World) (rn : Nat) (R : Run RSt2) (n : Nat) (w0 : World) (v : Value) (w' : World) : Prop where
  ex : ∃ (ab : Nat) (ov tv : Value) (H : Nat → Prop), w0.heap.size ≤ ab ∧ v = .agg #[.slice (some ⟨ab, 0, none⟩) n n, ov, tv, .bool (decide (0 < R.m.left n))] ∧
    w'.ownsRow w0.heap.size 3 1 ov R.order.length (R.order.map (Value.int .i64)) ∧
    w'.ownsRow w0.heap.size 2 1 tv (rn + rn) ((rowN R.m.s.1.1 rn ++ rowN R.m.s.1.2 rn).map (Value.int .i64)) ∧
    AnsAll w' ab n R.m.s.2 H ∧ (∀ (b : Nat) (c : Array Value) (t : TypeId) (r : Nat × Nat), (b < W0.heap.size ∨ r.2 < big) → w0.heap[b]? = some (.cells c t r) → ¬ H b) ∧ ∀ b, tv.ownBlock = some b → ¬ H b
  size : w0.heap.size ≤ w'.heap.size
  near : ∀ (b : Nat) (c : Array Value) (t : TypeId) (r : Nat × Nat), (b < W0.heap.size ∨ r.2 < big) → w0.heap[b]? = some (.cells c t r) → w'.heap[b]? = some (.cells c t r)
  io : w'.os = w0.os ∧ w'.output = w0.output
structure RI where
  At : RSt → World → Prop
  BI : Nat → Prop
  at_ : ∀ a w w', At a w → (∀ b, BI b → w'.heap[b]? = w.heap[b]?) → At a w'
def RI.I (r : RI) : Inner := ⟨RSt, r.At, r.BI, r.at_⟩
set_option maxHeartbeats 2000000 in
set_option maxRecDepth 100000 in
theorem play_gen (hP : Prog Try.prog) (Post : Value → World → Prop) (W0 : World) (rn : Nat) (s0 : RSt) (Rg : Nat → RI) (rp : Nat → Option Addr) (sA : Option Addr) (sl sc : Nat)
    (good : OpI → Prop) (doT : Nat → DoQ RSt) (tA : Option Addr) (Tb To nt cp : Nat) (htA : 0 < nt → tA = some ⟨Tb, To, none⟩) (hnt : nt ≤ maxLen) (A : Nat → Option Addr) (len cap : Nat → Nat) (ops : Nat → List OpI) (sv : Value) (xs : List Int) (most : Int) (w0 : World) (hW : W0.heap.size ≤ w0.heap.size)
    (hbeg : ∀ z, Old w0.heap.size w0 z → Calls Try.prog 30 #[.slice sA sl sc] z fun e w' => e = .returned (.pointer (rp z.heap.size)) ∧ (Rg z.heap.size).At s0 w' ∧ Below z.heap.size z w' ∧ ∀ b, (Rg z.heap.size).BI b → (∃ c t r, w'.heap[b]? = some (.cells c t r) ∧ r.2 < big) ∧ z.heap.size ≤ b)
    (hsta : ∀ b s w, (Rg b).At s w → Calls Try.prog 33 #[.pointer (rp b)] w (NumsRow w (rn + rn) (rowN s.1 rn ++ rowN s.2 rn)))
    (hrows : RowsAt w0 Tb To (min nt 64) A len cap) (hin : OpsCells W0 good w0 (min nt 64) A len ops) (hsch : SchI W0 sv xs (fun b => ∃ i o, i < min nt 64 ∧ A i = some ⟨b, o, none⟩) w0)
    (hD : ∀ (b : Nat) (B : OpsB) i, DoLaw (B.on (Rg b).I good) i (doT i) 32 #[.pointer (rp b)] #[]) (hO : ∀ (b : Nat) (B : OpsB) i, DoOk (B.on (Rg b).I good) i (doT i)) :
    Ccalls (lgA hP Post W0) 10 #[.slice sA sl sc, .slice tA nt cp, sv, .int .i64 most] () w0 fun v _ w' => PlayDone W0 rn (playRun (brQ doT ops) (min nt 64) (heldI most 1048576).toNat xs (s0, fun _ => [])) (min nt 64) w0 v w' := by
  intro c mid hR
  have HR := Lib.hid hR
  clear hR
  have hs : ¬ (lgA hP Post W0).strict := fun h => h
  rw [show Frame.enter Try.prog 10 #[.slice sA sl sc, .slice tA nt cp, sv, .int .i64 most] .normal = Frame.at { (default : Frame) with fn := 10, kind := .normal } ⟨#[.slice sA sl sc, .slice tA nt cp, sv, .int .i64 most] ++ Array.replicate (Try.f10.ntmps - 4) undef, []⟩ [.code (Try.f10.body.getD .skip)] from by simp [Frame.enter, Frame.at, Try.func10]; rfl]
  simp only [Try.f10, Option.getD_some, Nat.reduceSub, Array.replicate_succ, Array.replicate_zero, List.push_toArray, List.append_toArray, List.nil_append, List.cons_append]
  refine Lg.move _ (fun _ _ => step_seq) (fun h => h) ?_
  refine Lg.code fun K hK y τ n' hy => ?_
  have hold : Old w0.heap.size w0 y := by rw [hy]; exact (Old.refl _ (y.re τ n')).re
  have hsz : y.heap.size = w0.heap.size := by rw [hy]; rfl
  clear hy
  go_wp2
  refine hK _ _ (fun h => absurd h hs) ?_
  clear hK K
  have hold1 := hold.new (show w0.heap.size ≤ y.heap.size by omega) (.cells #[.slice none 0 0, .slice none 0 0, .slice none 0 0, .bool false] 31)
  have hb8 := Blk.new y 31 #[.slice none 0 0, .slice none 0 0, .slice none 0 0, .bool false]
  have hsz1 : (y.alloc (.cells #[.slice none 0 0, .slice none 0 0, .slice none 0 0, .bool false] 31)).heap.size = w0.heap.size + 1 := by simp [hsz]
  rw [hsz] at hb8
  generalize y.alloc (.cells #[.slice none 0 0, .slice none 0 0, .slice none 0 0, .bool false] 31) = w1 at hb8 hold1 hsz1 ⊢
  obtain ⟨b8, h8⟩ : ∃ b8, b8 = w0.heap.size := ⟨_, rfl⟩
  rw [← h8] at hb8 ⊢
  have HZ2 := Lib.hid h8
  clear h8 hsz hold
  refine Lg.move _ (fun _ _ => step_seq) (fun h => h) ?_
  refine Lg.code fun K hK z τ n' hz => ?_
  subst hz
  have hold1 := hold1.re
  have hb8 : Blk z b8 _ _ := hb8
  have hsz1 : z.heap.size = w0.heap.size + 1 := hsz1
  have HST := Lib.hid (hbeg z hold1)
  have HOLD := Lib.hid hold1
  have HB8 := Lib.hid hb8
  have HZ := Lib.hid hsz1
  clear hold1 hb8 hsz1
  go_wp2_with fail
  refine HST.out.mono ?_
  rintro e w2 ⟨rfl, hrat, B1, N1⟩
  have hold2 := HOLD.out.below B1 (by have := HZ.out; omega)
  have hb8 : Blk w2 b8 _ _ := HB8.out.below B1 HB8.out.lt
  have hlb8 := HB8.out.lt
  have hge0 := HZ.out
  generalize z.heap.size = sb at *
  have hge : ∀ b, (Rg sb).BI b → w0.heap.size + 1 ≤ b := fun b hb => by have := (N1 b hb).2; omega
  have hin2 : OpsIn W0 (Rg sb).I good s0 w2 (min nt 64) A len ops := hin.opsIn hold2 hrat fun b hb => ⟨(N1 b hb).1, by have := hge b hb; omega⟩
  have hbW : ∀ b, (Rg sb).I.BI b → W0.heap.size ≤ b := fun b hb => by have := hge b hb; omega
  have hrows2 := hrows.later hold2
  have hsch2 : SchI W0 sv xs (fun b => (Rg sb).I.BI b ∨ ∃ i o, i < min nt 64 ∧ A i = some ⟨b, o, none⟩) w2 := hsch.later hold2 fun b hb hz => by
    rcases hz with e | hz
    · have := hge b e; omega
    · exact hz
  have HIN := Lib.hid hin2
  have HRO := Lib.hid hrows2
  have HSC := Lib.hid hsch2
  have HO2 := Lib.hid hold2
  have HB2 := Lib.hid hb8
  have HGE := Lib.hid hge
  clear hin hin2 hrows hrows2 hsch hsch2 hold2 hb8 hrat N1 B1 HST HOLD HB8 HZ hge hge0
  go_wp2
  refine hK _ _ (fun h => absurd h hs) ?_
  clear hK K
  refine Lg.move _ (fun _ _ => step_seq) (fun h => h) ?_
  refine Lg.move _ (fun _ _ => step_region) (fun h => h) ?_
  refine Lg.pre 0 5 3 (by simp) fun K hK u τ n' hu => ?_
  subst hu
  have hin2 : OpsIn W0 (Rg sb).I good (s0) u (min nt 64) A len ops := HIN.out.later (w0 := u.re τ n') (Old.refl _ (u.re τ n')).re
  have hrows2 := HRO.out.later (w0 := u.re τ n') (Old.refl _ (u.re τ n')).re
  have hsch2 := HSC.out.later (w0 := u.re τ n') (Old.refl _ (u.re τ n')).re (fun _ _ h => h)
  have hold2 := HO2.out.re
  have hb8 : Blk u b8 _ _ := HB2.out
  have HIN2 := Lib.hid hin2
  have HRO2 := Lib.hid hrows2
  have HSC2 := Lib.hid hsch2
  have HO := Lib.hid hold2
  have HB := Lib.hid hb8
  clear hin2 hrows2 hsch2 hold2 hb8 HIN HRO HSC HO2 HB2
  simp only [List.drop_zero, List.take_succ_cons, List.take_zero]
  go_wp2
  refine hK _ _ (fun h => absurd h hs) ?_
  clear hK K
  have hops := ops_calls hP Post W0 (Rg sb).I good (s0) doT tA Tb To nt cp htA hnt 32 #[.pointer (rp sb)] #[] A len cap ops sv xs most u (by have := HO.out.size; omega) hbW HRO2.out HIN2.out HSC2.out do_enters (fun B i => hD sb B i) (fun B i => hO sb B i)
  refine Lg.call (i := 5) (rest := [6, 7]) (f := 31) (args := #[.slice tA nt cp, .func (.func 32) #[.pointer (rp sb)] #[], sv, .int .i64 most]) rfl rfl (fun y => by go_simp) hops ?_
  rintro vv t'' w4 hdone
  have HOPS := Lib.hid hdone
  obtain ⟨B, ov, hBn, hBo, hBa, hvv0, hov0, H, hrep, hH⟩ := hdone.ex
  clear hdone hops
  obtain ⟨R, hR⟩ : ∃ R : Run RSt2, R = playRun (brQ doT ops) (min nt 64) (heldI most 1048576).toNat xs (s0, fun _ => []) := ⟨_, rfl⟩
  have eR : playRun (brT (B.on (Rg sb).I good) doT) (min nt 64) (heldI most 1048576).toNat xs (s0, fun _ => []) = R := by
    rw [hR]
    exact congrArg (fun b => playRun b (min nt 64) (heldI most 1048576).toNat xs (s0, fun _ => [])) ((br_q (I := (Rg sb).I) (good := good) B doT).trans (congrArg (brQ doT) hBo))
  have key : ∀ R' : Run RSt2, playRun (brT (B.on (Rg sb).I good) doT) (min nt 64) (heldI most 1048576).toNat xs (s0, fun _ => []) = R' → vv = .agg #[.slice (some ⟨B.ab, 0, none⟩) (min nt 64 : Nat) (min nt 64 : Nat), ov, .slice none 0 0, .bool (decide (0 < R'.m.left (min nt 64)))] ∧ w4.ownsRow u.heap.size 3 1 ov R'.order.length (R'.order.map (Value.int .i64)) ∧ AnsAll w4 B.ab B.n R'.m.s.2 (fun b => H b ∧ ¬ (Rg sb).BI b) ∧ (Rg sb).At R'.m.s.1 w4 ∧ ∀ b, (Rg sb).BI b → b < w4.heap.size := by
    rintro _ rfl
    exact ⟨hvv0, hov0, hrep.answers, hrep.at_, fun b hb => by obtain ⟨c, t, r, h1, _⟩ := hrep.near b (hrep.bi b hb); exact lt_of_some h1⟩
  obtain ⟨hvv, hov, hans, hrat, hltB⟩ := key R eR
  rw [← hR] at HR
  rw [hBn] at hans
  obtain ⟨stk, hst⟩ : ∃ stk : Bool, stk = decide (0 < R.m.left (min nt 64)) := ⟨_, rfl⟩
  rw [← hst] at hvv
  clear key hrep eR hvv0 hov0 hBo
  have HRR := Lib.hid hR
  clear hR
  generalize min nt 64 = n at *
  obtain ⟨oA, oc, rfl⟩ := own_slice hov
  obtain ⟨oL, hoL⟩ : ∃ oL, oL = R.order.length := ⟨_, rfl⟩
  rw [← hoL] at hvv
  obtain ⟨ab, hab⟩ : ∃ ab, ab = B.ab := ⟨_, rfl⟩
  rw [← hab] at hvv hBa hans
  subst hvv
  have HX := Lib.hid (And.intro hans (And.intro hrat (And.intro hov (And.intro hBa (And.intro hoL (And.intro hst (And.intro hH hltB)))))))
  have hb8 : Blk w4 b8 _ _ := HOPS.out.near b8 _ _ (0, 0) (.inr ⟨by decide, fun z => by have := HGE.out _ z; have := HZ2.out; omega⟩) HB.out
  clear hans hrat hov hBa hoL hst hH hltB
  have HB4 := Lib.hid hb8
  clear hb8 hab
  rw [Frame.finish_at]
  walk_nrm
  refine (show (lgA hP Post W0).T _ (Frame.at _ ⟨_, []⟩ (.inRegion _ (List.range' 6 (2 + 0)) :: _)) (c :: mid) w4 from ?_)
  refine Lg.pre 6 2 0 (by simp) fun K hK q τ2 n2 hq => ?_
  simp only [List.drop_succ_cons, List.drop_zero, List.take_succ_cons, List.take_zero]
  go_wp2
  refine hK _ _ (fun h => absurd h hs) ?_
  clear hK K
  have hb4 : Blk q b8 31 #[.slice none 0 0, .slice none 0 0, .slice none 0 0, .bool false] := by have := HB4.out; rw [hq] at this; exact this
  have hh : w4.heap = q.heap ∧ w4.os = q.os ∧ w4.output = q.output := by rw [hq]; exact ⟨rfl, rfl, rfl⟩
  clear hq HB4
  obtain ⟨b10, h10⟩ : ∃ b10, b10 = q.heap.size := ⟨_, rfl⟩
  rw [← h10]
  obtain ⟨w5, hw5, hb10, f1, f2, f3⟩ : ∃ w5, w5 = (q.alloc (.cells #[.slice (some ⟨ab, 0, none⟩) n n, .slice oA oL oc, .slice none 0 0, .bool stk] 31)) ∧ Blk w5 b10 31 #[.slice (some ⟨ab, 0, none⟩) n n, .slice oA oL oc, .slice none 0 0, .bool stk] ∧ (∀ b, b < w4.heap.size → w5.heap[b]? = w4.heap[b]?) ∧ w5.heap.size = w4.heap.size + 1 ∧ w5.os = w4.os ∧ w5.output = w4.output := by
    refine ⟨_, rfl, h10 ▸ Blk.new q _ _, fun b hb => ?_, ?_, hh.2.1.symm, hh.2.2.symm⟩
    · rw [hh.1] at hb ⊢; exact Below.heap_alloc _ _ _ hb
    · rw [hh.1]; simp
  rw [← hw5]
  clear hw5
  have hg10 : w4.heap.size ≤ b10 := by rw [h10, hh.1]; exact Nat.le_refl _
  have HG10 := Lib.hid hg10
  have h84 : b8 < w4.heap.size := by rw [hh.1]; exact hb4.lt
  have hb8 : Blk w5 b8 31 #[.slice none 0 0, .slice none 0 0, .slice none 0 0, .bool false] := (f1 b8 h84).trans (by rw [hh.1]; exact hb4)
  clear h10 hh hb4 hg10
  refine Lg.move _ (fun _ _ => step_region_end) (fun h => h) ?_
  refine Lg.move _ (fun _ _ => step_seq) (fun h => h) ?_
  refine Lg.code fun K hK p τ3 n3 hp => ?_
  subst hp
  have hb10 : Blk p b10 _ _ := hb10
  have hb8 : Blk p b8 _ _ := hb8
  have hrat5 : (Rg sb).At R.m.s.1 p := (Rg sb).at_ _ w4 p HX.out.2.1 fun b hb => f1 b (HX.out.2.2.2.2.2.2.2 b hb)
  have HF := Lib.hid (And.intro f1 (And.intro f2 f3))
  have HB10 := Lib.hid hb10
  have HB8 := Lib.hid hb8
  have HRA := Lib.hid hrat5
  clear f1 f2 f3 hb10 hb8 hrat5
  go_wp2_with fail
  refine (hsta sb _ p HRA.out).mono ?_
  rintro e w6 ⟨tv, rfl, ht, B6⟩
  obtain ⟨tA, tc, rfl⟩ := own_slice ht
  have hb10 : Blk w6 b10 _ _ := HB10.out.below B6 HB10.out.lt
  have c2 := hb10.cell 2
  have z2 := hb10.frozen 2
  simp at c2
  have HT := Lib.hid ht
  have HB6 := Lib.hid B6
  clear ht B6
  have HBX := Lib.hid hb10
  clear hb10
  go_wp2
  refine hK _ _ (fun h => absurd h hs) ?_
  clear hK K c2 z2
  have hb8 : Blk w6 b8 _ _ := HB8.out.below HB6.out HB8.out.lt
  have hne : b8 ≠ b10 := by have := HG10.out; omega
  have hb10 := (HBX.out).set_ 2 (.slice tA (rn + rn) tc)
  have hb8 := hb8.far (p := ⟨b10, 2, none⟩) hne (.slice tA (rn + rn) tc)
  simp only [List.setIfInBounds_toArray, List.set_cons_zero, List.set_cons_succ] at hb10
  obtain ⟨w7, hw7, g1, g2, g3⟩ : ∃ w7, w7 = w6.setCell ⟨b10, 2, none⟩ (.slice tA (rn + rn) tc) ∧ (∀ b, b ≠ b10 → w7.heap[b]? = w6.heap[b]?) ∧ w7.heap.size = w6.heap.size ∧ w7.os = w6.os ∧ w7.output = w6.output := ⟨_, rfl, fun b hb => Below.heap_setCell _ _ _ _ hb, by simp [World.setCell], rfl, rfl⟩
  rw [← hw7] at hb8 hb10 ⊢
  clear hw7 HBX
  refine Lg.move _ (fun _ _ => step_seq) (fun h => h) ?_
  refine Lg.code fun K hK v τ4 n4 hv => ?_
  subst hv
  have hb10 : Blk v b10 _ _ := hb10
  have hb8 : Blk v b8 _ _ := hb8
  have o0 := hb8.cell 0
  have o1 := hb8.cell 1
  have o2 := hb8.cell 2
  have o3 := hb8.cell 3
  have z0 := hb8.frozen 0
  have z1 := hb8.frozen 1
  have z2 := hb8.frozen 2
  have z3 := hb8.frozen 3
  have e0 := hb10.cell 0
  have e1 := hb10.cell 1
  have e2 := hb10.cell 2
  have e3 := hb10.cell 3
  simp at o0 o1 o2 o3 e0 e1 e2 e3
  have HC8 := Lib.hid hb8
  have HG := Lib.hid (And.intro g1 (And.intro g2 g3))
  clear hb8 hb10 g1 g2 g3
  go_wp2
  refine hK _ _ (fun h => absurd h hs) ?_
  clear hK K o0 o1 o2 o3 z0 z1 z2 z3 e0 e1 e2 e3
  have hb8 := (((HC8.out.set_ 0 (.slice (some ⟨ab, 0, none⟩) n n)).set_ 1 (.slice oA oL oc)).set_ 2 (.slice tA (rn + rn) tc)).set_ 3 (.bool stk)
  simp only [List.setIfInBounds_toArray, List.set_cons_zero, List.set_cons_succ] at hb8
  obtain ⟨w9, hw9, k1, k2, k3⟩ : ∃ w9, w9 = (((v.setCell ⟨b8, 0, none⟩ (.slice (some ⟨ab, 0, none⟩) n n)).setCell ⟨b8, 1, none⟩ (.slice oA oL oc)).setCell ⟨b8, 2, none⟩ (.slice tA (rn + rn) tc)).setCell ⟨b8, 3, none⟩ (.bool stk) ∧ (∀ b, b ≠ b8 → w9.heap[b]? = v.heap[b]?) ∧ w9.heap.size = v.heap.size ∧ w9.os = v.os ∧ w9.output = v.output :=
    ⟨_, rfl, fun b hb => by rw [Below.heap_setCell _ _ _ _ hb, Below.heap_setCell _ _ _ _ hb, Below.heap_setCell _ _ _ _ hb, Below.heap_setCell _ _ _ _ hb], by simp [World.setCell], rfl, rfl⟩
  rw [← hw9] at hb8 ⊢
  clear hw9 HC8
  refine Lg.move _ (fun _ _ => step_ret) (fun h => h) ?_
  refine Lg.leave rfl Try.func10 rfl (v := .agg #[.slice (some ⟨ab, 0, none⟩) n n, .slice oA oL oc, .slice tA (rn + rn) tc, .bool stk]) (fun y τ n' hy => ?_) (HR.out _ _ _ ?_)
  · have c0 : y.cell? ⟨b8, 0, none⟩ = some (.slice (some ⟨ab, 0, none⟩) n n) := by have := hb8.cell 0; rw [hy] at this; exact this
    have c1 : y.cell? ⟨b8, 1, none⟩ = some (.slice oA oL oc) := by have := hb8.cell 1; rw [hy] at this; exact this
    have c2 : y.cell? ⟨b8, 2, none⟩ = some (.slice tA (rn + rn) tc) := by have := hb8.cell 2; rw [hy] at this; exact this
    have c3 : y.cell? ⟨b8, 3, none⟩ = some (.bool stk) := by have := hb8.cell 3; rw [hy] at this; exact this
    simp [results, Try.f10, go_sem, c0, c1, c2, c3]
  obtain ⟨hans, hrat, hov, hBa, hoL, hst, hH, hltB⟩ := HX.out
  obtain ⟨f1, f2, f3⟩ := HF.out
  obtain ⟨g1, g2, g3⟩ := HG.out
  have b6 := HB6.out
  have hG := HG10.out
  have hge := HGE.out
  have h8 := HZ2.out
  have hops := HOPS.out
  have ho := HO.out
  have s0 := ho.size
  have s1 := hops.size
  have s6 := b6.size
  have f2 : p.heap.size = w4.heap.size + 1 := f2
  have g2 : v.heap.size = w6.heap.size := g2
  have l8 := HB.out.lt
  subst hoL
  have far : ∀ b, b < w4.heap.size → b ≠ b8 → w9.heap[b]? = w4.heap[b]? := fun b h1 h2 => by
    rw [k1 b h2, show v.heap[b]? = w6.heap[b]? from g1 b (by omega), b6.block b (by omega)]
    exact f1 b h1
  have nbi : ∀ b, b < w0.heap.size → ¬ (Rg sb).I.BI b := fun b hb e => by have := hge b e; omega
  have nb8 : ¬ H b8 := hH b8 _ _ (0, 0) (.inr ⟨by decide, fun e => by have := hge _ e; omega⟩) HB.out
  have hlt : ∀ b, H b ∧ ¬ (Rg sb).BI b → b < w4.heap.size := fun b hb => by
    obtain ⟨c, t, r, h1, _⟩ := hans.near b hb
    exact lt_of_some h1
  refine ⟨⟨ab, .slice oA R.order.length oc, .slice tA (rn + rn) tc, _, by omega, by rw [hst], ?_, ?_, hans.same fun b hb => far b (hlt b hb) (fun e => nb8 (e ▸ hb.1)), fun b c t r hc hb hH2 => ?_, fun b hb hb2 => ?_⟩, by omega, fun b c t r hc hb => ?_, ?_⟩
  · refine own_base (own_same hov fun b hb => ?_) (show w0.heap.size ≤ u.heap.size by omega)
    rcases hov.2 with ⟨e, _⟩ | ⟨g', cp2, cur, e, hg2, hh2, _⟩
    · rw [e] at hb; simp [Value.ownBlock] at hb
    · rw [e] at hb
      simp only [Value.ownBlock, Option.some.injEq] at hb
      subst hb
      exact far _ (lt_of_some hh2) (by omega)
  · refine own_base (own_same HT.out fun b hb => ?_) (show w0.heap.size ≤ p.heap.size by omega)
    rcases HT.out.2 with ⟨e, _⟩ | ⟨g', cp2, cur, e, hg2, hh2, _⟩
    · rw [e] at hb; simp [Value.ownBlock] at hb
    · rw [e] at hb
      simp only [Value.ownBlock, Option.some.injEq] at hb
      subst hb
      have := HB10.out.lt
      rw [k1 _ (by omega)]
      exact g1 _ (by omega)
  · have hb0 := lt_of_some hb
    exact hH b c t r (hc.imp id fun z => ⟨z, nbi b hb0⟩) ((ho.block b hb0).trans hb) hH2.1
  · rcases HT.out.2 with ⟨e, _⟩ | ⟨g', cp2, cur, e, hg2, hh2, _⟩
    · rw [e] at hb; simp [Value.ownBlock] at hb
    · rw [e] at hb
      simp only [Value.ownBlock, Option.some.injEq] at hb
      subst hb
      have := hlt _ hb2
      omega
  · have h1 := lt_of_some hb
    have h2 := hops.near b c t r (hc.imp id fun z => ⟨z, nbi b h1⟩) ((ho.block b h1).trans hb)
    rw [far b (lt_of_some h2) (by omega)]
    exact h2
  · exact ⟨k3.1.trans (g3.1.trans (b6.os.trans (f3.1.trans (hops.io.1.trans ho.io.1)))), k3.2.trans (g3.2.trans (b6.output.trans (f3.2.trans (hops.io.2.trans ho.io.2))))⟩
end Go.Proofs.Yteainbnoemkfcaa
