/- DERIVED. The ring of slots among threads, pure: an operation minds its own row; a run of operations on the ring. -/
import Derived.Test.YteainbnoemkfcaaGc
import Derived.Test.YteainbnoemkfcaaRows
import Derived.KernelRfl
import Derived.Test.YteainbnoemkfcaaGe
import Derived.Test.YteainbnoemkfcaaGg
/- DERIVED. All functions of this claim's program are tame. -/
namespace Go.Proofs.Yteainbnoemkfcaa
open Go.Tame
theorem code_all : (Try.prog.funcs.all fun fn => match fn.body with | some c => codeOk Try.prog true c | none => true) = true := by kernel_rfl
theorem code_ok (f : Nat) (fn : Func) (c : Code) (hf : Try.prog.funcs[f]? = some fn) (hb : fn.body = some c) : codeOk Try.prog true c = true := by
  have h := (Array.all_eq_true'.1 code_all) fn (Array.mem_of_getElem? hf)
  rw [hb] at h
  exact h
theorem num_all : (Try.prog.funcs.all fun fn => !(fn.name == "runtime.NumGoroutine")) = true := by kernel_rfl
theorem num_ok : NoNum Try.prog := fun f fn hf => by
  have h := (Array.all_eq_true'.1 num_all) fn (Array.mem_of_getElem? hf)
  simpa using h
theorem ext_all : (Try.prog.funcs.all fun fn => fn.body.isSome || (extNames.contains fn.name && fn.origin == "" && (Extern.findNext fn).isNone)) = true := by kernel_rfl
theorem ext_ok (f : Nat) (fn : Func) (hf : Try.prog.funcs[f]? = some fn) (hb : fn.body = none) : fn.name ∈ extNames ∧ fn.origin = "" ∧ Extern.findNext fn = none := by
  have h := (Array.all_eq_true'.1 ext_all) fn (Array.mem_of_getElem? hf)
  rw [hb] at h
  simp only [Option.isSome_none, Bool.false_or, Bool.and_eq_true, List.contains_iff_mem, beq_iff_eq, Option.isNone_iff_eq_none] at h
  exact ⟨h.1.1, h.1.2, h.2⟩
theorem Try.tame : Prog Try.prog where
  code := code_ok
  ext := ext_of ext_ok num_ok
  lv := fun f fn hf hb args e he => by
    rw [(ext_ok f fn hf hb).2.2] at he; cases he
  num := num_ok
end Go.Proofs.Yteainbnoemkfcaa
/- DERIVED. The ring of slots (package slots), walked: New, Size, Slot, Lap, Put and Get without a Stepper. Conditions: the ring's blocks are whole. -/
namespace Go.Proofs.Yteainbnoemkfcaa
open Go.RowKit

theorem size_nil (w : World) : Calls Try.prog 14 #[.pointer none] w fun e w' => e = .returned (.int .i64 0) ∧ w = w' := by
  go_enter Try.func14, Try.ntmps14
  go_wp2
  go_ret
  exact ⟨rfl, rfl⟩
theorem size_ring (a : Addr) (sa : Option Addr) (n c : Nat) (w : World) (h : w.cell? a = some (.slice sa n c)) : Calls Try.prog 14 #[.pointer (some a)] w fun e w' => e = .returned (.int .i64 n) ∧ w = w' := by
  go_enter Try.func14, Try.ntmps14
  go_wp2
  go_ret
  exact ⟨rfl, rfl⟩
theorem good_yes (a : Addr) (sa : Option Addr) (n c : Nat) (q : Int) (w : World) (h : w.cell? a = some (.slice sa n c)) (hn : 0 < n) (h0 : 0 ≤ q) (h1 : q < 4611686018427387904) :
    Calls Try.prog 38 #[.pointer (some a), .int .i64 q] w fun e w' => e = .returned (.bool true) ∧ w = w' := by
  go_enter Try.func38, Try.ntmps38
  go_wp2
  go_ret
  exact ⟨by simp, rfl⟩
theorem slot_yes (a : Addr) (sa : Option Addr) (n c : Nat) (q : Int) (w : World) (h : w.cell? a = some (.slice sa n c)) (hn : 0 < n) (h2 : n ≤ 65536) (h0 : 0 ≤ q) (h1 : q < 4611686018427387904) :
    Calls Try.prog 18 #[.pointer (some a), .int .i64 q] w fun e w' => e = .returned (.int .i64 (q % n)) ∧ w = w' := by
  go_enter Try.func18, Try.ntmps18
  go_wp2_with (go_at_call 38; refine (good_yes a sa n c q _ h hn h0 h1).mono ?_; rintro e w' ⟨rfl, rfl⟩)
  go_ret
  exact ⟨rfl, rfl⟩
theorem lap_yes (a : Addr) (sa : Option Addr) (n c : Nat) (q : Int) (w : World) (h : w.cell? a = some (.slice sa n c)) (hn : 0 < n) (h2 : n ≤ 65536) (h0 : 0 ≤ q) (h1 : q < 4611686018427387904) :
    Calls Try.prog 19 #[.pointer (some a), .int .i64 q] w fun e w' => e = .returned (.int .i64 (q / n)) ∧ w = w' := by
  go_enter Try.func19, Try.ntmps19
  go_wp2_with (go_at_call 38; refine (good_yes a sa n c q _ h hn h0 h1).mono ?_; rintro e w' ⟨rfl, rfl⟩)
  go_ret
  exact ⟨rfl, rfl⟩
theorem step_nil (w : World) : Calls Try.prog 40 #[.nilIface] w fun e w' => e = .returned (.tuple #[]) ∧ w = w' := by
  go_enter Try.func40, Try.ntmps40
  go_wp2
  go_end0
  exact ⟨rfl, rfl⟩
theorem atomic_store (a : Addr) (v : Int) (u : Int) (w : World) (h : w.cell? a = some (.int .i64 u)) (hf : w.frozen? a = false) : Calls Try.prog 36 #[.pointer (some a), .int .i64 v] w fun e w' => e = .returned (.tuple #[]) ∧ w.setCell a (.int .i64 v) = w' := by
  have hst := run_call_store (P := Try.prog) Try.func50 (by kernel_rfl) (by kernel_rfl) (by kernel_rfl) (by kernel_rfl) (k := .i64) (y := v) h hf
  go_enter Try.func36, Try.ntmps36
  go_wp2
  go_end0
  exact ⟨rfl, rfl⟩
theorem atomic_load (a : Addr) (v : Int) (w : World) (h : w.cell? a = some (.int .i64 v)) : Calls Try.prog 39 #[.pointer (some a)] w fun e w' => e = .returned (.int .i64 v) ∧ w = w' := by
  have hld := run_call_load (P := Try.prog) Try.func51 (by kernel_rfl) (by kernel_rfl) (by kernel_rfl) .i64 (by kernel_rfl) h
  go_enter Try.func39, Try.ntmps39
  go_wp2
  go_ret
  exact ⟨rfl, rfl⟩

def upd (f : Nat → Int) (i : Nat) (x : Int) : Nat → Int := fun j => if j = i then x else f j

/-- The ring behind pointer r: n slots of which the cells are the stamps and the values. -/
structure RingAt (w : World) (rb sb n : Nat) (st va : Nat → Int) : Prop where
  ring : w.cell? ⟨rb, 0, none⟩ = some (.slice (some ⟨sb, 0, none⟩) n n)
  stamp : ∀ i, i < n → w.cell? ⟨sb, i * 2, none⟩ = some (.int .i64 (st i))
  value : ∀ i, i < n → w.cell? ⟨sb, i * 2 + 1, none⟩ = some (.int .i64 (va i))
  free : ∀ i, w.frozen? ⟨sb, i, none⟩ = false
  pos : 0 < n
  most : n ≤ 65536
  ne : rb ≠ sb
  rlt : rb < w.heap.size
  glt : sb < w.heap.size
theorem upd_upd (f : Nat → Int) (i : Nat) (x y : Int) : upd (upd f i x) i y = upd f i y := by
  funext j
  unfold upd
  split <;> rfl
theorem upd_same (f : Nat → Int) (i : Nat) (x : Int) : upd f i x i = x := if_pos rfl
theorem upd_ne (f : Nat → Int) {i j : Nat} (x : Int) (h : j ≠ i) : upd f i x j = f j := if_neg h
section
variable {w w' : World} {rb sb n : Nat} {st va : Nat → Int}
theorem RingAt.setStamp (H : RingAt w rb sb n st va) {i : Nat} (hi : i < n) (x : Int) : RingAt (w.setCell ⟨sb, i * 2, none⟩ (.int .i64 x)) rb sb n (upd st i x) va where
  ring := (World.cell?_setCell_other _ _ _ _ (by intro e; injection e with e; exact H.ne e.symm)).trans H.ring
  stamp := fun j hj => by
    unfold upd
    by_cases e : j = i
    · subst e; rw [if_pos rfl]; exact World.cell?_setCell_same _ _ _ (H.stamp j hj)
    · rw [if_neg e]; exact (World.cell?_setCell_other _ _ _ _ (by simp <;> omega)).trans (H.stamp j hj)
  value := fun j hj => (World.cell?_setCell_other _ _ _ _ (by simp <;> omega)).trans (H.value j hj)
  free := fun j => by rw [World.frozen?_setCell]; exact H.free j
  pos := H.pos
  most := H.most
  ne := H.ne
  rlt := by simpa using H.rlt
  glt := by simpa using H.glt
theorem RingAt.setValue (H : RingAt w rb sb n st va) {i : Nat} (hi : i < n) (x : Int) : RingAt (w.setCell ⟨sb, i * 2 + 1, none⟩ (.int .i64 x)) rb sb n st (upd va i x) where
  ring := (World.cell?_setCell_other _ _ _ _ (by intro e; injection e with e; exact H.ne e.symm)).trans H.ring
  stamp := fun j hj => (World.cell?_setCell_other _ _ _ _ (by simp <;> omega)).trans (H.stamp j hj)
  value := fun j hj => by
    unfold upd
    by_cases e : j = i
    · subst e; rw [if_pos rfl]; exact World.cell?_setCell_same _ _ _ (H.value j hj)
    · rw [if_neg e]; exact (World.cell?_setCell_other _ _ _ _ (by simp <;> omega)).trans (H.value j hj)
  free := fun j => by rw [World.frozen?_setCell]; exact H.free j
  pos := H.pos
  most := H.most
  ne := H.ne
  rlt := by simpa using H.rlt
  glt := by simpa using H.glt
theorem RingAt.drewN (H : RingAt w rb sb n st va) (k : Nat) : RingAt (w.drewN k) rb sb n st va := ⟨H.ring, H.stamp, H.value, H.free, H.pos, H.most, H.ne, H.rlt, H.glt⟩
theorem RingAt.kept {S : Nat → Prop} (H : RingAt w rb sb n st va) (hk : Kept S w w') (h1 : ¬ S rb) (h2 : ¬ S sb) : RingAt w' rb sb n st va where
  ring := (World.cell?_of_block (w := w) (hk.block rb H.rlt h1)).trans H.ring
  stamp := fun i hi => (World.cell?_of_block (w := w) (a := ⟨sb, i * 2, none⟩) (hk.block sb H.glt h2)).trans (H.stamp i hi)
  value := fun i hi => (World.cell?_of_block (w := w) (a := ⟨sb, i * 2 + 1, none⟩) (hk.block sb H.glt h2)).trans (H.value i hi)
  free := fun i => (World.frozen?_of_block (w := w) (a := ⟨sb, i, none⟩) (hk.block sb H.glt h2)).trans (H.free i)
  pos := H.pos
  most := H.most
  ne := H.ne
  rlt := Nat.lt_of_lt_of_le H.rlt hk.size
  glt := Nat.lt_of_lt_of_le H.glt hk.size
end

theorem slots_step_none : Stepper.none.Steps Try.prog 40 := fun k w _ => (step_nil w).mono fun _ _ ⟨h, hw⟩ => ⟨h, trivial, hw ▸ Kept.refl _ _, by rw [hw]⟩

theorem put_x (X : Stepper) (hs : X.Steps Try.prog 40) (t rb sb n : Nat) (st va : Nat → Int) (q v : Int) (w : World) (H : RingAt w rb sb n st va) (h0 : 0 ≤ q) (h1 : q < 4611686018427387904) (A : X.at_ t w) (n1 : ¬ X.own rb) (n2 : ¬ X.own sb) :
    Calls Try.prog 23 #[.pointer (some ⟨rb, 0, none⟩), X.v, .int .i64 q, .int .i64 v] w fun e w' => e = .returned (.int .i64 0) ∧
      RingAt w' rb sb n (upd st (q % n).toNat (2 * (q / n))) (upd va (q % n).toNat v) ∧ Kept (fun b => b = sb ∨ X.own b) w w' ∧ w'.heap.size = w.heap.size ∧ X.at_ (t + 3) w' := by
  have hn := H.pos
  have h2 := H.most
  have hr := H.ring
  have hb0 : 0 ≤ q % (n : Int) := Int.emod_nonneg _ (by omega)
  have hb1 : q % (n : Int) < n := Int.emod_lt_of_pos _ (by omega)
  have hd0 : 0 ≤ q / (n : Int) := Int.ediv_nonneg h0 (by omega)
  have hd1 : q / (n : Int) ≤ q := Int.ediv_le_self _ h0
  have HH := Lib.hid H
  have HA := Lib.hid A
  have HN1 := Lib.hid n1
  have HN2 := Lib.hid n2
  have n3 : ∀ b, X.own b → ¬ b = sb := fun b h e => HN2.out (e ▸ h)
  have HN3 := Lib.hid n3
  clear H A n1 n2 n3
  go_enter Try.func23, Try.ntmps23
  go_wp2_with (go_at_call 38; refine (good_yes _ _ n _ q _ hr hn h0 h1).mono ?_; rintro e w' ⟨rfl, rfl⟩)
  go_quiet (first | (go_at_call 18; exact quietS (slot_yes _ _ n _ q _ hr hn h2 h0 h1)) | (go_at_call 19; exact quietS (lap_yes _ _ n _ q _ hr hn h2 h0 h1)))
  generalize hi : (q % (n : Int)).toNat = i at *
  have hi' : i < n := by omega
  have HI := Lib.hid hi
  clear hi
  have H1 := HH.out.drewN nq
  have A1 := X.keep HA.out (Kept.drewN (fun _ => False) w nq) (fun _ _ h => h)
  go_wp2_with fail
  refine (hs t _ A1).mono ?_
  rintro e w1 ⟨rfl, A1, K1, Z1⟩
  have H1 := H1.kept K1 HN1.out HN2.out
  go_wp2_with fail
  refine (atomic_store _ _ _ _ (H1.stamp i hi') (H1.free _)).mono ?_
  rintro e w' ⟨rfl, rfl⟩
  have H2 := H1.setStamp hi' (2 * (q / n) - 1)
  have A2 := X.keep A1 (Kept.setCell (S := (· = sb)) w1 (p := ⟨sb, i * 2, none⟩) rfl (.int .i64 (2 * (q / n) - 1))) HN3.out
  have K2 := K1
  go_wp2_with fail
  refine (hs _ _ A2).mono ?_
  rintro e w2 ⟨rfl, A2, K2, Z2⟩
  have H2 := H2.kept K2 HN1.out HN2.out
  go_wp2_with fail
  refine (atomic_store _ _ _ _ (H2.value i hi') (H2.free _)).mono ?_
  rintro e w' ⟨rfl, rfl⟩
  have H3 := H2.setValue hi' v
  have A3 := X.keep A2 (Kept.setCell (S := (· = sb)) w2 (p := ⟨sb, i * 2 + 1, none⟩) rfl (.int .i64 v)) HN3.out
  go_wp2_with fail
  refine (hs _ _ A3).mono ?_
  rintro e w3 ⟨rfl, A3, K3, Z3⟩
  have H3 := H3.kept K3 HN1.out HN2.out
  go_wp2_with fail
  refine (atomic_store _ _ _ _ (H3.stamp i hi') (H3.free _)).mono ?_
  rintro e w' ⟨rfl, rfl⟩
  have H4 := H3.setStamp hi' (2 * (q / n))
  have A4 := X.keep A3 (Kept.setCell (S := (· = sb)) w3 (p := ⟨sb, i * 2, none⟩) rfl (.int .i64 (2 * (q / n)))) HN3.out
  have HZ := Lib.hid (And.intro Z1 (And.intro Z2 Z3))
  have HK := Lib.hid (And.intro K1 (And.intro K2 K3))
  have HX := Lib.hid (And.intro H4 A4)
  clear Z1 Z2 Z3 K1 K2 K3 H1 H2 H3 H4 A1 A2 A3 A4 hr
  go_wp2
  go_ret
  rw [HI.out]
  have z := HZ.out
  have k := HK.out
  simp at z
  refine ⟨rfl, by rw [← upd_upd st i (2 * (q / n) - 1)]; exact HX.out.1, ?_, by simp; omega, HX.out.2⟩
  have L : ∀ {a b : World}, Kept X.own a b → Kept (fun b => b = sb ∨ X.own b) a b := fun h => h.mono (fun _ _ e => .inr e)
  exact (((((Kept.drewN _ _ nq).trans (L k.1)).trans (Kept.setCell _ (.inl rfl) _)).trans (L k.2.1)).trans (Kept.setCell _ (.inl rfl) _)).trans ((L k.2.2).trans (Kept.setCell _ (.inl rfl) _))

theorem get_ok (X : Stepper) (hs : X.Steps Try.prog 40) (t rb sb n : Nat) (st va : Nat → Int) (q : Int) (w : World) (H : RingAt w rb sb n st va) (h0 : 0 ≤ q) (h1 : q < 4611686018427387904) (he : st (q % n).toNat = 2 * (q / n)) (A : X.at_ t w) (n1 : ¬ X.own rb) (n2 : ¬ X.own sb) :
    Calls Try.prog 25 #[.pointer (some ⟨rb, 0, none⟩), X.v, .int .i64 q] w fun e w' => e = .returned (.tuple #[.int .i64 (va (q % n).toNat), .int .i64 0]) ∧ Kept X.own w w' ∧ w'.heap.size = w.heap.size ∧ X.at_ (t + 3) w' := by
  have HE := Lib.hid he
  clear he
  have hn := H.pos
  have h2 := H.most
  have hr := H.ring
  have hb0 : 0 ≤ q % (n : Int) := Int.emod_nonneg _ (by omega)
  have hb1 : q % (n : Int) < n := Int.emod_lt_of_pos _ (by omega)
  have hd0 : 0 ≤ q / (n : Int) := Int.ediv_nonneg h0 (by omega)
  have hd1 : q / (n : Int) ≤ q := Int.ediv_le_self _ h0
  have HH := Lib.hid H
  have HA := Lib.hid A
  have HN1 := Lib.hid n1
  have HN2 := Lib.hid n2
  clear H A n1 n2
  go_enter Try.func25, Try.ntmps25
  go_wp2_with (go_at_call 38; refine (good_yes _ _ n _ q _ hr hn h0 h1).mono ?_; rintro e w' ⟨rfl, rfl⟩)
  go_quiet (first | (go_at_call 18; exact quietS (slot_yes _ _ n _ q _ hr hn h2 h0 h1)) | (go_at_call 19; exact quietS (lap_yes _ _ n _ q _ hr hn h2 h0 h1)))
  generalize hi : (q % (n : Int)).toNat = i at *
  have hi' : i < n := by omega
  have HI := Lib.hid hi
  clear hi
  have H1 := HH.out.drewN nq
  have A1 := X.keep HA.out (Kept.drewN (fun _ => False) w nq) (fun _ _ h => h)
  go_wp2_with fail
  refine (hs t _ A1).mono ?_
  rintro e w1 ⟨rfl, A1, K1, Z1⟩
  have H1 := H1.kept K1 HN1.out HN2.out
  have S1 := H1.stamp i hi'
  rw [HE.out] at S1
  have hS := Lib.hid S1
  clear S1
  go_wp2_with fail
  refine (atomic_load _ _ _ hS.out).mono ?_
  rintro e w' ⟨rfl, rfl⟩
  go_wp2_with fail
  refine (hs _ _ A1).mono ?_
  rintro e w2 ⟨rfl, A2, K2, Z2⟩
  have H2 := H1.kept K2 HN1.out HN2.out
  go_wp2_with fail
  refine (atomic_load _ _ _ (H2.value i hi')).mono ?_
  rintro e w' ⟨rfl, rfl⟩
  go_wp2_with fail
  refine (hs _ _ A2).mono ?_
  rintro e w3 ⟨rfl, A3, K3, Z3⟩
  have H3 := H2.kept K3 HN1.out HN2.out
  have S3 := H3.stamp i hi'
  rw [HE.out] at S3
  have hS3 := Lib.hid S3
  clear S3
  go_wp2_with fail
  refine (atomic_load _ _ _ hS3.out).mono ?_
  rintro e w' ⟨rfl, rfl⟩
  have HZ := Lib.hid (And.intro Z1 (And.intro Z2 Z3))
  have HK := Lib.hid (And.intro K1 (And.intro K2 K3))
  have HX := Lib.hid A3
  clear Z1 Z2 Z3 K1 K2 K3 H1 H2 H3 A1 A2 A3 hr
  go_wp2
  go_ret2
  have z := HZ.out
  have k := HK.out
  simp at z
  rw [HI.out]
  exact ⟨rfl, (((Kept.drewN _ _ nq).trans k.1).trans k.2.1).trans k.2.2, by omega, HX.out⟩
theorem get_none (X : Stepper) (hs : X.Steps Try.prog 40) (t rb sb n : Nat) (st va : Nat → Int) (q : Int) (w : World) (H : RingAt w rb sb n st va) (h0 : 0 ≤ q) (h1 : q < 4611686018427387904) (he : st (q % n).toNat < 2 * (q / n)) (A : X.at_ t w) (n1 : ¬ X.own rb) (n2 : ¬ X.own sb) :
    Calls Try.prog 25 #[.pointer (some ⟨rb, 0, none⟩), X.v, .int .i64 q] w fun e w' => e = .returned (.tuple #[.int .i64 0, .int .i64 6]) ∧ Kept X.own w w' ∧ w'.heap.size = w.heap.size ∧ X.at_ (t + 1) w' := by
  have hn := H.pos
  have h2 := H.most
  have hr := H.ring
  have hb0 : 0 ≤ q % (n : Int) := Int.emod_nonneg _ (by omega)
  have hb1 : q % (n : Int) < n := Int.emod_lt_of_pos _ (by omega)
  have hd0 : 0 ≤ q / (n : Int) := Int.ediv_nonneg h0 (by omega)
  have hd1 : q / (n : Int) ≤ q := Int.ediv_le_self _ h0
  have HH := Lib.hid H
  have HA := Lib.hid A
  have HN1 := Lib.hid n1
  have HN2 := Lib.hid n2
  clear H A n1 n2
  go_enter Try.func25, Try.ntmps25
  go_wp2_with (go_at_call 38; refine (good_yes _ _ n _ q _ hr hn h0 h1).mono ?_; rintro e w' ⟨rfl, rfl⟩)
  go_quiet (first | (go_at_call 18; exact quietS (slot_yes _ _ n _ q _ hr hn h2 h0 h1)) | (go_at_call 19; exact quietS (lap_yes _ _ n _ q _ hr hn h2 h0 h1)))
  generalize hi : (q % (n : Int)).toNat = i at *
  have hi' : i < n := by omega
  have HI := Lib.hid hi
  clear hi
  have H1 := HH.out.drewN nq
  have A1 := X.keep HA.out (Kept.drewN (fun _ => False) w nq) (fun _ _ h => h)
  go_wp2_with fail
  refine (hs t _ A1).mono ?_
  rintro e w1 ⟨rfl, A1, K1, Z1⟩
  have H1 := H1.kept K1 HN1.out HN2.out
  have S1 := H1.stamp i hi'
  have hS := Lib.hid S1
  clear S1
  go_wp2_with fail
  refine (atomic_load _ _ _ hS.out).mono ?_
  rintro e w' ⟨rfl, rfl⟩
  have HZ := Lib.hid Z1
  have HK := Lib.hid K1
  have HX := Lib.hid A1
  clear Z1 K1 H1 A1 hr
  go_wp2
  go_ret2
  have z := HZ.out
  simp at z
  exact ⟨rfl, (Kept.drewN _ _ nq).trans HK.out, by omega, HX.out⟩
theorem get_lost (X : Stepper) (hs : X.Steps Try.prog 40) (t rb sb n : Nat) (st va : Nat → Int) (q : Int) (w : World) (H : RingAt w rb sb n st va) (h0 : 0 ≤ q) (h1 : q < 4611686018427387904) (he : 2 * (q / n) < st (q % n).toNat) (A : X.at_ t w) (n1 : ¬ X.own rb) (n2 : ¬ X.own sb) :
    Calls Try.prog 25 #[.pointer (some ⟨rb, 0, none⟩), X.v, .int .i64 q] w fun e w' => e = .returned (.tuple #[.int .i64 0, .int .i64 10]) ∧ Kept X.own w w' ∧ w'.heap.size = w.heap.size ∧ X.at_ (t + 1) w' := by
  have hn := H.pos
  have h2 := H.most
  have hr := H.ring
  have hb0 : 0 ≤ q % (n : Int) := Int.emod_nonneg _ (by omega)
  have hb1 : q % (n : Int) < n := Int.emod_lt_of_pos _ (by omega)
  have hd0 : 0 ≤ q / (n : Int) := Int.ediv_nonneg h0 (by omega)
  have hd1 : q / (n : Int) ≤ q := Int.ediv_le_self _ h0
  have HH := Lib.hid H
  have HA := Lib.hid A
  have HN1 := Lib.hid n1
  have HN2 := Lib.hid n2
  clear H A n1 n2
  go_enter Try.func25, Try.ntmps25
  go_wp2_with (go_at_call 38; refine (good_yes _ _ n _ q _ hr hn h0 h1).mono ?_; rintro e w' ⟨rfl, rfl⟩)
  go_quiet (first | (go_at_call 18; exact quietS (slot_yes _ _ n _ q _ hr hn h2 h0 h1)) | (go_at_call 19; exact quietS (lap_yes _ _ n _ q _ hr hn h2 h0 h1)))
  generalize hi : (q % (n : Int)).toNat = i at *
  have hi' : i < n := by omega
  have HI := Lib.hid hi
  clear hi
  have H1 := HH.out.drewN nq
  have A1 := X.keep HA.out (Kept.drewN (fun _ => False) w nq) (fun _ _ h => h)
  go_wp2_with fail
  refine (hs t _ A1).mono ?_
  rintro e w1 ⟨rfl, A1, K1, Z1⟩
  have H1 := H1.kept K1 HN1.out HN2.out
  have S1 := H1.stamp i hi'
  have hS := Lib.hid S1
  clear S1
  go_wp2_with fail
  refine (atomic_load _ _ _ hS.out).mono ?_
  rintro e w' ⟨rfl, rfl⟩
  have HZ := Lib.hid Z1
  have HK := Lib.hid K1
  have HX := Lib.hid A1
  clear Z1 K1 H1 A1 hr
  go_wp2
  go_ret2
  have z := HZ.out
  simp at z
  exact ⟨rfl, (Kept.drewN _ _ nq).trans HK.out, by omega, HX.out⟩

theorem Try.slotInfo : (Try.prog.info? 85).map (fun i => (i.zero, i.size, i.bytes)) = some (some (.agg #[.int .i64 0, .int .i64 0]), 2, 16) := by kernel_rfl
theorem made_zero (n j : Nat) (h : j < n * 2) : (madeCells #[.int .i64 0, .int .i64 0] (n * 2))[j]? = some (.int .i64 0) := by
  unfold madeCells
  rw [Array.getElem?_map, Array.getElem?_range, if_pos h]
  rcases Nat.mod_two_eq_zero_or_one j with e | e <;> simp [e]
theorem ring_made (w : World) (n : Nat) (hn : 0 < n) (h2 : n ≤ 65536) :
    RingAt ((w.alloc (.cells (madeCells #[.int .i64 0, .int .i64 0] (n * 2)) 85)).alloc (.cells #[.slice (some ⟨w.heap.size, 0, none⟩) n n] 66)) (w.heap.size + 1) w.heap.size n (fun _ => 0) (fun _ => 0) := by
  have b0 := Blk.new w 85 (madeCells #[.int .i64 0, .int .i64 0] (n * 2))
  have b1 := b0.alloc (.cells #[.slice (some ⟨w.heap.size, 0, none⟩) n n] 66)
  have b2 := Blk.new (w.alloc (.cells (madeCells #[.int .i64 0, .int .i64 0] (n * 2)) 85)) 66 #[.slice (some ⟨w.heap.size, 0, none⟩) n n]
  rw [World.size_alloc] at b2
  exact { ring := b2.cell 0, stamp := fun i hi => (b1.cell _).trans (made_zero n _ (by omega)), value := fun i hi => (b1.cell _).trans (made_zero n _ (by omega)), free := fun i => b1.frozen i, pos := hn, most := h2, ne := by omega, rlt := by simp, glt := by simp; omega }

theorem fill_succ (k : Nat) (a b : Int) : (fun j => if j < k + 1 then a else b) = upd (fun j => if j < k then a else b) k a := by
  funext j
  unfold upd
  dsimp only
  by_cases h : j = k
  · subst h; simp
  · rw [if_neg h]; by_cases h' : j < k
    · rw [if_pos h', if_pos (by omega)]
    · rw [if_neg h', if_neg (by omega)]
/-- A block of cells of which none is frozen. -/
def NearB (w : World) (b : Nat) : Prop := ∃ c t, w.heap[b]? = some (.cells c t (0, 0))
theorem NearB.set_ {w : World} {d i : Nat} {v : Value} {b : Nat} (h : NearB w b) : NearB (w.setCell ⟨d, i, none⟩ v) b := by
  obtain ⟨c, t, h⟩ := h
  by_cases e : b = d
  · subst e
    exact ⟨_, _, (show Blk w b t c from h).set_ i v⟩
  · exact ⟨c, t, (Below.heap_setCell _ _ _ _ e).trans h⟩
theorem new_near (n : Nat) (w : World) (hn : 0 < n) (h2 : n ≤ 65536) (hb : (bits BinOp.and IntKind.i64 (n : Int) ((n : Int) - 1) != 0) = false) : Calls Try.prog 12 #[.int .i64 n] w fun e w' => e = .returned (.tuple #[.pointer (some ⟨w.heap.size + 1, 0, none⟩), .int .i64 0]) ∧
    RingAt w' (w.heap.size + 1) w.heap.size n (fun _ => -2) (fun _ => 0) ∧ Below w.heap.size w w' ∧ w'.heap.size = w.heap.size + 2 ∧ NearB w' w.heap.size ∧ NearB w' (w.heap.size + 1) := by
  obtain ⟨i0, hi, hz0, hz1, hz2⟩ := info_parts Try.slotInfo
  have hmk := fun wx => run_make (P := Try.prog) wx 64 85 i0 _ Try.underlying64 hi hz0 .i64 .i64 n n (by omega) (by omega) (by rw [hz2]; omega) (by omega)
  simp only [Int.toNat_natCast, hz1, Value.cells] at hmk
  have h1 : (1 : Int) ≤ n := by omega
  have h3 : (n : Int) ≤ 65536 := by omega
  have hr := ring_made w n hn h2
  have hbel : Below w.heap.size w ((w.alloc (.cells (madeCells #[.int .i64 0, .int .i64 0] (n * 2)) 85)).alloc (.cells #[.slice (some ⟨w.heap.size, 0, none⟩) n n] 66)) := ((Below.refl _ _).alloc (Nat.le_refl _) _).alloc (by simp) _
  have hnear : NearB ((w.alloc (.cells (madeCells #[.int .i64 0, .int .i64 0] (n * 2)) 85)).alloc (.cells #[.slice (some ⟨w.heap.size, 0, none⟩) n n] 66)) w.heap.size ∧ NearB ((w.alloc (.cells (madeCells #[.int .i64 0, .int .i64 0] (n * 2)) 85)).alloc (.cells #[.slice (some ⟨w.heap.size, 0, none⟩) n n] 66)) (w.heap.size + 1) := by
    have hb := Blk.new (w.alloc (.cells (madeCells #[.int .i64 0, .int .i64 0] (n * 2)) 85)) 66 #[.slice (some ⟨w.heap.size, 0, none⟩) n n]
    rw [World.size_alloc] at hb
    exact ⟨⟨_, _, (Blk.new w 85 (madeCells #[.int .i64 0, .int .i64 0] (n * 2))).alloc _⟩, ⟨_, _, hb⟩⟩
  have HR := Lib.hid hr
  have HB := Lib.hid (And.intro hbel hnear)
  clear hr hbel hnear hz1 hz2 hz0 hi
  go_enter Try.func12, Try.ntmps12
  go_wp2
  go_loopw [28] (fun i wr => ∃ k : Nat, k ≤ n ∧ i = .int .i64 k ∧ RingAt wr (w.heap.size + 1) w.heap.size n (fun j => if j < k then -2 else 0) (fun _ => 0) ∧ (Below w.heap.size w wr ∧ NearB wr w.heap.size ∧ NearB wr (w.heap.size + 1)) ∧ wr.heap.size = w.heap.size + 2) (fun i _ => n - (intOf i).toNat)
  case atStart => exact ⟨0, Nat.zero_le _, rfl, by simpa using HR.out, HB.out, by simp⟩
  case round =>
    obtain ⟨k, hk, rfl, H, hbl, hsz⟩ := hrel
    have hring := H.ring
    have HH := Lib.hid H
    have HS := Lib.hid hsz
    clear hmk hb H hsz
    by_cases hlt : k < n
    · go_wp2_with (go_at_call 36; refine (atomic_store _ _ _ _ (HH.out.stamp k hlt) (HH.out.free _)).mono ?_; rintro e w' ⟨rfl, rfl⟩)
      go_roundw
      case rel =>
        refine ⟨k + 1, by omega, by go_num, ?_, ⟨hbl.1.setCell (by simp) _, hbl.2.1.set_, hbl.2.2.set_⟩, by simpa using HS.out⟩
        rw [fill_succ]
        exact HH.out.setStamp hlt (-2)
      case measure => simp [intOf]; omega
    · go_wp2
      go_ret2
      refine ⟨rfl, ⟨HH.out.ring, fun i hi => ?_, HH.out.value, HH.out.free, HH.out.pos, HH.out.most, HH.out.ne, HH.out.rlt, HH.out.glt⟩, hbl.1, HS.out, hbl.2⟩
      have h := HH.out.stamp i hi
      rwa [if_pos (by omega)] at h
theorem new_ok (n : Nat) (w : World) (hn : 0 < n) (h2 : n ≤ 65536) (hb : (bits BinOp.and IntKind.i64 (n : Int) ((n : Int) - 1) != 0) = false) : Calls Try.prog 12 #[.int .i64 n] w fun e w' => e = .returned (.tuple #[.pointer (some ⟨w.heap.size + 1, 0, none⟩), .int .i64 0]) ∧
    RingAt w' (w.heap.size + 1) w.heap.size n (fun _ => -2) (fun _ => 0) ∧ Below w.heap.size w w' ∧ w'.heap.size = w.heap.size + 2 :=
  (new_near n w hn h2 hb).mono fun _ _ ⟨h1, h2, h3, h4, _⟩ => ⟨h1, h2, h3, h4⟩
end Go.Proofs.Yteainbnoemkfcaa
/- DERIVED. The ring of slots (package slots) among threads: Put and Get as trees. -/
namespace Go.Proofs.Yteainbnoemkfcaa
open Go.RowKit Go.Turn Go.Tame Go.Conc
set_option linter.unusedVariables false
abbrev RSt : Type := (Nat → Int) × (Nat → Int)
/-- The ring in memory, its two blocks near. -/
structure RAt (rb sb n : Nat) (a : RSt) (w : World) : Prop where
  r : RingAt w rb sb n a.1 a.2
  b1 : ∃ c t, w.heap[rb]? = some (.cells c t (0, 0))
  b2 : ∃ c t, w.heap[sb]? = some (.cells c t (0, 0))
theorem RAt.law {rb sb n : Nat} (a : RSt) (w w' : World) (h : RAt rb sb n a w) (hs : ∀ b, b = rb ∨ b = sb → w'.heap[b]? = w.heap[b]?) : RAt rb sb n a w' := by
  have h1 := hs rb (.inl rfl)
  have h2 := hs sb (.inr rfl)
  obtain ⟨c1, t1, e1⟩ := h.b1
  obtain ⟨c2, t2, e2⟩ := h.b2
  exact ⟨⟨(World.cell?_of_block (w := w) h1).trans h.r.ring, fun i hi => (World.cell?_of_block (w := w) (a := ⟨sb, i * 2, none⟩) h2).trans (h.r.stamp i hi), fun i hi => (World.cell?_of_block (w := w) (a := ⟨sb, i * 2 + 1, none⟩) h2).trans (h.r.value i hi), fun i => (World.frozen?_of_block (w := w) (a := ⟨sb, i, none⟩) h2).trans (h.r.free i), h.r.pos, h.r.most, h.r.ne, lt_of_some (h1.trans e1), lt_of_some (h2.trans e2)⟩, ⟨c1, t1, h1.trans e1⟩, ⟨c2, t2, h2.trans e2⟩⟩
/-- The ring as an inner state. -/
def ringI (rb sb rn : Nat) : Inner := ⟨RSt, RAt rb sb rn, fun b => b = rb ∨ b = sb, RAt.law⟩
abbrev OpsB.ring (B : OpsB) (rb sb rn : Nat) (good : OpI → Prop) : OpsD := B.on (ringI rb sb rn) good
theorem held_in {H : Nat → Prop} (w : World) {p : Addr} (hp : H p.block) (v : Value) : Held H w H (w.setCell p v) :=
  ⟨by simp [World.setCell], fun b c t r hb hn _ => ⟨(Below.heap_setCell _ _ _ _ (fun e => hn (by rw [e]; exact hp))).trans hb, hn⟩⟩
theorem set_near {w : World} {d i : Nat} {v : Value} {b : Nat} (h : ∃ c t, w.heap[b]? = some (.cells c t (0, 0))) : ∃ c t, (w.setCell ⟨d, i, none⟩ v).heap[b]? = some (.cells c t (0, 0)) := by
  obtain ⟨c, t, h⟩ := h
  by_cases e : b = d
  · subst e
    exact ⟨_, _, (show Blk w b t c from h).set_ i v⟩
  · exact ⟨c, t, (Below.heap_setCell _ _ _ _ e).trans h⟩
section
variable {B : OpsB} {rb sb rn : Nat} {good : OpI → Prop}
theorem ring_stamp {s : (B.ring rb sb rn good).St} {H : Nat → Prop} {w : World} (h : RepO (B.ring rb sb rn good) s H w) {i : Nat} (hi : i < rn) (x : Int) : RepO (B.ring rb sb rn good) ((upd s.1.1 i x, s.1.2), s.2) H (w.setCell ⟨sb, i * 2, none⟩ (.int .i64 x)) ∧ Held H w H (w.setCell ⟨sb, i * 2, none⟩ (.int .i64 x)) := by
  have ha : RAt rb sb rn s.1 w := h.at_
  have hn : RAt rb sb rn (upd s.1.1 i x, s.1.2) (w.setCell ⟨sb, i * 2, none⟩ (.int .i64 x)) := ⟨ha.r.setStamp hi x, set_near ha.b1, set_near ha.b2⟩
  refine ⟨h.inner (a' := (upd s.1.1 i x, s.1.2)) hn (fun b hb hbi => Below.heap_setCell _ _ _ _ (fun e => hbi (.inr e))) (fun b hb => ?_), held_in w (h.bi sb (.inr rfl)) _⟩
  rcases hb with rfl | rfl
  · obtain ⟨c, t, e⟩ := hn.b1; exact ⟨c, t, _, e, by decide⟩
  · obtain ⟨c, t, e⟩ := hn.b2; exact ⟨c, t, _, e, by decide⟩
theorem ring_value {s : (B.ring rb sb rn good).St} {H : Nat → Prop} {w : World} (h : RepO (B.ring rb sb rn good) s H w) {i : Nat} (hi : i < rn) (x : Int) : RepO (B.ring rb sb rn good) ((s.1.1, upd s.1.2 i x), s.2) H (w.setCell ⟨sb, i * 2 + 1, none⟩ (.int .i64 x)) ∧ Held H w H (w.setCell ⟨sb, i * 2 + 1, none⟩ (.int .i64 x)) := by
  have ha : RAt rb sb rn s.1 w := h.at_
  have hn : RAt rb sb rn (s.1.1, upd s.1.2 i x) (w.setCell ⟨sb, i * 2 + 1, none⟩ (.int .i64 x)) := ⟨ha.r.setValue hi x, set_near ha.b1, set_near ha.b2⟩
  refine ⟨h.inner (a' := (s.1.1, upd s.1.2 i x)) hn (fun b hb hbi => Below.heap_setCell _ _ _ _ (fun e => hbi (.inr e))) (fun b hb => ?_), held_in w (h.bi sb (.inr rfl)) _⟩
  rcases hb with rfl | rfl
  · obtain ⟨c, t, e⟩ := hn.b1; exact ⟨c, t, _, e, by decide⟩
  · obtain ⟨c, t, e⟩ := hn.b2; exact ⟨c, t, _, e, by decide⟩
end
/-- A package's own step, at a stand. -/
theorem method_stand (n : Nat) (a : Addr) (w : World) : (method (n + 1) 116 (.pointer (some a)) "Step").run Try.prog w = .ok (79, .pointer (some a)) w := by kernel_rfl
set_option maxRecDepth 100000 in
theorem slots_step {D : OpsD} {L : Lg Try.prog (Tree D.St D.St)} {Cap : (Nat → Prop) → World → Prop} {sb : Nat} (hre : ∀ H w τ n, Cap H w → Cap H (w.re τ n)) (hcap : ∀ H w H' w', Cap H w → Held H w H' w' → Cap H' w') (hS : StepO D L Cap sb) (s : D.St) (H : Nat → Prop) (k : D.St → Tree D.St D.St) (w : World) (hr : RepO D s H w) (hc : Cap H w) :
    Ccalls L 40 #[.iface 116 (.pointer (some ⟨sb, 0, none⟩))] (.yield s k) w fun u t' w' => u = .tuple #[] ∧ ∃ s' H', t' = k s' ∧ (RepO D s' H' w' ∧ Cap H' w') ∧ Held H w H' w' := by
  intro c mid hR
  rw [show Frame.enter Try.prog 40 #[.iface 116 (.pointer (some ⟨sb, 0, none⟩))] .normal = Frame.at { (default : Frame) with fn := 40, kind := .normal } ⟨#[.iface 116 (.pointer (some ⟨sb, 0, none⟩))] ++ Array.replicate (Try.f40.ntmps - 1) undef, []⟩ [.code (Try.f40.body.getD .skip)] from by simp [Frame.enter, Frame.at, Try.func40]; rfl]
  simp only [Try.f40, Option.getD_some, Nat.reduceSub, Array.replicate_succ, Array.replicate_zero, List.push_toArray, List.append_toArray, List.nil_append, List.cons_append]
  refine Lg.move _ (fun _ _ => step_seq) (fun h => h) ?_
  have HR := Lib.hid hR
  have Hr := Lib.hid hr
  clear hR hr
  refine Lg.code fun K hK y τ n hy => ?_
  go_wp2
  refine hK _ _ (fun _ => rfl) ?_
  clear hK K
  subst hy
  refine Lg.move _ (fun _ _ => step_cond rfl) (fun h => h) ?_
  refine Lg.move _ (fun _ _ => step_region) (fun h => h) ?_
  refine Lg.pre 0 1 1 (by simp) fun K hK z τ3 n3 hz => ?_
  subst hz
  have hr : RepO D s H z := Hr.out.re.re
  have hc : Cap H z := hcap _ _ _ _ hc (re_held.2 (re_held.2 (Held.refl _ _)))
  have hm := fun wx => method_stand 244 ⟨sb, 0, none⟩ wx
  go_wp2
  refine hK _ _ (fun _ => rfl) ?_
  clear hK K
  refine Lg.call (i := 1) (rest := []) (f := 79) (args := #[.pointer (some ⟨sb, 0, none⟩)]) rfl rfl (fun y => ?_) (hS s H k z hr hc) ?_
  · go_simp
  rintro vv t' w' ⟨rfl, s', H', rfl, ⟨hr', hc'⟩, hh⟩
  rw [Frame.finish_at]
  walk_nrm
  refine Lg.move _ (fun _ _ => step_region_end) (fun h => h) ?_
  refine Lg.move _ (fun _ _ => step_end) (fun h => h) ?_
  exact Lg.leave rfl Try.func40 rfl (fun _ _ _ _ => by simp [results, Try.f40]) (HR.out _ _ _ ⟨rfl, s', H', rfl, ⟨hr', hc'⟩, re_held.2 (re_held.2 hh)⟩)
/-- Where a thread stands, since w0. -/
structure Now (D : OpsD) (Cap : (Nat → Prop) → World → Prop) (H0 : Nat → Prop) (w0 : World) (s : D.St) (H : Nat → Prop) (w : World) : Prop where
  rep : RepO D s H w
  cap0 : Cap H0 w0
  held : Held H0 w0 H w
/-- The cap is kept. -/
def CapK (Cap : (Nat → Prop) → World → Prop) : Prop := ∀ H w H' w', Cap H w → Held H w H' w' → Cap H' w'
theorem Now.re {D : OpsD} {Cap : (Nat → Prop) → World → Prop} {H0 H : Nat → Prop} {w0 y : World} {s : D.St} {τ : Nat → Question → Nat} {n : Nat} (hk : CapK Cap) (h : Now D Cap H0 w0 s H (y.re τ n)) : Now D Cap H0 w0 s H y :=
  ⟨h.rep.re, h.cap0, held_re.1 h.held⟩
theorem Now.to {D : OpsD} {Cap : (Nat → Prop) → World → Prop} {H0 H H' : Nat → Prop} {w0 w w' : World} {s s' : D.St} (hk : CapK Cap) (h : Now D Cap H0 w0 s H w) (h' : RepO D s' H' w' ∧ Held H w H' w') : Now D Cap H0 w0 s' H' w' :=
  ⟨h'.1, h.cap0, h.held.trans h'.2⟩
/-- A package's own step, from here. -/
def SStep (D : OpsD) (L : Lg Try.prog (Tree D.St D.St)) (Cap : (Nat → Prop) → World → Prop) (f : FuncId) (v : Value) : Prop :=
  ∀ H0 w0 s H k w, Now D Cap H0 w0 s H w → Ccalls L f #[v] (.yield s k) w fun u t' w' => u = .tuple #[] ∧ ∃ s' H', t' = k s' ∧ Now D Cap H0 w0 s' H' w'
theorem slots_sstep {D : OpsD} {L : Lg Try.prog (Tree D.St D.St)} {Cap : (Nat → Prop) → World → Prop} {sb : Nat} (hre : ∀ H w τ n, Cap H w → Cap H (w.re τ n)) (hcap : CapK Cap) (hS : StepO D L Cap sb) : SStep D L Cap 40 (.iface 116 (.pointer (some ⟨sb, 0, none⟩))) :=
  fun H0 w0 s H k w h => (slots_step hre hcap hS s H k w h.rep (hcap _ _ _ _ h.cap0 h.held)).mono fun v t' w' ⟨e, s', H', e2, h2, h3⟩ => ⟨e, s', H', e2, h2.1, h.cap0, h.held.trans h3⟩
/-- Put as a tree. -/
def putT {R : Type} (n : Nat) (q v : Int) (s : RSt × R) (k : RSt × R → Tree (RSt × R) (RSt × R)) : Tree (RSt × R) (RSt × R) :=
  .yield s fun s1 => .yield ((upd s1.1.1 (q % n).toNat (2 * (q / n) - 1), s1.1.2), s1.2) fun s2 => .yield ((s2.1.1, upd s2.1.2 (q % n).toNat v), s2.2) fun s3 => k ((upd s3.1.1 (q % n).toNat (2 * (q / n)), s3.1.2), s3.2)
theorem Now.drewN {D : OpsD} {Cap : (Nat → Prop) → World → Prop} {H0 H : Nat → Prop} {w0 y : World} {s : D.St} (hk : CapK Cap) (h : Now D Cap H0 w0 s H y) (n : Nat) : Now D Cap H0 w0 s H (y.drewN n) :=
  Now.re (τ := y.tape) (n := y.drawn) hk h
set_option maxHeartbeats 2000000 in
set_option maxRecDepth 100000 in
theorem slots_put {B : OpsB} {rb sb rn : Nat} {good : OpI → Prop} {L : Lg Try.prog (Tree (B.ring rb sb rn good).St (B.ring rb sb rn good).St)} {Cap : (Nat → Prop) → World → Prop} {V : Value} (hk : CapK Cap) (hS : SStep (B.ring rb sb rn good) L Cap 40 V) (hrn : 0 < rn) (h2 : rn ≤ 65536) (q v : Int) (h0 : 0 ≤ q) (h1 : q < 4611686018427387904) (H0 : Nat → Prop) (w0 : World) (s : (B.ring rb sb rn good).St) (H : Nat → Prop) (k) (w : World) (hn : Now (B.ring rb sb rn good) Cap H0 w0 s H w) :
    Ccalls L 23 #[.pointer (some ⟨rb, 0, none⟩), V, .int .i64 q, .int .i64 v] (putT rn q v s k) w fun u t' w' => u = .int .i64 0 ∧ ∃ s' H', t' = k s' ∧ Now (B.ring rb sb rn good) Cap H0 w0 s' H' w' := by
  have hb0 : 0 ≤ q % (rn : Int) := Int.emod_nonneg _ (by omega)
  have hb1 : q % (rn : Int) < rn := Int.emod_lt_of_pos _ (by omega)
  have hd0 : 0 ≤ q / (rn : Int) := Int.ediv_nonneg h0 (by omega)
  have hd1 : q / (rn : Int) ≤ q := Int.ediv_le_self _ h0
  intro c mid hR
  have HR := Lib.hid hR
  have HN := Lib.hid hn
  clear hR hn
  rw [show Frame.enter Try.prog 23 #[.pointer (some ⟨rb, 0, none⟩), V, .int .i64 q, .int .i64 v] .normal = Frame.at { (default : Frame) with fn := 23, kind := .normal } ⟨#[.pointer (some ⟨rb, 0, none⟩), V, .int .i64 q, .int .i64 v] ++ Array.replicate (Try.f23.ntmps - 4) undef, []⟩ [.code (Try.f23.body.getD .skip)] from by simp [Frame.enter, Frame.at, Try.func23]; rfl]
  simp only [Try.f23, Option.getD_some, Nat.reduceSub, Array.replicate_succ, Array.replicate_zero, List.push_toArray, List.append_toArray, List.nil_append, List.cons_append]
  unfold putT
  refine Lg.move _ (fun _ _ => step_seq) (fun h => h) ?_
  refine Lg.code fun K hK y τ n' hy => ?_
  subst hy
  have hn := HN.out.re hk
  clear HN
  have hr := (show RAt rb sb rn _ y from hn.rep.at_).r.ring
  have HN := Lib.hid hn
  clear hn
  go_wp2
  refine hK _ _ (fun _ => rfl) ?_
  clear hK K hr
  refine Lg.move _ (fun _ _ => step_seq) (fun h => h) ?_
  refine Lg.code fun K hK y τ n' hy => ?_
  subst hy
  have hn := HN.out.re hk
  clear HN
  have hr := (show RAt rb sb rn _ y from hn.rep.at_).r.ring
  have HN := Lib.hid hn
  clear hn
  go_wp2_with (go_at_call 38; refine (good_yes _ _ rn _ q _ hr hrn h0 h1).mono ?_; rintro e w' ⟨rfl, rfl⟩)
  refine hK _ _ (fun _ => rfl) ?_
  clear hK K hr
  refine Lg.move _ (fun _ _ => step_seq) (fun h => h) ?_
  refine Lg.code fun K hK y τ n' hy => ?_
  subst hy
  have hn := HN.out.re hk
  clear HN
  have hr := (show RAt rb sb rn _ y from hn.rep.at_).r.ring
  have HN := Lib.hid hn
  clear hn
  go_quiet (first | (go_at_call 18; exact quietS (slot_yes _ _ rn _ q _ hr hrn h2 h0 h1)) | (go_at_call 19; exact quietS (lap_yes _ _ rn _ q _ hr hrn h2 h0 h1)))
  refine hK _ _ (fun _ => rfl) ?_
  clear hK K hr
  have hn := HN.out.drewN hk nq
  generalize World.drewN _ nq = y' at hn ⊢
  clear HN
  have HN := Lib.hid hn
  clear hn
  refine Lg.move _ (fun _ _ => step_seq) (fun h => h) ?_
  refine Lg.move _ (fun _ _ => step_region) (fun h => h) ?_
  refine Lg.pre 0 1 1 (by simp) fun K hK z τ n' hz => ?_
  subst hz
  go_wp2
  refine hK _ _ (fun _ => rfl) ?_
  clear hK K
  refine Lg.call (i := 1) (rest := []) (f := 40) (args := #[V]) rfl rfl (fun y => by go_simp) (hS _ _ _ _ _ _ (HN.out.re hk)) ?_
  rintro vv t' w' ⟨rfl, s, H, rfl, hn⟩
  clear HN
  rw [Frame.finish_at]
  walk_nrm
  refine Lg.move _ (fun _ _ => step_region_end) (fun h => h) ?_
  have HN := Lib.hid hn
  clear hn
  refine Lg.move _ (fun _ _ => step_seq) (fun h => h) ?_
  refine Lg.code fun K hK y τ n' hy => ?_
  subst hy
  have hn := HN.out.re hk
  clear HN
  have hat : RAt rb sb rn _ y := hn.rep.at_
  have s0 := hat.r.stamp (q % (rn : Int)).toNat (by omega)
  have z0 := hat.r.free ((q % (rn : Int)).toNat * 2)
  have HN := Lib.hid hn
  clear hn hat
  go_wp2_with (go_at_call 36; refine (atomic_store _ _ _ _ s0 z0).mono ?_; rintro e w' ⟨rfl, rfl⟩)
  refine hK _ _ (fun _ => rfl) ?_
  clear hK K s0 z0
  have hn := HN.out.to hk (ring_stamp HN.out.rep (i := (q % (rn : Int)).toNat) (by omega) (2 * (q / (rn : Int)) - 1))
  clear HN
  have HN := Lib.hid hn
  clear hn
  generalize World.setCell _ _ _ = y' at HN ⊢
  refine Lg.move _ (fun _ _ => step_seq) (fun h => h) ?_
  refine Lg.move _ (fun _ _ => step_region) (fun h => h) ?_
  refine Lg.pre 0 1 1 (by simp) fun K hK z τ n' hz => ?_
  subst hz
  go_wp2
  refine hK _ _ (fun _ => rfl) ?_
  clear hK K
  refine Lg.call (i := 1) (rest := []) (f := 40) (args := #[V]) rfl rfl (fun y => by go_simp) (hS _ _ _ _ _ _ (HN.out.re hk)) ?_
  rintro vv t' w' ⟨rfl, s, H, rfl, hn⟩
  clear HN
  rw [Frame.finish_at]
  walk_nrm
  refine Lg.move _ (fun _ _ => step_region_end) (fun h => h) ?_
  have HN := Lib.hid hn
  clear hn
  refine Lg.move _ (fun _ _ => step_seq) (fun h => h) ?_
  refine Lg.code fun K hK y τ n' hy => ?_
  subst hy
  have hn := HN.out.re hk
  clear HN
  have hat : RAt rb sb rn _ y := hn.rep.at_
  have s0 := hat.r.value (q % (rn : Int)).toNat (by omega)
  have z0 := hat.r.free ((q % (rn : Int)).toNat * 2 + 1)
  have HN := Lib.hid hn
  clear hn hat
  go_wp2_with (go_at_call 36; refine (atomic_store _ _ _ _ s0 z0).mono ?_; rintro e w' ⟨rfl, rfl⟩)
  refine hK _ _ (fun _ => rfl) ?_
  clear hK K s0 z0
  have hn := HN.out.to hk (ring_value HN.out.rep (i := (q % (rn : Int)).toNat) (by omega) v)
  clear HN
  have HN := Lib.hid hn
  clear hn
  generalize World.setCell _ _ _ = y' at HN ⊢
  refine Lg.move _ (fun _ _ => step_seq) (fun h => h) ?_
  refine Lg.move _ (fun _ _ => step_region) (fun h => h) ?_
  refine Lg.pre 0 1 1 (by simp) fun K hK z τ n' hz => ?_
  subst hz
  go_wp2
  refine hK _ _ (fun _ => rfl) ?_
  clear hK K
  refine Lg.call (i := 1) (rest := []) (f := 40) (args := #[V]) rfl rfl (fun y => by go_simp) (hS _ _ _ _ _ _ (HN.out.re hk)) ?_
  rintro vv t' w' ⟨rfl, s, H, rfl, hn⟩
  clear HN
  rw [Frame.finish_at]
  walk_nrm
  refine Lg.move _ (fun _ _ => step_region_end) (fun h => h) ?_
  have HN := Lib.hid hn
  clear hn
  refine Lg.move _ (fun _ _ => step_seq) (fun h => h) ?_
  refine Lg.code fun K hK y τ n' hy => ?_
  subst hy
  have hn := HN.out.re hk
  clear HN
  have hat : RAt rb sb rn _ y := hn.rep.at_
  have s0 := hat.r.stamp (q % (rn : Int)).toNat (by omega)
  have z0 := hat.r.free ((q % (rn : Int)).toNat * 2)
  have HN := Lib.hid hn
  clear hn hat
  go_wp2_with (go_at_call 36; refine (atomic_store _ _ _ _ s0 z0).mono ?_; rintro e w' ⟨rfl, rfl⟩)
  refine hK _ _ (fun _ => rfl) ?_
  clear hK K s0 z0
  have hn := HN.out.to hk (ring_stamp HN.out.rep (i := (q % (rn : Int)).toNat) (by omega) (2 * (q / (rn : Int))))
  clear HN
  have HN := Lib.hid hn
  clear hn
  generalize World.setCell _ _ _ = y' at HN ⊢
  refine Lg.move _ (fun _ _ => step_seq) (fun h => h) ?_
  refine Lg.code fun K hK y τ n' hy => ?_
  subst hy
  have hn := HN.out.re hk
  clear HN
  have HN := Lib.hid hn
  clear hn
  go_wp2
  refine hK _ _ (fun _ => rfl) ?_
  refine Lg.move _ (fun _ _ => step_ret) (fun h => h) ?_
  refine Lg.leave rfl Try.func23 rfl (v := .int .i64 0) (fun _ _ _ _ => by simp [results, Try.f23]) (HR.out _ _ _ ⟨rfl, _, H, rfl, HN.out⟩)
/-- Get as a tree: a value and a reason. -/
def getT {R : Type} (n : Nat) (q : Int) (s : RSt × R) (k : Int → Int → RSt × R → Tree (RSt × R) (RSt × R)) : Tree (RSt × R) (RSt × R) :=
  .yield s fun s1 => if s1.1.1 (q % n).toNat < 2 * (q / n) then k 0 6 s1 else if 2 * (q / n) < s1.1.1 (q % n).toNat then k 0 10 s1 else
    .yield s1 fun s2 => .yield s2 fun s3 => if s3.1.1 (q % n).toNat = s1.1.1 (q % n).toNat then k (s2.1.2 (q % n).toNat) 0 s3 else k 0 10 s3
set_option maxHeartbeats 4000000 in
set_option maxRecDepth 100000 in
theorem slots_get {B : OpsB} {rb sb rn : Nat} {good : OpI → Prop} {L : Lg Try.prog (Tree (B.ring rb sb rn good).St (B.ring rb sb rn good).St)} {Cap : (Nat → Prop) → World → Prop} {V : Value} (hk : CapK Cap) (hS : SStep (B.ring rb sb rn good) L Cap 40 V) (hrn : 0 < rn) (h2 : rn ≤ 65536) (q : Int) (h0 : 0 ≤ q) (h1 : q < 4611686018427387904) (H0 : Nat → Prop) (w0 : World) (s : (B.ring rb sb rn good).St) (H : Nat → Prop) (k) (w : World) (hn : Now (B.ring rb sb rn good) Cap H0 w0 s H w) :
    Ccalls L 25 #[.pointer (some ⟨rb, 0, none⟩), V, .int .i64 q] (getT rn q s k) w fun u t' w' => ∃ x e s' H', u = .tuple #[.int .i64 x, .int .i64 e] ∧ t' = k x e s' ∧ Now (B.ring rb sb rn good) Cap H0 w0 s' H' w' := by
  have hb0 : 0 ≤ q % (rn : Int) := Int.emod_nonneg _ (by omega)
  have hb1 : q % (rn : Int) < rn := Int.emod_lt_of_pos _ (by omega)
  have hd0 : 0 ≤ q / (rn : Int) := Int.ediv_nonneg h0 (by omega)
  have hd1 : q / (rn : Int) ≤ q := Int.ediv_le_self _ h0
  intro c mid hR
  have HR := Lib.hid hR
  have HN := Lib.hid hn
  clear hR hn
  rw [show Frame.enter Try.prog 25 #[.pointer (some ⟨rb, 0, none⟩), V, .int .i64 q] .normal = Frame.at { (default : Frame) with fn := 25, kind := .normal } ⟨#[.pointer (some ⟨rb, 0, none⟩), V, .int .i64 q] ++ Array.replicate (Try.f25.ntmps - 3) undef, []⟩ [.code (Try.f25.body.getD .skip)] from by simp [Frame.enter, Frame.at, Try.func25]; rfl]
  simp only [Try.f25, Option.getD_some, Nat.reduceSub, Array.replicate_succ, Array.replicate_zero, List.push_toArray, List.append_toArray, List.nil_append, List.cons_append]
  unfold getT
  refine Lg.move _ (fun _ _ => step_seq) (fun h => h) ?_
  refine Lg.code fun K hK y τ n' hy => ?_
  subst hy
  have hn := HN.out.re hk
  clear HN
  have hr := (show RAt rb sb rn _ y from hn.rep.at_).r.ring
  have HN := Lib.hid hn
  clear hn
  go_wp2
  refine hK _ _ (fun _ => rfl) ?_
  clear hK K hr
  refine Lg.move _ (fun _ _ => step_seq) (fun h => h) ?_
  refine Lg.code fun K hK y τ n' hy => ?_
  subst hy
  have hn := HN.out.re hk
  clear HN
  have hr := (show RAt rb sb rn _ y from hn.rep.at_).r.ring
  have HN := Lib.hid hn
  clear hn
  go_wp2_with (go_at_call 38; refine (good_yes _ _ rn _ q _ hr hrn h0 h1).mono ?_; rintro e w' ⟨rfl, rfl⟩)
  refine hK _ _ (fun _ => rfl) ?_
  clear hK K hr
  refine Lg.move _ (fun _ _ => step_seq) (fun h => h) ?_
  refine Lg.code fun K hK y τ n' hy => ?_
  subst hy
  have hn := HN.out.re hk
  clear HN
  have hr := (show RAt rb sb rn _ y from hn.rep.at_).r.ring
  have HN := Lib.hid hn
  clear hn
  go_quiet (first | (go_at_call 18; exact quietS (slot_yes _ _ rn _ q _ hr hrn h2 h0 h1)) | (go_at_call 19; exact quietS (lap_yes _ _ rn _ q _ hr hrn h2 h0 h1)))
  refine hK _ _ (fun _ => rfl) ?_
  clear hK K hr
  have hn := HN.out.drewN hk nq
  generalize World.drewN _ nq = y' at hn ⊢
  clear HN
  have HN := Lib.hid hn
  clear hn
  refine Lg.move _ (fun _ _ => step_seq) (fun h => h) ?_
  refine Lg.move _ (fun _ _ => step_region) (fun h => h) ?_
  refine Lg.pre 0 1 1 (by simp) fun K hK z τ n' hz => ?_
  subst hz
  go_wp2
  refine hK _ _ (fun _ => rfl) ?_
  clear hK K
  refine Lg.call (i := 1) (rest := []) (f := 40) (args := #[V]) rfl rfl (fun y => by go_simp) (hS _ _ _ _ _ _ (HN.out.re hk)) ?_
  rintro vv t' w' ⟨rfl, s, H, rfl, hn⟩
  clear HN
  rw [Frame.finish_at]
  walk_nrm
  refine Lg.move _ (fun _ _ => step_region_end) (fun h => h) ?_
  have HN := Lib.hid hn
  clear hn
  refine Lg.move _ (fun _ _ => step_seq) (fun h => h) ?_
  refine Lg.code fun K hK y τ n' hy => ?_
  subst hy
  have hn := HN.out.re hk
  clear HN
  have hat : RAt rb sb rn _ y := hn.rep.at_
  have s0 := hat.r.stamp (q % (rn : Int)).toNat (by omega)
  have HN := Lib.hid hn
  clear hn hat
  go_wp2_with (go_at_call 39; refine (atomic_load _ _ _ s0).mono ?_; rintro e w' ⟨rfl, rfl⟩)
  refine hK _ _ (fun _ => rfl) ?_
  clear hK K s0
  generalize hx : s.1.1 (q % (rn : Int)).toNat = x
  refine Lg.move _ (fun _ _ => step_seq) (fun h => h) ?_
  refine Lg.move _ (fun _ _ => step_block) (fun h => h) ?_
  refine Lg.move _ (fun _ _ => step_seq) (fun h => h) ?_
  refine Lg.code fun K hK y τ n' hy => ?_
  subst hy
  have hn := HN.out.re hk
  clear HN
  have HN := Lib.hid hn
  clear hn
  go_wp2
  refine hK _ _ (fun _ => rfl) ?_
  clear hK K
  by_cases hlt : x < 2 * (q / (rn : Int))
  · simp only [hlt, decide_true, if_true]
    refine Lg.move _ (fun _ _ => step_cond (t := true) rfl) (fun h => h) ?_
    refine Lg.move _ (fun _ _ => step_seq) (fun h => h) ?_
    refine Lg.code fun K hK y τ n' hy => ?_
    subst hy
    have hn := HN.out.re hk
    clear HN
    have HN := Lib.hid hn
    clear hn
    go_wp2
    refine hK _ _ (fun _ => rfl) ?_
    clear hK K
    refine Lg.move _ (fun _ _ => step_ret) (fun h => h) ?_
    refine Lg.leave rfl Try.func25 rfl (v := .tuple #[.int .i64 0, .int .i64 6]) (fun _ _ _ _ => by simp [results, Try.f25]) (HR.out _ _ _ ⟨_, _, _, H, rfl, rfl, HN.out⟩)
  simp only [hlt, decide_false, if_false]
  refine Lg.move _ (fun _ _ => step_cond (t := false) rfl) (fun h => h) ?_
  refine Lg.move _ (fun _ _ => step_seq) (fun h => h) ?_
  refine Lg.code fun K hK y τ n' hy => ?_
  subst hy
  have hn := HN.out.re hk
  clear HN
  have HN := Lib.hid hn
  clear hn
  go_wp2
  refine hK _ _ (fun _ => rfl) ?_
  clear hK K
  by_cases hgt : 2 * (q / (rn : Int)) < x
  · simp only [hgt, decide_true, if_true]
    refine Lg.move _ (fun _ _ => step_cond (t := true) rfl) (fun h => h) ?_
    refine Lg.move _ (fun _ _ => step_seq) (fun h => h) ?_
    refine Lg.code fun K hK y τ n' hy => ?_
    subst hy
    have hn := HN.out.re hk
    clear HN
    have HN := Lib.hid hn
    clear hn
    go_wp2
    refine hK _ _ (fun _ => rfl) ?_
    clear hK K
    refine Lg.move _ (fun _ _ => step_ret) (fun h => h) ?_
    refine Lg.leave rfl Try.func25 rfl (v := .tuple #[.int .i64 0, .int .i64 10]) (fun _ _ _ _ => by simp [results, Try.f25]) (HR.out _ _ _ ⟨_, _, _, H, rfl, rfl, HN.out⟩)
  simp only [hgt, decide_false, if_false]
  refine Lg.move _ (fun _ _ => step_cond (t := false) rfl) (fun h => h) ?_
  refine Lg.move _ (fun _ _ => step_skip) (fun h => h) ?_
  refine Lg.move _ (fun _ _ => step_inBlock) (fun h => h) ?_
  refine Lg.move _ (fun _ _ => step_seq) (fun h => h) ?_
  refine Lg.move _ (fun _ _ => step_region) (fun h => h) ?_
  refine Lg.pre 0 1 1 (by simp) fun K hK z τ n' hz => ?_
  subst hz
  go_wp2
  refine hK _ _ (fun _ => rfl) ?_
  clear hK K
  refine Lg.call (i := 1) (rest := []) (f := 40) (args := #[V]) rfl rfl (fun y => by go_simp) (hS _ _ _ _ _ _ (HN.out.re hk)) ?_
  rintro vv t' w' ⟨rfl, s, H, rfl, hn⟩
  clear HN
  rw [Frame.finish_at]
  walk_nrm
  refine Lg.move _ (fun _ _ => step_region_end) (fun h => h) ?_
  have HN := Lib.hid hn
  clear hn
  refine Lg.move _ (fun _ _ => step_seq) (fun h => h) ?_
  refine Lg.code fun K hK y τ n' hy => ?_
  subst hy
  have hn := HN.out.re hk
  clear HN
  have hat : RAt rb sb rn _ y := hn.rep.at_
  have s0 := hat.r.value (q % (rn : Int)).toNat (by omega)
  have HN := Lib.hid hn
  clear hn hat
  go_wp2_with (go_at_call 39; refine (atomic_load _ _ _ s0).mono ?_; rintro e w' ⟨rfl, rfl⟩)
  refine hK _ _ (fun _ => rfl) ?_
  clear hK K s0
  refine Lg.move _ (fun _ _ => step_seq) (fun h => h) ?_
  refine Lg.move _ (fun _ _ => step_region) (fun h => h) ?_
  refine Lg.pre 0 1 1 (by simp) fun K hK z τ n' hz => ?_
  subst hz
  go_wp2
  refine hK _ _ (fun _ => rfl) ?_
  clear hK K
  refine Lg.call (i := 1) (rest := []) (f := 40) (args := #[V]) rfl rfl (fun y => by go_simp) (hS _ _ _ _ _ _ (HN.out.re hk)) ?_
  rintro vv t' w' ⟨rfl, s, H, rfl, hn⟩
  clear HN
  rw [Frame.finish_at]
  walk_nrm
  refine Lg.move _ (fun _ _ => step_region_end) (fun h => h) ?_
  have HN := Lib.hid hn
  clear hn
  refine Lg.move _ (fun _ _ => step_seq) (fun h => h) ?_
  refine Lg.move _ (fun _ _ => step_seq) (fun h => h) ?_
  refine Lg.code fun K hK y τ n' hy => ?_
  subst hy
  have hn := HN.out.re hk
  clear HN
  have hat : RAt rb sb rn _ y := hn.rep.at_
  have s0 := hat.r.stamp (q % (rn : Int)).toNat (by omega)
  have HN := Lib.hid hn
  clear hn hat
  go_wp2_with (go_at_call 39; refine (atomic_load _ _ _ s0).mono ?_; rintro e w' ⟨rfl, rfl⟩)
  refine hK _ _ (fun _ => rfl) ?_
  clear hK K s0
  generalize s.1.1 (q % (rn : Int)).toNat = z
  by_cases hne : z = x
  · subst hne
    simp only [bne_self_eq_false, if_true]
    refine Lg.move _ (fun _ _ => step_cond (t := false) rfl) (fun h => h) ?_
    refine Lg.move _ (fun _ _ => step_skip) (fun h => h) ?_
    refine Lg.move _ (fun _ _ => step_seq) (fun h => h) ?_
    refine Lg.code fun K hK y τ n' hy => ?_
    subst hy
    have hn := HN.out.re hk
    clear HN
    have HN := Lib.hid hn
    clear hn
    go_wp2
    refine hK _ _ (fun _ => rfl) ?_
    clear hK K
    refine Lg.move _ (fun _ _ => step_ret) (fun h => h) ?_
    refine Lg.leave rfl Try.func25 rfl (v := .tuple #[_, .int .i64 0]) (fun _ _ _ _ => by simp [results, Try.f25]) (HR.out _ _ _ ⟨_, _, _, H, rfl, rfl, HN.out⟩)
  · have hb : (z != x) = true := by simpa using hne
    simp only [hb, if_neg hne]
    refine Lg.move _ (fun _ _ => step_cond (t := true) rfl) (fun h => h) ?_
    refine Lg.move _ (fun _ _ => step_seq) (fun h => h) ?_
    refine Lg.code fun K hK y τ n' hy => ?_
    subst hy
    have hn := HN.out.re hk
    clear HN
    have HN := Lib.hid hn
    clear hn
    go_wp2
    refine hK _ _ (fun _ => rfl) ?_
    clear hK K
    refine Lg.move _ (fun _ _ => step_ret) (fun h => h) ?_
    refine Lg.leave rfl Try.func25 rfl (v := .tuple #[.int .i64 0, .int .i64 10]) (fun _ _ _ _ => by simp [results, Try.f25]) (HR.out _ _ _ ⟨_, _, _, H, rfl, rfl, HN.out⟩)
end Go.Proofs.Yteainbnoemkfcaa
/- DERIVED. The ring of slots (package slots) among threads: an operation (Ring.do), of kinds Put and Get. -/
namespace Go.Proofs.Yteainbnoemkfcaa
open Go.RowKit Go.Turn Go.Tame Go.Conc
set_option linter.unusedVariables false
/-- A block of one's own, new since w0. -/
structure Own1 (D : OpsD) (w0 : World) (H : Nat → Prop) (w : World) (b : Nat) (t : TypeId) (cs : Array Value) : Prop where
  blk : Blk w b t cs
  nh : ¬ H b
  ge : w0.heap.size ≤ b
  nr : ¬ D.RB b
section
variable {D : OpsD} {Cap : (Nat → Prop) → World → Prop} {H0 H H' : Nat → Prop} {w0 w w' y : World} {s s' : D.St} {b b' : Nat} {t t' : TypeId} {cs cs' : Array Value}
theorem Now.rlt (h : Now D Cap H0 w0 s H w) (hb : D.RB b) : b < w.heap.size := by
  obtain ⟨c, t, r, hv⟩ := D.rbc b hb
  obtain ⟨r', k⟩ := h.rep.rb b c t r hb hv
  exact lt_of_some k
theorem Now.alloc (h : Now D Cap H0 w0 s H w) (o : Obj) : Now D Cap H0 w0 s H (w.alloc o) := ⟨h.rep.alloc o, h.cap0, h.held.trans (Held.alloc H w o)⟩
theorem Now.own (h : Now D Cap H0 w0 s H w) (t : TypeId) (cs : Array Value) : Own1 D w0 H (w.alloc (.cells cs t)) w.heap.size t cs :=
  ⟨Blk.new w t cs, fun z => Nat.lt_irrefl _ (h.rep.lt z), h.held.size, fun z => Nat.lt_irrefl _ (h.rlt z)⟩
theorem Own1.alloc (h : Own1 D w0 H w b t cs) (o : Obj) : Own1 D w0 H (w.alloc o) b t cs := ⟨h.blk.alloc o, h.nh, h.ge, h.nr⟩
theorem Own1.set_ (h : Own1 D w0 H w b t cs) (i : Nat) (u : Value) : Own1 D w0 H (w.setCell ⟨b, i, none⟩ u) b t (cs.setIfInBounds i u) := ⟨h.blk.set_ i u, h.nh, h.ge, h.nr⟩
theorem Own1.far (h : Own1 D w0 H w b t cs) (hb : b ≠ b') (i : Nat) (u : Value) : Own1 D w0 H (w.setCell ⟨b', i, none⟩ u) b t cs := ⟨h.blk.far hb u, h.nh, h.ge, h.nr⟩
theorem Own1.held (h : Own1 D w0 H w b t cs) (hh : Held H w H' w') : Own1 D w0 H' w' b t cs := by
  obtain ⟨h1, h2⟩ := hh.block b cs t (0, 0) h.blk h.nh (.inl (by decide))
  exact ⟨h1, h2, h.ge, h.nr⟩
theorem Own1.re {τ : Nat → Question → Nat} {n : Nat} (h : Own1 D w0 H (y.re τ n) b t cs) : Own1 D w0 H y b t cs := ⟨h.blk, h.nh, h.ge, h.nr⟩
theorem Now.set_ (h : Now D Cap H0 w0 s H w) (ho : Own1 D w0 H w b t cs) (i : Nat) (u : Value) : Now D Cap H0 w0 s H (w.setCell ⟨b, i, none⟩ u) :=
  ⟨h.rep.set_ (p := ⟨b, i, none⟩) ho.nh ho.nr u, h.cap0, held_set h.held ho.ge u⟩
/-- From here on. -/
theorem Now.here (hk : CapK Cap) (h : Now D Cap H0 w0 s H w) : Now D Cap H w s H w := ⟨h.rep, hk _ _ _ _ h.cap0 h.held, Held.refl _ _⟩
theorem Now.on (h : Now D Cap H0 w0 s H w) (h' : Now D Cap H w s' H' w') : Now D Cap H0 w0 s' H' w' := ⟨h'.rep, h.cap0, h.held.trans h'.held⟩
/-- What is only added to. -/
theorem Now.kept (h : Now D Cap H0 w0 s H w) (hk : Kept (fun _ => False) w w') : Now D Cap H0 w0 s H w' :=
  ⟨RepO.law D s H w w' h.rep (fun b hb => hk.block b (h.rep.lt hb) id) fun b c t r _ hb => ⟨r, (hk.block b (lt_of_some hb) id).trans hb⟩, h.cap0, h.held.trans ⟨hk.size, fun b c t r hb hn _ => ⟨(hk.block b (lt_of_some hb) id).trans hb, hn⟩⟩⟩
theorem Own1.kept (h : Own1 D w0 H w b t cs) (hk : Kept (fun _ => False) w w') : Own1 D w0 H w' b t cs := ⟨(hk.block b h.blk.lt id).trans h.blk, h.nh, h.ge, h.nr⟩
end
/-- What is told of a reason. -/
theorem told_any (e : Int) (w : World) : Calls Try.prog 43 #[.int .i64 e] w fun x w' => x = .returned (.agg #[.bool (e == 0), .int .i64 e, .slice none 0 0]) ∧ Kept (fun _ => False) w w' := by
  go_enter Try.func43, Try.ntmps43
  go_wp2
  try simp only [Exit.inBlock, Exit.then]
  refine bodyPost_ret (v := .agg #[.bool (e == 0), .int .i64 e, .slice none 0 0]) ?_ rfl ?_
  · simp [results, Try.f43, go_sem]
  exact ⟨rfl, Kept.alloc _ _⟩
/-- An operation as a tree. -/
def doR (B : OpsB) (rb sb rn : Nat) (good : OpI → Prop) : (B.ring rb sb rn good).DoT := fun o st k =>
  if o.kind = 1 then putT rn o.a o.b st fun s => k ⟨true, 0, []⟩ s else if o.kind = 2 then getT rn o.a st fun x e s => k ⟨e == 0, wrap64 (e + x), []⟩ s else .cut
/-- Operations that are Puts and Gets in bounds. -/
def PG (o : OpI) : Prop := (o.kind = 1 ∨ o.kind = 2) ∧ 0 ≤ o.a ∧ o.a < 4611686018427387904
theorem own_nil (w : World) (base : Nat) (t : TypeId) (size : Nat) : w.ownsRow base t size (.slice none 0 0) 0 [] := ⟨by simp, .inl ⟨rfl, rfl⟩⟩
set_option maxHeartbeats 4000000 in
set_option maxRecDepth 100000 in
theorem ring_do (B : OpsB) (rb sb rn : Nat) (hrn : 0 < rn) (h2 : rn ≤ 65536) (i : Nat) : DoLaw (B.ring rb sb rn PG) i (doR B rb sb rn PG) 32 #[.pointer (some ⟨rb, 0, none⟩)] #[] := by
  intro tb L Cap hre hk hst o st H k w hgood hrep hcap
  have hS := slots_sstep hre hk hst
  have hn : Now (B.ring rb sb rn PG) Cap H w st H w := ⟨hrep, hcap, Held.refl _ _⟩
  generalize (Value.iface 116 (.pointer (some ⟨tb, 0, none⟩))) = V at hS ⊢
  suffices hmain : ∀ w0 H0, w0.heap.size = w.heap.size → Now (B.ring rb sb rn PG) Cap H0 w0 st H w → Ccalls L 32 #[.pointer (some ⟨rb, 0, none⟩), V, .int .i64 i, o.val] (doR B rb sb rn PG o st k) w fun v t' w' => ∃ a st' H' lv, t' = k a st' ∧ v = .agg #[.bool a.ok, .int .i64 a.n, lv] ∧ RepO (B.ring rb sb rn PG) st' H' w' ∧ Held H0 w0 H' w' ∧ w'.ownsRow w0.heap.size 2 1 lv a.ls.length (a.ls.map (Value.int .i64)) ∧ ∀ b, lv.ownBlock = some b → ¬ H' b from hmain w H rfl hn
  clear hrep hcap hn
  intro w0 H0 hsz hn c mid hR
  clear hsz
  have HR := Lib.hid hR
  have HN := Lib.hid hn
  clear hR hn
  obtain ⟨hkind, ha0, ha1⟩ := hgood
  obtain ⟨kd, oa, ob, oc⟩ := o
  rw [show Frame.enter Try.prog 32 #[.pointer (some ⟨rb, 0, none⟩), V, .int .i64 i, OpI.val ⟨kd, oa, ob, oc⟩] .normal = Frame.at { (default : Frame) with fn := 32, kind := .normal } ⟨#[.pointer (some ⟨rb, 0, none⟩), V, .int .i64 i, .agg #[.int .i64 kd, .int .i64 oa, .int .i64 ob, .int .i64 oc]] ++ Array.replicate (Try.f32.ntmps - 4) undef, []⟩ [.code (Try.f32.body.getD .skip)] from by simp [Frame.enter, Frame.at, Try.func32]; exact ⟨rfl, rfl⟩]
  simp only [Try.f32, Option.getD_some, Nat.reduceSub, Array.replicate_succ, Array.replicate_zero, List.push_toArray, List.append_toArray, List.nil_append, List.cons_append]
  refine Lg.move _ (fun _ _ => step_seq) (fun h => h) ?_
  refine Lg.code fun K hK y τ n' hy => ?_
  subst hy
  have hn := HN.out.re hk
  clear HN
  have HN := Lib.hid hn
  clear hn
  go_wp2
  refine hK _ _ (fun _ => rfl) ?_
  clear hK K
  have hb7 := (HN.out.own 49 #[.int .i64 kd, .int .i64 oa, .int .i64 ob, .int .i64 oc]).alloc (.cells #[.bool false, .int .i64 0, .slice none 0 0] 46)
  have hb8 := (HN.out.alloc (.cells #[.int .i64 kd, .int .i64 oa, .int .i64 ob, .int .i64 oc] 49)).own 46 #[.bool false, .int .i64 0, .slice none 0 0]
  have hn := (HN.out.alloc (.cells #[.int .i64 kd, .int .i64 oa, .int .i64 ob, .int .i64 oc] 49)).alloc (.cells #[.bool false, .int .i64 0, .slice none 0 0] 46)
  rw [show (y.alloc (.cells #[.int .i64 kd, .int .i64 oa, .int .i64 ob, .int .i64 oc] 49)).heap.size = y.heap.size + 1 from by simp] at hb8
  clear HN
  generalize (y.alloc (.cells #[.int .i64 kd, .int .i64 oa, .int .i64 ob, .int .i64 oc] 49)).alloc (.cells #[.bool false, .int .i64 0, .slice none 0 0] 46) = z at hn hb7 hb8 ⊢
  have hne : y.heap.size ≠ y.heap.size + 1 := by omega
  generalize y.heap.size + 1 = b8 at hb8 hne ⊢
  generalize y.heap.size = b7 at hb7 hne ⊢
  have HN := Lib.hid hn
  have HB7 := Lib.hid hb7
  have HB8 := Lib.hid hb8
  clear hn hb7 hb8
  refine Lg.move _ (fun _ _ => step_seq) (fun h => h) ?_
  refine Lg.code fun K hK y τ n' hy => ?_
  subst hy
  have hn := HN.out.re hk
  have hb7 := HB7.out.re
  have hb8 := HB8.out.re
  clear HN HB7 HB8
  have HN := Lib.hid hn
  have HB7 := Lib.hid hb7
  have HB8 := Lib.hid hb8
  clear hn hb7 hb8
  go_wp2
  refine hK _ _ (fun _ => rfl) ?_
  clear hK K
  refine Lg.move _ (fun _ _ => step_seq) (fun h => h) ?_
  refine Lg.move _ (fun _ _ => step_seq) (fun h => h) ?_
  refine Lg.code fun K hK y τ n' hy => ?_
  subst hy
  have hn := HN.out.re hk
  have hb7 := HB7.out.re
  have hb8 := HB8.out.re
  clear HN HB7 HB8
  have o0 := hb7.blk.cell 0
  have HN := Lib.hid hn
  have HB7 := Lib.hid hb7
  have HB8 := Lib.hid hb8
  clear hn hb7 hb8
  go_wp2
  refine hK _ _ (fun _ => rfl) ?_
  clear hK K o0
  refine Lg.move _ (fun _ _ => step_block) (fun h => h) ?_
  rcases hkind with rfl | rfl
  · refine Lg.move _ (fun _ _ => step_seq) (fun h => h) ?_
    refine Lg.code fun K hK y τ n' hy => ?_
    subst hy
    have hn := HN.out.re hk
    have hb7 := HB7.out.re
    have hb8 := HB8.out.re
    clear HN HB7 HB8
    have HN := Lib.hid hn
    have HB7 := Lib.hid hb7
    have HB8 := Lib.hid hb8
    clear hn hb7 hb8
    go_wp2
    refine hK _ _ (fun _ => rfl) ?_
    clear hK K
    refine Lg.move _ (fun _ _ => step_cond (t := true) rfl) (fun h => h) ?_
    refine Lg.move _ (fun _ _ => step_seq) (fun h => h) ?_
    refine Lg.move _ (fun _ _ => step_region) (fun h => h) ?_
    refine Lg.pre 0 6 3 (by simp) fun K hK z τ n' hz => ?_
    subst hz
    have hn := HN.out.re hk
    have hb7 := HB7.out.re
    have hb8 := HB8.out.re
    clear HN HB7 HB8
    have o1 := hb7.blk.cell 1
    have o2 := hb7.blk.cell 2
    have HN := Lib.hid hn
    have HB7 := Lib.hid hb7
    have HB8 := Lib.hid hb8
    clear hn hb7 hb8
    simp only [List.drop_zero, List.take_succ_cons, List.take_zero]
    go_wp2
    refine hK _ _ (fun _ => rfl) ?_
    clear hK K o1 o2
    rw [show doR B rb sb rn PG ⟨1, oa, ob, oc⟩ st k = putT rn oa ob st fun s => k ⟨true, 0, []⟩ s from if_pos rfl]
    refine Lg.call (i := 6) (rest := [7, 8]) (f := 23) (args := #[.pointer (some ⟨rb, 0, none⟩), V, .int .i64 oa, .int .i64 ob]) rfl rfl (fun y => by go_simp) (slots_put hk hS hrn h2 oa ob ha0 ha1 H z st H _ z (HN.out.here hk)) ?_
    rintro vv t' w' ⟨rfl, s', H', rfl, hn'⟩
    rw [Frame.finish_at]
    walk_nrm
    have hb7 := HB7.out.held hn'.held
    have hb8 := HB8.out.held hn'.held
    have hn := HN.out.on hn'
    clear HN HB7 HB8 hn'
    have HN := Lib.hid hn
    have HB7 := Lib.hid hb7
    have HB8 := Lib.hid hb8
    clear hn hb7 hb8
    refine (show L.T _ (Frame.at _ ⟨_, []⟩ (.inRegion _ (List.range' 7 (2 + 0)) :: _)) (c :: mid) w' from ?_)
    refine Lg.pre 7 2 0 (by simp) fun K hK z τ n' hz => ?_
    subst hz
    have hn := HN.out.re hk
    have hb7 := HB7.out.re
    have hb8 := HB8.out.re
    clear HN HB7 HB8
    have HN := Lib.hid hn
    have HB7 := Lib.hid hb7
    have HB8 := Lib.hid hb8
    clear hn hb7 hb8
    simp only [List.drop_succ_cons, List.drop_zero, List.take_succ_cons, List.take_zero]
    go_wp2_with (go_at_call 43; refine (told_any 0 _).mono ?_; rintro e w' ⟨rfl, hkept⟩; have hn := HN.out.kept hkept; have hb8 := HB8.out.kept hkept; have z0 := hb8.blk.frozen 0; have z1 := hb8.blk.frozen 1; have z2 := hb8.blk.frozen 2; have o0 := hb8.blk.cell 0; have o1 := hb8.blk.cell 1; have o2 := hb8.blk.cell 2; simp at o0 o1 o2)
    refine hK _ _ (fun _ => rfl) ?_
    clear hK K
    clear HN HB7 HB8 o0 o1 o2 z0 z1 z2
    have hbb := ((hb8.set_ 0 (.bool (true))).set_ 1 (.int .i64 (0))).set_ 2 (.slice none 0 0)
    have hnn := ((hn.set_ hb8 0 (.bool (true))).set_ (hb8.set_ 0 (.bool (true))) 1 (.int .i64 (0))).set_ ((hb8.set_ 0 (.bool (true))).set_ 1 (.int .i64 (0))) 2 (.slice none 0 0)
    simp only [List.setIfInBounds_toArray, List.set_cons_zero, List.set_cons_succ] at hbb
    generalize World.setCell _ _ _ = w6 at hbb hnn ⊢
    clear hn hb8
    refine Lg.move _ (fun _ _ => step_region_end) (fun h => h) ?_
    refine Lg.move _ (fun _ _ => step_ret) (fun h => h) ?_
    refine Lg.leave rfl Try.func32 rfl (v := .agg #[.bool (true), .int .i64 (0), .slice none 0 0]) (fun y τ n hy => ?_) (HR.out _ _ _ ⟨⟨true, 0, []⟩, _, _, _, rfl, rfl, hnn.rep, hnn.held, own_nil _ _ _ _, fun b hb => by simp [Value.ownBlock] at hb⟩)
    have c0 : y.cell? ⟨b8, 0, none⟩ = some (.bool (true)) := by have := hbb.blk.cell 0; rw [hy] at this; exact this
    have c1 : y.cell? ⟨b8, 1, none⟩ = some (.int .i64 (0)) := by have := hbb.blk.cell 1; rw [hy] at this; exact this
    have c2 : y.cell? ⟨b8, 2, none⟩ = some (.slice none 0 0) := by have := hbb.blk.cell 2; rw [hy] at this; exact this
    simp [results, Try.f32, go_sem, c0, c1, c2]
  · refine Lg.move _ (fun _ _ => step_seq) (fun h => h) ?_
    refine Lg.code fun K hK y τ n' hy => ?_
    subst hy
    have hn := HN.out.re hk
    have hb7 := HB7.out.re
    have hb8 := HB8.out.re
    clear HN HB7 HB8
    have HN := Lib.hid hn
    have HB7 := Lib.hid hb7
    have HB8 := Lib.hid hb8
    clear hn hb7 hb8
    go_wp2
    refine hK _ _ (fun _ => rfl) ?_
    clear hK K
    refine Lg.move _ (fun _ _ => step_cond (t := false) rfl) (fun h => h) ?_
    refine Lg.move _ (fun _ _ => step_seq) (fun h => h) ?_
    refine Lg.code fun K hK y τ n' hy => ?_
    subst hy
    have hn := HN.out.re hk
    have hb7 := HB7.out.re
    have hb8 := HB8.out.re
    clear HN HB7 HB8
    have HN := Lib.hid hn
    have HB7 := Lib.hid hb7
    have HB8 := Lib.hid hb8
    clear hn hb7 hb8
    go_wp2
    refine hK _ _ (fun _ => rfl) ?_
    clear hK K
    refine Lg.move _ (fun _ _ => step_cond (t := true) rfl) (fun h => h) ?_
    refine Lg.move _ (fun _ _ => step_seq) (fun h => h) ?_
    refine Lg.move _ (fun _ _ => step_region) (fun h => h) ?_
    refine Lg.pre 0 4 6 (by simp) fun K hK z τ n' hz => ?_
    subst hz
    have hn := HN.out.re hk
    have hb7 := HB7.out.re
    have hb8 := HB8.out.re
    clear HN HB7 HB8
    have o1 := hb7.blk.cell 1
    have HN := Lib.hid hn
    have HB7 := Lib.hid hb7
    have HB8 := Lib.hid hb8
    clear hn hb7 hb8
    simp only [List.drop_zero, List.take_succ_cons, List.take_zero]
    go_wp2
    refine hK _ _ (fun _ => rfl) ?_
    clear hK K o1
    rw [show doR B rb sb rn PG ⟨2, oa, ob, oc⟩ st k = getT rn oa st fun x e s => k ⟨e == 0, wrap64 (e + x), []⟩ s from (if_neg (show ¬ (2 : Int) = 1 by decide)).trans (if_pos rfl)]
    refine Lg.call (i := 4) (rest := [5, 6, 7, 8, 9]) (f := 25) (args := #[.pointer (some ⟨rb, 0, none⟩), V, .int .i64 oa]) rfl rfl (fun y => by go_simp) (slots_get hk hS hrn h2 oa ha0 ha1 H z st H _ z (HN.out.here hk)) ?_
    rintro vv t' w' ⟨x, e, s', H', rfl, rfl, hn'⟩
    rw [Frame.finish_at]
    walk_nrm
    have hb7 := HB7.out.held hn'.held
    have hb8 := HB8.out.held hn'.held
    have hn := HN.out.on hn'
    clear HN HB7 HB8 hn'
    have HN := Lib.hid hn
    have HB7 := Lib.hid hb7
    have HB8 := Lib.hid hb8
    clear hn hb7 hb8
    refine (show L.T _ (Frame.at _ ⟨_, []⟩ (.inRegion _ (List.range' 5 (5 + 0)) :: _)) (c :: mid) w' from ?_)
    refine Lg.pre 5 5 0 (by simp) fun K hK z τ n' hz => ?_
    subst hz
    have hn := HN.out.re hk
    have hb7 := HB7.out.re
    have hb8 := HB8.out.re
    clear HN HB7 HB8
    have HN := Lib.hid hn
    have HB7 := Lib.hid hb7
    have HB8 := Lib.hid hb8
    clear hn hb7 hb8
    simp only [List.drop_succ_cons, List.drop_zero, List.take_succ_cons, List.take_zero]
    go_wp2
    refine hK _ _ (fun _ => rfl) ?_
    clear hK K
    refine Lg.move _ (fun _ _ => step_region_end) (fun h => h) ?_
    refine Lg.move _ (fun _ _ => step_seq) (fun h => h) ?_
    refine Lg.code fun K hK y τ n' hy => ?_
    subst hy
    have hn := HN.out.re hk
    have hb7 := HB7.out.re
    have hb8 := HB8.out.re
    clear HN HB7 HB8
    have HN := Lib.hid hn
    have HB7 := Lib.hid hb7
    have HB8 := Lib.hid hb8
    clear hn hb7 hb8
    go_wp2_with (go_at_call 43; refine (told_any e _).mono ?_; rintro e' w' ⟨rfl, hkept⟩)
    refine hK _ _ (fun _ => rfl) ?_
    clear hK K
    have hn0 := HN.out.kept hkept
    have hb80 := HB8.out.kept hkept
    have hne2 : b8 ≠ w'.heap.size := fun h => by have := hb80.blk.lt; omega
    have hb7 := hn0.own 46 #[.bool (e == 0), .int .i64 e, .slice none 0 0]
    have hb8 := hb80.alloc (.cells #[.bool (e == 0), .int .i64 e, .slice none 0 0] 46)
    have hn := hn0.alloc (.cells #[.bool (e == 0), .int .i64 e, .slice none 0 0] 46)
    clear hn0 hb80 HN HB7 HB8 hkept hne
    generalize w'.alloc (.cells #[.bool (e == 0), .int .i64 e, .slice none 0 0] 46) = v at hn hb7 hb8 ⊢
    generalize w'.heap.size = b7' at hb7 hne2 ⊢
    have HN := Lib.hid hn
    have HB7 := Lib.hid hb7
    have HB8 := Lib.hid hb8
    clear hn hb7 hb8
    refine Lg.move _ (fun _ _ => step_seq) (fun h => h) ?_
    refine Lg.code fun K hK y τ n' hy => ?_
    subst hy
    have hn := HN.out.re hk
    have hb7 := HB7.out.re
    have hb8 := HB8.out.re
    clear HN HB7 HB8
    have o1 := hb7.blk.cell 1
    have z1 := hb7.blk.frozen 1
    have HN := Lib.hid hn
    have HB7 := Lib.hid hb7
    have HB8 := Lib.hid hb8
    clear hn hb7 hb8
    go_wp2
    refine hK _ _ (fun _ => rfl) ?_
    clear hK K o1 z1
    have hn := HN.out.set_ HB7.out 1 (.int .i64 (wrap64 (e + x)))
    have hb8 := HB8.out.far hne2 1 (.int .i64 (wrap64 (e + x)))
    have hb7 := HB7.out.set_ 1 (.int .i64 (wrap64 (e + x)))
    simp only [List.setIfInBounds_toArray, List.set_cons_zero, List.set_cons_succ] at hb7
    clear HN HB7 HB8
    generalize World.setCell _ _ _ = y' at hn hb7 hb8 ⊢
    have HN := Lib.hid hn
    have HB7 := Lib.hid hb7
    have HB8 := Lib.hid hb8
    clear hn hb7 hb8
    refine Lg.move _ (fun _ _ => step_seq) (fun h => h) ?_
    refine Lg.move _ (fun _ _ => step_region) (fun h => h) ?_
    refine Lg.pre 0 2 0 (by simp) fun K hK y τ n' hy => ?_
    subst hy
    have hn := HN.out.re hk
    have hb7 := HB7.out.re
    have hb8 := HB8.out.re
    clear HN HB7 HB8
    have p0 := hb7.blk.cell 0
    have p1 := hb7.blk.cell 1
    have p2 := hb7.blk.cell 2
    have o0 := hb8.blk.cell 0
    have o1 := hb8.blk.cell 1
    have o2 := hb8.blk.cell 2
    have z0 := hb8.blk.frozen 0
    have z1 := hb8.blk.frozen 1
    have z2 := hb8.blk.frozen 2
    simp at p0 p1 p2 o0 o1 o2
    simp only [List.drop_zero, List.take_succ_cons, List.take_zero]
    have HN := Lib.hid hn
    have HB8 := Lib.hid hb8
    clear hn hb7 hb8
    go_wp2
    refine hK _ _ (fun _ => rfl) ?_
    clear hK K o0 o1 o2 z0 z1 z2 p0 p1 p2
    have hn := HN.out
    have hb8 := HB8.out
    clear HN HB8
    have hbb := ((hb8.set_ 0 (.bool (e == 0))).set_ 1 (.int .i64 (wrap64 (e + x)))).set_ 2 (.slice none 0 0)
    have hnn := ((hn.set_ hb8 0 (.bool (e == 0))).set_ (hb8.set_ 0 (.bool (e == 0))) 1 (.int .i64 (wrap64 (e + x)))).set_ ((hb8.set_ 0 (.bool (e == 0))).set_ 1 (.int .i64 (wrap64 (e + x)))) 2 (.slice none 0 0)
    simp only [List.setIfInBounds_toArray, List.set_cons_zero, List.set_cons_succ] at hbb
    generalize World.setCell _ _ _ = w6 at hbb hnn ⊢
    clear hn hb8
    refine Lg.move _ (fun _ _ => step_region_end) (fun h => h) ?_
    refine Lg.move _ (fun _ _ => step_ret) (fun h => h) ?_
    refine Lg.leave rfl Try.func32 rfl (v := .agg #[.bool (e == 0), .int .i64 (wrap64 (e + x)), .slice none 0 0]) (fun y τ n hy => ?_) (HR.out _ _ _ ⟨⟨e == 0, wrap64 (e + x), []⟩, _, _, _, rfl, rfl, hnn.rep, hnn.held, own_nil _ _ _ _, fun b hb => by simp [Value.ownBlock] at hb⟩)
    have c0 : y.cell? ⟨b8, 0, none⟩ = some (.bool (e == 0)) := by have := hbb.blk.cell 0; rw [hy] at this; exact this
    have c1 : y.cell? ⟨b8, 1, none⟩ = some (.int .i64 (wrap64 (e + x))) := by have := hbb.blk.cell 1; rw [hy] at this; exact this
    have c2 : y.cell? ⟨b8, 2, none⟩ = some (.slice none 0 0) := by have := hbb.blk.cell 2; rw [hy] at this; exact this
    simp [results, Try.f32, go_sem, c0, c1, c2]
end Go.Proofs.Yteainbnoemkfcaa
namespace Go.Proofs.Yteainbnoemkfcaa
open Go.RowKit Go.Turn Go.Tame Go.Conc
set_option linter.unusedVariables false
theorem okt_ite {D : OpsD} {i : Nat} {σ : D.St} {c : Prop} [Decidable c] {t u : Tree D.St D.St} (h1 : OKt D i t σ) (h2 : OKt D i u σ) : OKt D i (if c then t else u) σ := by
  split
  · exact h1
  · exact h2
theorem doR_ok (B : OpsB) (rb sb rn : Nat) (i : Nat) : DoOk (B.ring rb sb rn PG) i (doR B rb sb rn PG) := by
  intro o hg σ k hk
  have key : ∀ t, doR B rb sb rn PG o σ k = t → OKt (B.ring rb sb rn PG) i t σ → OKt (B.ring rb sb rn PG) i (doR B rb sb rn PG o σ k) σ := fun t e h => by rw [e]; exact h
  obtain ⟨hk1 | hk2, _⟩ := hg
  · refine key _ (if_pos hk1) ⟨fun _ _ => rfl, fun σ1 h1 => ⟨fun _ _ => rfl, fun σ2 h2 => ⟨fun _ _ => rfl, fun σ3 h3 => ?_⟩⟩⟩
    exact OKt.congr (hk ⟨true, 0, []⟩ ((upd σ3.1.1 (o.a % rn).toNat (2 * (o.a / rn)), σ3.1.2), σ3.2) (h3.trans (h2.trans h1))) (fun _ _ => rfl)
  · refine key _ ((if_neg (fun e => by rw [e] at hk2; cases hk2)).trans (if_pos hk2)) ⟨fun _ _ => rfl, fun σ1 h1 => ?_⟩
    have hk0 : ∀ a (σ' : (B.ring rb sb rn PG).St), σ'.2 i = σ.2 i → OKt (B.ring rb sb rn PG) i (k a σ') σ' := hk
    refine okt_ite (D := B.ring rb sb rn PG) (hk0 _ _ h1) (okt_ite (D := B.ring rb sb rn PG) (hk0 _ _ h1) ?_)
    refine ⟨fun _ _ => rfl, fun σ2 h2 => ⟨fun _ _ => rfl, fun σ3 h3 => ?_⟩⟩
    exact okt_ite (D := B.ring rb sb rn PG) (hk0 _ _ (h3.trans (h2.trans h1))) (hk0 _ _ (h3.trans (h2.trans h1)))
abbrev RSt2 : Type := RSt × (Nat → List Ans)
/-- The same, with no fixed data in sight. -/
def doR0 (rn : Nat) : OpI → RSt2 → (Ans → RSt2 → Tree RSt2 RSt2) → Tree RSt2 RSt2 := fun o st k =>
  if o.kind = 1 then putT rn o.a o.b st fun s => k ⟨true, 0, []⟩ s else if o.kind = 2 then getT rn o.a st fun x e s => k ⟨e == 0, wrap64 (e + x), []⟩ s else .cut
theorem do_enters (args : Array Value) (w : World) : (callFunc 32 args).run Try.prog w = .ok (.enter 32 args) w := by kernel_rfl
/-- A run of Puts and Gets on a ring, goroutine 0 alone. -/
theorem ring_ops (hP : Prog Try.prog) (Post : Value → World → Prop) (W0 : World) (rb sb rn : Nat) (hrn : 0 < rn) (h2 : rn ≤ 65536) (a0 : RSt) (Tb To nt cp : Nat) (hnt : nt ≤ maxLen) (hpos : 0 < nt) (A : Nat → Option Addr) (len cap : Nat → Nat) (ops : Nat → List OpI) (sv : Value) (xs : List Int) (most : Int) (w0 : World)
    (hrows : RowsAt w0 Tb To (min nt 64) A len cap) (hin : OpsIn W0 (ringI rb sb rn) PG a0 w0 (min nt 64) A len ops) (hsch : SchI W0 sv xs (fun b => (b = rb ∨ b = sb) ∨ ∃ i o, i < min nt 64 ∧ A i = some ⟨b, o, none⟩) w0) :
    Ccalls (lgA hP Post W0) 31 #[.slice (some ⟨Tb, To, none⟩) nt cp, .func (.func 32) #[.pointer (some ⟨rb, 0, none⟩)] #[], sv, .int .i64 most] () w0 fun v _ w' => OpsDone W0 (ringI rb sb rn) PG a0 (fun _ => doR0 rn) ops (min nt 64) xs (heldI most 1048576).toNat w0 v w' :=
  ops_calls hP Post W0 (ringI rb sb rn) PG a0 (fun _ => doR0 rn) Tb To nt cp hnt hpos 32 #[.pointer (some ⟨rb, 0, none⟩)] #[] A len cap ops sv xs most w0 hrows hin hsch do_enters (fun B i => ring_do B rb sb rn hrn h2 i) (fun B i => doR_ok B rb sb rn i)
end Go.Proofs.Yteainbnoemkfcaa
