/- DERIVED. The ring of slots (package slots), walked: New, Size, Slot, Lap, Put and Get without a Stepper. Conditions: the ring's blocks are whole. -/
import Derived.Test.YtbmjmamodnapiaaGreatDoorMem
namespace Go.Proofs.YtbmjmamodnapiaaGreatDoor
open Go.RowKit

theorem size_nil (w : World) : Calls Tryz.prog 104 #[.pointer none] w fun e w' => e = .returned (.int .i64 0) ∧ w = w' := by
  go_enter Tryz.func104, Tryz.ntmps104
  go_wp2
  go_ret
  exact ⟨rfl, rfl⟩
theorem size_ring (a : Addr) (sa : Option Addr) (n c : Nat) (w : World) (h : w.cell? a = some (.slice sa n c)) : Calls Tryz.prog 104 #[.pointer (some a)] w fun e w' => e = .returned (.int .i64 n) ∧ w = w' := by
  go_enter Tryz.func104, Tryz.ntmps104
  go_wp2
  go_ret
  exact ⟨rfl, rfl⟩
theorem good_yes (a : Addr) (sa : Option Addr) (n c : Nat) (q : Int) (w : World) (h : w.cell? a = some (.slice sa n c)) (hn : 0 < n) (h0 : 0 ≤ q) (h1 : q < 4611686018427387904) :
    Calls Tryz.prog 108 #[.pointer (some a), .int .i64 q] w fun e w' => e = .returned (.bool true) ∧ w = w' := by
  go_enter Tryz.func108, Tryz.ntmps108
  go_wp2
  go_ret
  exact ⟨by simp, rfl⟩
theorem slot_yes (a : Addr) (sa : Option Addr) (n c : Nat) (q : Int) (w : World) (h : w.cell? a = some (.slice sa n c)) (hn : 0 < n) (h2 : n ≤ 65536) (h0 : 0 ≤ q) (h1 : q < 4611686018427387904) :
    Calls Tryz.prog 109 #[.pointer (some a), .int .i64 q] w fun e w' => e = .returned (.int .i64 (q % n)) ∧ w = w' := by
  go_enter Tryz.func109, Tryz.ntmps109
  go_wp2_with (go_at_call 108; refine (good_yes a sa n c q _ h hn h0 h1).mono ?_; rintro e w' ⟨rfl, rfl⟩)
  go_ret
  exact ⟨rfl, rfl⟩
theorem lap_yes (a : Addr) (sa : Option Addr) (n c : Nat) (q : Int) (w : World) (h : w.cell? a = some (.slice sa n c)) (hn : 0 < n) (h2 : n ≤ 65536) (h0 : 0 ≤ q) (h1 : q < 4611686018427387904) :
    Calls Tryz.prog 110 #[.pointer (some a), .int .i64 q] w fun e w' => e = .returned (.int .i64 (q / n)) ∧ w = w' := by
  go_enter Tryz.func110, Tryz.ntmps110
  go_wp2_with (go_at_call 108; refine (good_yes a sa n c q _ h hn h0 h1).mono ?_; rintro e w' ⟨rfl, rfl⟩)
  go_ret
  exact ⟨rfl, rfl⟩
theorem step_nil (w : World) : Calls Tryz.prog 111 #[.nilIface] w fun e w' => e = .returned (.tuple #[]) ∧ w = w' := by
  go_enter Tryz.func111, Tryz.ntmps111
  go_wp2
  go_end0
  exact ⟨rfl, rfl⟩
theorem atomic_store (a : Addr) (v : Int) (u : Int) (w : World) (h : w.cell? a = some (.int .i64 u)) (hf : w.frozen? a = false) : Calls Tryz.prog 50 #[.pointer (some a), .int .i64 v] w fun e w' => e = .returned (.tuple #[]) ∧ w.setCell a (.int .i64 v) = w' := by
  have hst := run_call_store (P := Tryz.prog) Tryz.func72 (by kernel_rfl) (by kernel_rfl) (by kernel_rfl) (by kernel_rfl) (k := .i64) (y := v) h hf
  go_enter Tryz.func50, Tryz.ntmps50
  go_wp2
  go_end0
  exact ⟨rfl, rfl⟩
theorem atomic_load (a : Addr) (v : Int) (w : World) (h : w.cell? a = some (.int .i64 v)) : Calls Tryz.prog 103 #[.pointer (some a)] w fun e w' => e = .returned (.int .i64 v) ∧ w = w' := by
  have hld := run_call_load (P := Tryz.prog) Tryz.func112 (by kernel_rfl) (by kernel_rfl) (by kernel_rfl) .i64 (by kernel_rfl) h
  go_enter Tryz.func103, Tryz.ntmps103
  go_wp2
  go_ret
  exact ⟨rfl, rfl⟩

def upd (f : Nat → Int) (i : Nat) (x : Int) : Nat → Int := fun j => if j = i then x else f j

/-- The ring behind pointer r: n slots of which the cells are the stamps and the values. -/
structure RingAt (w : World) (rb sb n : Nat) (st va : Nat → Int) : Prop where
  ring : w.cell? ⟨rb, 0, none⟩ = some (.slice (some ⟨sb, 0, none⟩) n n)
  stamp : ∀ i, i < n → w.cell? ⟨sb, i * 2, none⟩ = some (.int .i64 (st i))
  value : ∀ i, i < n → w.cell? ⟨sb, i * 2 + 1, none⟩ = some (.int .i64 (va i))
  free : ∀ i, w.frozen? ⟨sb, i, none⟩ = false
  pos : 0 < n
  most : n ≤ 65536
  ne : rb ≠ sb
  rlt : rb < w.heap.size
  glt : sb < w.heap.size
theorem upd_upd (f : Nat → Int) (i : Nat) (x y : Int) : upd (upd f i x) i y = upd f i y := by
  funext j
  unfold upd
  split <;> rfl
theorem upd_same (f : Nat → Int) (i : Nat) (x : Int) : upd f i x i = x := if_pos rfl
theorem upd_ne (f : Nat → Int) {i j : Nat} (x : Int) (h : j ≠ i) : upd f i x j = f j := if_neg h
section
variable {w w' : World} {rb sb n : Nat} {st va : Nat → Int}
theorem RingAt.setStamp (H : RingAt w rb sb n st va) {i : Nat} (hi : i < n) (x : Int) : RingAt (w.setCell ⟨sb, i * 2, none⟩ (.int .i64 x)) rb sb n (upd st i x) va where
  ring := (World.cell?_setCell_other _ _ _ _ (by intro e; injection e with e; exact H.ne e.symm)).trans H.ring
  stamp := fun j hj => by
    unfold upd
    by_cases e : j = i
    · subst e; rw [if_pos rfl]; exact World.cell?_setCell_same _ _ _ (H.stamp j hj)
    · rw [if_neg e]; exact (World.cell?_setCell_other _ _ _ _ (by simp <;> omega)).trans (H.stamp j hj)
  value := fun j hj => (World.cell?_setCell_other _ _ _ _ (by simp <;> omega)).trans (H.value j hj)
  free := fun j => by rw [World.frozen?_setCell]; exact H.free j
  pos := H.pos
  most := H.most
  ne := H.ne
  rlt := by simpa using H.rlt
  glt := by simpa using H.glt
theorem RingAt.setValue (H : RingAt w rb sb n st va) {i : Nat} (hi : i < n) (x : Int) : RingAt (w.setCell ⟨sb, i * 2 + 1, none⟩ (.int .i64 x)) rb sb n st (upd va i x) where
  ring := (World.cell?_setCell_other _ _ _ _ (by intro e; injection e with e; exact H.ne e.symm)).trans H.ring
  stamp := fun j hj => (World.cell?_setCell_other _ _ _ _ (by simp <;> omega)).trans (H.stamp j hj)
  value := fun j hj => by
    unfold upd
    by_cases e : j = i
    · subst e; rw [if_pos rfl]; exact World.cell?_setCell_same _ _ _ (H.value j hj)
    · rw [if_neg e]; exact (World.cell?_setCell_other _ _ _ _ (by simp <;> omega)).trans (H.value j hj)
  free := fun j => by rw [World.frozen?_setCell]; exact H.free j
  pos := H.pos
  most := H.most
  ne := H.ne
  rlt := by simpa using H.rlt
  glt := by simpa using H.glt
theorem RingAt.drewN (H : RingAt w rb sb n st va) (k : Nat) : RingAt (w.drewN k) rb sb n st va := ⟨H.ring, H.stamp, H.value, H.free, H.pos, H.most, H.ne, H.rlt, H.glt⟩
theorem RingAt.kept {S : Nat → Prop} (H : RingAt w rb sb n st va) (hk : Kept S w w') (h1 : ¬ S rb) (h2 : ¬ S sb) : RingAt w' rb sb n st va where
  ring := (World.cell?_of_block (w := w) (hk.block rb H.rlt h1)).trans H.ring
  stamp := fun i hi => (World.cell?_of_block (w := w) (a := ⟨sb, i * 2, none⟩) (hk.block sb H.glt h2)).trans (H.stamp i hi)
  value := fun i hi => (World.cell?_of_block (w := w) (a := ⟨sb, i * 2 + 1, none⟩) (hk.block sb H.glt h2)).trans (H.value i hi)
  free := fun i => (World.frozen?_of_block (w := w) (a := ⟨sb, i, none⟩) (hk.block sb H.glt h2)).trans (H.free i)
  pos := H.pos
  most := H.most
  ne := H.ne
  rlt := Nat.lt_of_lt_of_le H.rlt hk.size
  glt := Nat.lt_of_lt_of_le H.glt hk.size
end

theorem slots_step_none : Stepper.none.Steps Tryz.prog 111 := fun k w _ => (step_nil w).mono fun _ _ ⟨h, hw⟩ => ⟨h, trivial, hw ▸ Kept.refl _ _, by rw [hw]⟩

theorem put_x (X : Stepper) (hs : X.Steps Tryz.prog 111) (t rb sb n : Nat) (st va : Nat → Int) (q v : Int) (w : World) (H : RingAt w rb sb n st va) (h0 : 0 ≤ q) (h1 : q < 4611686018427387904) (A : X.at_ t w) (n1 : ¬ X.own rb) (n2 : ¬ X.own sb) :
    Calls Tryz.prog 94 #[.pointer (some ⟨rb, 0, none⟩), X.v, .int .i64 q, .int .i64 v] w fun e w' => e = .returned (.int .i64 0) ∧
      RingAt w' rb sb n (upd st (q % n).toNat (2 * (q / n))) (upd va (q % n).toNat v) ∧ Kept (fun b => b = sb ∨ X.own b) w w' ∧ w'.heap.size = w.heap.size ∧ X.at_ (t + 3) w' := by
  have hn := H.pos
  have h2 := H.most
  have hr := H.ring
  have hb0 : 0 ≤ q % (n : Int) := Int.emod_nonneg _ (by omega)
  have hb1 : q % (n : Int) < n := Int.emod_lt_of_pos _ (by omega)
  have hd0 : 0 ≤ q / (n : Int) := Int.ediv_nonneg h0 (by omega)
  have hd1 : q / (n : Int) ≤ q := Int.ediv_le_self _ h0
  have HH := Lib.hid H
  have HA := Lib.hid A
  have HN1 := Lib.hid n1
  have HN2 := Lib.hid n2
  have n3 : ∀ b, X.own b → ¬ b = sb := fun b h e => HN2.out (e ▸ h)
  have HN3 := Lib.hid n3
  clear H A n1 n2 n3
  go_enter Tryz.func94, Tryz.ntmps94
  go_wp2_with (go_at_call 108; refine (good_yes _ _ n _ q _ hr hn h0 h1).mono ?_; rintro e w' ⟨rfl, rfl⟩)
  go_quiet (first | (go_at_call 109; exact quietS (slot_yes _ _ n _ q _ hr hn h2 h0 h1)) | (go_at_call 110; exact quietS (lap_yes _ _ n _ q _ hr hn h2 h0 h1)))
  generalize hi : (q % (n : Int)).toNat = i at *
  have hi' : i < n := by omega
  have HI := Lib.hid hi
  clear hi
  have H1 := HH.out.drewN nq
  have A1 := X.keep HA.out (Kept.drewN (fun _ => False) w nq) (fun _ _ h => h)
  go_wp2_with fail
  refine (hs t _ A1).mono ?_
  rintro e w1 ⟨rfl, A1, K1, Z1⟩
  have H1 := H1.kept K1 HN1.out HN2.out
  go_wp2_with fail
  refine (atomic_store _ _ _ _ (H1.stamp i hi') (H1.free _)).mono ?_
  rintro e w' ⟨rfl, rfl⟩
  have H2 := H1.setStamp hi' (2 * (q / n) - 1)
  have A2 := X.keep A1 (Kept.setCell (S := (· = sb)) w1 (p := ⟨sb, i * 2, none⟩) rfl (.int .i64 (2 * (q / n) - 1))) HN3.out
  have K2 := K1
  go_wp2_with fail
  refine (hs _ _ A2).mono ?_
  rintro e w2 ⟨rfl, A2, K2, Z2⟩
  have H2 := H2.kept K2 HN1.out HN2.out
  go_wp2_with fail
  refine (atomic_store _ _ _ _ (H2.value i hi') (H2.free _)).mono ?_
  rintro e w' ⟨rfl, rfl⟩
  have H3 := H2.setValue hi' v
  have A3 := X.keep A2 (Kept.setCell (S := (· = sb)) w2 (p := ⟨sb, i * 2 + 1, none⟩) rfl (.int .i64 v)) HN3.out
  go_wp2_with fail
  refine (hs _ _ A3).mono ?_
  rintro e w3 ⟨rfl, A3, K3, Z3⟩
  have H3 := H3.kept K3 HN1.out HN2.out
  go_wp2_with fail
  refine (atomic_store _ _ _ _ (H3.stamp i hi') (H3.free _)).mono ?_
  rintro e w' ⟨rfl, rfl⟩
  have H4 := H3.setStamp hi' (2 * (q / n))
  have A4 := X.keep A3 (Kept.setCell (S := (· = sb)) w3 (p := ⟨sb, i * 2, none⟩) rfl (.int .i64 (2 * (q / n)))) HN3.out
  have HZ := Lib.hid (And.intro Z1 (And.intro Z2 Z3))
  have HK := Lib.hid (And.intro K1 (And.intro K2 K3))
  have HX := Lib.hid (And.intro H4 A4)
  clear Z1 Z2 Z3 K1 K2 K3 H1 H2 H3 H4 A1 A2 A3 A4 hr
  go_wp2
  go_ret
  rw [HI.out]
  have z := HZ.out
  have k := HK.out
  simp at z
  refine ⟨rfl, by rw [← upd_upd st i (2 * (q / n) - 1)]; exact HX.out.1, ?_, by simp; omega, HX.out.2⟩
  have L : ∀ {a b : World}, Kept X.own a b → Kept (fun b => b = sb ∨ X.own b) a b := fun h => h.mono (fun _ _ e => .inr e)
  exact (((((Kept.drewN _ _ nq).trans (L k.1)).trans (Kept.setCell _ (.inl rfl) _)).trans (L k.2.1)).trans (Kept.setCell _ (.inl rfl) _)).trans ((L k.2.2).trans (Kept.setCell _ (.inl rfl) _))

theorem get_ok (X : Stepper) (hs : X.Steps Tryz.prog 111) (t rb sb n : Nat) (st va : Nat → Int) (q : Int) (w : World) (H : RingAt w rb sb n st va) (h0 : 0 ≤ q) (h1 : q < 4611686018427387904) (he : st (q % n).toNat = 2 * (q / n)) (A : X.at_ t w) (n1 : ¬ X.own rb) (n2 : ¬ X.own sb) :
    Calls Tryz.prog 97 #[.pointer (some ⟨rb, 0, none⟩), X.v, .int .i64 q] w fun e w' => e = .returned (.tuple #[.int .i64 (va (q % n).toNat), .int .i64 0]) ∧ Kept X.own w w' ∧ w'.heap.size = w.heap.size ∧ X.at_ (t + 3) w' := by
  have HE := Lib.hid he
  clear he
  have hn := H.pos
  have h2 := H.most
  have hr := H.ring
  have hb0 : 0 ≤ q % (n : Int) := Int.emod_nonneg _ (by omega)
  have hb1 : q % (n : Int) < n := Int.emod_lt_of_pos _ (by omega)
  have hd0 : 0 ≤ q / (n : Int) := Int.ediv_nonneg h0 (by omega)
  have hd1 : q / (n : Int) ≤ q := Int.ediv_le_self _ h0
  have HH := Lib.hid H
  have HA := Lib.hid A
  have HN1 := Lib.hid n1
  have HN2 := Lib.hid n2
  clear H A n1 n2
  go_enter Tryz.func97, Tryz.ntmps97
  go_wp2_with (go_at_call 108; refine (good_yes _ _ n _ q _ hr hn h0 h1).mono ?_; rintro e w' ⟨rfl, rfl⟩)
  go_quiet (first | (go_at_call 109; exact quietS (slot_yes _ _ n _ q _ hr hn h2 h0 h1)) | (go_at_call 110; exact quietS (lap_yes _ _ n _ q _ hr hn h2 h0 h1)))
  generalize hi : (q % (n : Int)).toNat = i at *
  have hi' : i < n := by omega
  have HI := Lib.hid hi
  clear hi
  have H1 := HH.out.drewN nq
  have A1 := X.keep HA.out (Kept.drewN (fun _ => False) w nq) (fun _ _ h => h)
  go_wp2_with fail
  refine (hs t _ A1).mono ?_
  rintro e w1 ⟨rfl, A1, K1, Z1⟩
  have H1 := H1.kept K1 HN1.out HN2.out
  have S1 := H1.stamp i hi'
  rw [HE.out] at S1
  have hS := Lib.hid S1
  clear S1
  go_wp2_with fail
  refine (atomic_load _ _ _ hS.out).mono ?_
  rintro e w' ⟨rfl, rfl⟩
  go_wp2_with fail
  refine (hs _ _ A1).mono ?_
  rintro e w2 ⟨rfl, A2, K2, Z2⟩
  have H2 := H1.kept K2 HN1.out HN2.out
  go_wp2_with fail
  refine (atomic_load _ _ _ (H2.value i hi')).mono ?_
  rintro e w' ⟨rfl, rfl⟩
  go_wp2_with fail
  refine (hs _ _ A2).mono ?_
  rintro e w3 ⟨rfl, A3, K3, Z3⟩
  have H3 := H2.kept K3 HN1.out HN2.out
  have S3 := H3.stamp i hi'
  rw [HE.out] at S3
  have hS3 := Lib.hid S3
  clear S3
  go_wp2_with fail
  refine (atomic_load _ _ _ hS3.out).mono ?_
  rintro e w' ⟨rfl, rfl⟩
  have HZ := Lib.hid (And.intro Z1 (And.intro Z2 Z3))
  have HK := Lib.hid (And.intro K1 (And.intro K2 K3))
  have HX := Lib.hid A3
  clear Z1 Z2 Z3 K1 K2 K3 H1 H2 H3 A1 A2 A3 hr
  go_wp2
  go_ret2
  have z := HZ.out
  have k := HK.out
  simp at z
  rw [HI.out]
  exact ⟨rfl, (((Kept.drewN _ _ nq).trans k.1).trans k.2.1).trans k.2.2, by omega, HX.out⟩
theorem get_none (X : Stepper) (hs : X.Steps Tryz.prog 111) (t rb sb n : Nat) (st va : Nat → Int) (q : Int) (w : World) (H : RingAt w rb sb n st va) (h0 : 0 ≤ q) (h1 : q < 4611686018427387904) (he : st (q % n).toNat < 2 * (q / n)) (A : X.at_ t w) (n1 : ¬ X.own rb) (n2 : ¬ X.own sb) :
    Calls Tryz.prog 97 #[.pointer (some ⟨rb, 0, none⟩), X.v, .int .i64 q] w fun e w' => e = .returned (.tuple #[.int .i64 0, .int .i64 6]) ∧ Kept X.own w w' ∧ w'.heap.size = w.heap.size ∧ X.at_ (t + 1) w' := by
  have hn := H.pos
  have h2 := H.most
  have hr := H.ring
  have hb0 : 0 ≤ q % (n : Int) := Int.emod_nonneg _ (by omega)
  have hb1 : q % (n : Int) < n := Int.emod_lt_of_pos _ (by omega)
  have hd0 : 0 ≤ q / (n : Int) := Int.ediv_nonneg h0 (by omega)
  have hd1 : q / (n : Int) ≤ q := Int.ediv_le_self _ h0
  have HH := Lib.hid H
  have HA := Lib.hid A
  have HN1 := Lib.hid n1
  have HN2 := Lib.hid n2
  clear H A n1 n2
  go_enter Tryz.func97, Tryz.ntmps97
  go_wp2_with (go_at_call 108; refine (good_yes _ _ n _ q _ hr hn h0 h1).mono ?_; rintro e w' ⟨rfl, rfl⟩)
  go_quiet (first | (go_at_call 109; exact quietS (slot_yes _ _ n _ q _ hr hn h2 h0 h1)) | (go_at_call 110; exact quietS (lap_yes _ _ n _ q _ hr hn h2 h0 h1)))
  generalize hi : (q % (n : Int)).toNat = i at *
  have hi' : i < n := by omega
  have HI := Lib.hid hi
  clear hi
  have H1 := HH.out.drewN nq
  have A1 := X.keep HA.out (Kept.drewN (fun _ => False) w nq) (fun _ _ h => h)
  go_wp2_with fail
  refine (hs t _ A1).mono ?_
  rintro e w1 ⟨rfl, A1, K1, Z1⟩
  have H1 := H1.kept K1 HN1.out HN2.out
  have S1 := H1.stamp i hi'
  have hS := Lib.hid S1
  clear S1
  go_wp2_with fail
  refine (atomic_load _ _ _ hS.out).mono ?_
  rintro e w' ⟨rfl, rfl⟩
  have HZ := Lib.hid Z1
  have HK := Lib.hid K1
  have HX := Lib.hid A1
  clear Z1 K1 H1 A1 hr
  go_wp2
  go_ret2
  have z := HZ.out
  simp at z
  exact ⟨rfl, (Kept.drewN _ _ nq).trans HK.out, by omega, HX.out⟩
theorem get_lost (X : Stepper) (hs : X.Steps Tryz.prog 111) (t rb sb n : Nat) (st va : Nat → Int) (q : Int) (w : World) (H : RingAt w rb sb n st va) (h0 : 0 ≤ q) (h1 : q < 4611686018427387904) (he : 2 * (q / n) < st (q % n).toNat) (A : X.at_ t w) (n1 : ¬ X.own rb) (n2 : ¬ X.own sb) :
    Calls Tryz.prog 97 #[.pointer (some ⟨rb, 0, none⟩), X.v, .int .i64 q] w fun e w' => e = .returned (.tuple #[.int .i64 0, .int .i64 10]) ∧ Kept X.own w w' ∧ w'.heap.size = w.heap.size ∧ X.at_ (t + 1) w' := by
  have hn := H.pos
  have h2 := H.most
  have hr := H.ring
  have hb0 : 0 ≤ q % (n : Int) := Int.emod_nonneg _ (by omega)
  have hb1 : q % (n : Int) < n := Int.emod_lt_of_pos _ (by omega)
  have hd0 : 0 ≤ q / (n : Int) := Int.ediv_nonneg h0 (by omega)
  have hd1 : q / (n : Int) ≤ q := Int.ediv_le_self _ h0
  have HH := Lib.hid H
  have HA := Lib.hid A
  have HN1 := Lib.hid n1
  have HN2 := Lib.hid n2
  clear H A n1 n2
  go_enter Tryz.func97, Tryz.ntmps97
  go_wp2_with (go_at_call 108; refine (good_yes _ _ n _ q _ hr hn h0 h1).mono ?_; rintro e w' ⟨rfl, rfl⟩)
  go_quiet (first | (go_at_call 109; exact quietS (slot_yes _ _ n _ q _ hr hn h2 h0 h1)) | (go_at_call 110; exact quietS (lap_yes _ _ n _ q _ hr hn h2 h0 h1)))
  generalize hi : (q % (n : Int)).toNat = i at *
  have hi' : i < n := by omega
  have HI := Lib.hid hi
  clear hi
  have H1 := HH.out.drewN nq
  have A1 := X.keep HA.out (Kept.drewN (fun _ => False) w nq) (fun _ _ h => h)
  go_wp2_with fail
  refine (hs t _ A1).mono ?_
  rintro e w1 ⟨rfl, A1, K1, Z1⟩
  have H1 := H1.kept K1 HN1.out HN2.out
  have S1 := H1.stamp i hi'
  have hS := Lib.hid S1
  clear S1
  go_wp2_with fail
  refine (atomic_load _ _ _ hS.out).mono ?_
  rintro e w' ⟨rfl, rfl⟩
  have HZ := Lib.hid Z1
  have HK := Lib.hid K1
  have HX := Lib.hid A1
  clear Z1 K1 H1 A1 hr
  go_wp2
  go_ret2
  have z := HZ.out
  simp at z
  exact ⟨rfl, (Kept.drewN _ _ nq).trans HK.out, by omega, HX.out⟩

theorem Tryz.slotInfo : (Tryz.prog.info? 175).map (fun i => (i.zero, i.size, i.bytes)) = some (some (.agg #[.int .i64 0, .int .i64 0]), 2, 16) := by kernel_rfl
theorem made_zero (n j : Nat) (h : j < n * 2) : (madeCells #[.int .i64 0, .int .i64 0] (n * 2))[j]? = some (.int .i64 0) := by
  unfold madeCells
  rw [Array.getElem?_map, Array.getElem?_range, if_pos h]
  rcases Nat.mod_two_eq_zero_or_one j with e | e <;> simp [e]
theorem ring_made (w : World) (n : Nat) (hn : 0 < n) (h2 : n ≤ 65536) :
    RingAt ((w.alloc (.cells (madeCells #[.int .i64 0, .int .i64 0] (n * 2)) 175)).alloc (.cells #[.slice (some ⟨w.heap.size, 0, none⟩) n n] 173)) (w.heap.size + 1) w.heap.size n (fun _ => 0) (fun _ => 0) := by
  have b0 := Blk.new w 175 (madeCells #[.int .i64 0, .int .i64 0] (n * 2))
  have b1 := b0.alloc (.cells #[.slice (some ⟨w.heap.size, 0, none⟩) n n] 173)
  have b2 := Blk.new (w.alloc (.cells (madeCells #[.int .i64 0, .int .i64 0] (n * 2)) 175)) 173 #[.slice (some ⟨w.heap.size, 0, none⟩) n n]
  rw [World.size_alloc] at b2
  exact { ring := b2.cell 0, stamp := fun i hi => (b1.cell _).trans (made_zero n _ (by omega)), value := fun i hi => (b1.cell _).trans (made_zero n _ (by omega)), free := fun i => b1.frozen i, pos := hn, most := h2, ne := by omega, rlt := by simp, glt := by simp; omega }

theorem fill_succ (k : Nat) (a b : Int) : (fun j => if j < k + 1 then a else b) = upd (fun j => if j < k then a else b) k a := by
  funext j
  unfold upd
  dsimp only
  by_cases h : j = k
  · subst h; simp
  · rw [if_neg h]; by_cases h' : j < k
    · rw [if_pos h', if_pos (by omega)]
    · rw [if_neg h', if_neg (by omega)]
/-- A block of cells of which none is frozen. -/
def NearB (w : World) (b : Nat) : Prop := ∃ c t, w.heap[b]? = some (.cells c t (0, 0))
theorem NearB.set_ {w : World} {d i : Nat} {v : Value} {b : Nat} (h : NearB w b) : NearB (w.setCell ⟨d, i, none⟩ v) b := by
  obtain ⟨c, t, h⟩ := h
  by_cases e : b = d
  · subst e
    exact ⟨_, _, (show Blk w b t c from h).set_ i v⟩
  · exact ⟨c, t, (Below.heap_setCell _ _ _ _ e).trans h⟩
theorem new_near (n : Nat) (w : World) (hn : 0 < n) (h2 : n ≤ 65536) (hb : (bits BinOp.and IntKind.i64 (n : Int) ((n : Int) - 1) != 0) = false) : Calls Tryz.prog 48 #[.int .i64 n] w fun e w' => e = .returned (.tuple #[.pointer (some ⟨w.heap.size + 1, 0, none⟩), .int .i64 0]) ∧
    RingAt w' (w.heap.size + 1) w.heap.size n (fun _ => -2) (fun _ => 0) ∧ Below w.heap.size w w' ∧ w'.heap.size = w.heap.size + 2 ∧ NearB w' w.heap.size ∧ NearB w' (w.heap.size + 1) := by
  obtain ⟨i0, hi, hz0, hz1, hz2⟩ := info_parts Tryz.slotInfo
  have hmk := fun wx => run_make (P := Tryz.prog) wx 171 175 i0 _ Tryz.underlying171 hi hz0 .i64 .i64 n n (by omega) (by omega) (by rw [hz2]; omega) (by omega)
  simp only [Int.toNat_natCast, hz1, Value.cells] at hmk
  have h1 : (1 : Int) ≤ n := by omega
  have h3 : (n : Int) ≤ 65536 := by omega
  have hr := ring_made w n hn h2
  have hbel : Below w.heap.size w ((w.alloc (.cells (madeCells #[.int .i64 0, .int .i64 0] (n * 2)) 175)).alloc (.cells #[.slice (some ⟨w.heap.size, 0, none⟩) n n] 173)) := ((Below.refl _ _).alloc (Nat.le_refl _) _).alloc (by simp) _
  have hnear : NearB ((w.alloc (.cells (madeCells #[.int .i64 0, .int .i64 0] (n * 2)) 175)).alloc (.cells #[.slice (some ⟨w.heap.size, 0, none⟩) n n] 173)) w.heap.size ∧ NearB ((w.alloc (.cells (madeCells #[.int .i64 0, .int .i64 0] (n * 2)) 175)).alloc (.cells #[.slice (some ⟨w.heap.size, 0, none⟩) n n] 173)) (w.heap.size + 1) := by
    have hb := Blk.new (w.alloc (.cells (madeCells #[.int .i64 0, .int .i64 0] (n * 2)) 175)) 173 #[.slice (some ⟨w.heap.size, 0, none⟩) n n]
    rw [World.size_alloc] at hb
    exact ⟨⟨_, _, (Blk.new w 175 (madeCells #[.int .i64 0, .int .i64 0] (n * 2))).alloc _⟩, ⟨_, _, hb⟩⟩
  have HR := Lib.hid hr
  have HB := Lib.hid (And.intro hbel hnear)
  clear hr hbel hnear hz1 hz2 hz0 hi
  go_enter Tryz.func48, Tryz.ntmps48
  go_wp2
  go_loopw [28] (fun i wr => ∃ k : Nat, k ≤ n ∧ i = .int .i64 k ∧ RingAt wr (w.heap.size + 1) w.heap.size n (fun j => if j < k then -2 else 0) (fun _ => 0) ∧ (Below w.heap.size w wr ∧ NearB wr w.heap.size ∧ NearB wr (w.heap.size + 1)) ∧ wr.heap.size = w.heap.size + 2) (fun i _ => n - (intOf i).toNat)
  case atStart => exact ⟨0, Nat.zero_le _, rfl, by simpa using HR.out, HB.out, by simp⟩
  case round =>
    obtain ⟨k, hk, rfl, H, hbl, hsz⟩ := hrel
    have hring := H.ring
    have HH := Lib.hid H
    have HS := Lib.hid hsz
    clear hmk hb H hsz
    by_cases hlt : k < n
    · go_wp2_with (go_at_call 50; refine (atomic_store _ _ _ _ (HH.out.stamp k hlt) (HH.out.free _)).mono ?_; rintro e w' ⟨rfl, rfl⟩)
      go_roundw
      case rel =>
        refine ⟨k + 1, by omega, by go_num, ?_, ⟨hbl.1.setCell (by simp) _, hbl.2.1.set_, hbl.2.2.set_⟩, by simpa using HS.out⟩
        rw [fill_succ]
        exact HH.out.setStamp hlt (-2)
      case measure => simp [intOf]; omega
    · go_wp2
      go_ret2
      refine ⟨rfl, ⟨HH.out.ring, fun i hi => ?_, HH.out.value, HH.out.free, HH.out.pos, HH.out.most, HH.out.ne, HH.out.rlt, HH.out.glt⟩, hbl.1, HS.out, hbl.2⟩
      have h := HH.out.stamp i hi
      rwa [if_pos (by omega)] at h
theorem new_ok (n : Nat) (w : World) (hn : 0 < n) (h2 : n ≤ 65536) (hb : (bits BinOp.and IntKind.i64 (n : Int) ((n : Int) - 1) != 0) = false) : Calls Tryz.prog 48 #[.int .i64 n] w fun e w' => e = .returned (.tuple #[.pointer (some ⟨w.heap.size + 1, 0, none⟩), .int .i64 0]) ∧
    RingAt w' (w.heap.size + 1) w.heap.size n (fun _ => -2) (fun _ => 0) ∧ Below w.heap.size w w' ∧ w'.heap.size = w.heap.size + 2 :=
  (new_near n w hn h2 hb).mono fun _ _ ⟨h1, h2, h3, h4, _⟩ => ⟨h1, h2, h3, h4⟩
end Go.Proofs.YtbmjmamodnapiaaGreatDoor
