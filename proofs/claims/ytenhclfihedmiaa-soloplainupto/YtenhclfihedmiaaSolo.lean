/- DERIVED. The ring with one writer (package solo), walked without a Stepper: Size, Readers, least, claimed, Put, Publish. Conditions: its blocks are whole. -/
import Derived.Test.YtenhclfihedmiaaSlots
namespace Go.Proofs.Ytenhclfihedmiaa
open Go.RowKit

/-- Where a Solo lies: its own block, the ring's, the slots', the numbers', the places'; the ring's size, how many readers. -/
structure Ids where
  so : Nat
  rb : Nat
  gb : Nat
  nb : Nat
  pb : Nat
  n : Nat
  k : Nat
/-- What it holds. -/
structure SoloSt where
  next : Int
  cached : Int
  published : Int
  cursor : Int
  num : Nat → Int
  place : Nat → Int
  st : Nat → Int
  va : Nat → Int
def soloCells (I : Ids) (S : SoloSt) : Array Value :=
  #[.pointer (some ⟨I.rb, 0, none⟩), .int .i64 S.cursor, .slice (some ⟨I.nb, 0, none⟩) I.k I.k, .int .i64 S.next, .int .i64 S.cached, .int .i64 S.published, .slice (some ⟨I.pb, 0, none⟩) I.k I.k]
/-- A row of numbers. -/
structure NumsAt (w : World) (b k : Nat) (f : Nat → Int) : Prop where
  cell : ∀ i, i < k → w.cell? ⟨b, i, none⟩ = some (.int .i64 (f i))
  free : ∀ i, w.frozen? ⟨b, i, none⟩ = false
  lt : b < w.heap.size
structure SoloAt (w : World) (I : Ids) (S : SoloSt) : Prop where
  solo : Blk w I.so 56 (soloCells I S)
  ring : RingAt w I.rb I.gb I.n S.st S.va
  nums : NumsAt w I.nb I.k S.num
  places : NumsAt w I.pb I.k S.place
  most : I.k ≤ 64
  d1 : I.so ≠ I.rb ∧ I.so ≠ I.gb ∧ I.so ≠ I.nb ∧ I.so ≠ I.pb
  d2 : I.rb ≠ I.gb ∧ I.rb ≠ I.nb ∧ I.rb ≠ I.pb
  d3 : I.gb ≠ I.nb ∧ I.gb ≠ I.pb ∧ I.nb ≠ I.pb
section
variable {w w' : World} {b k : Nat} {f : Nat → Int} {I : Ids} {S : SoloSt}
theorem NumsAt.set (H : NumsAt w b k f) {i : Nat} (hi : i < k) (x : Int) : NumsAt (w.setCell ⟨b, i, none⟩ (.int .i64 x)) b k (upd f i x) where
  cell := fun j hj => by
    unfold upd
    by_cases e : j = i
    · subst e; rw [if_pos rfl]; exact World.cell?_setCell_same _ _ _ (H.cell j hj)
    · rw [if_neg e]; exact (World.cell?_setCell_other _ _ _ _ (by simp <;> omega)).trans (H.cell j hj)
  free := fun j => by rw [World.frozen?_setCell]; exact H.free j
  lt := by simpa using H.lt
theorem NumsAt.far (H : NumsAt w b k f) {p : Addr} (hp : b ≠ p.block) (u : Value) : NumsAt (w.setCell p u) b k f where
  cell := fun j hj => (World.cell?_setCell_other _ _ _ _ (by intro e; exact hp (by rw [e]))).trans (H.cell j hj)
  free := fun j => by rw [World.frozen?_setCell]; exact H.free j
  lt := by simpa using H.lt
theorem NumsAt.drewN (H : NumsAt w b k f) (n : Nat) : NumsAt (w.drewN n) b k f := ⟨H.cell, H.free, H.lt⟩
theorem NumsAt.kept {Z : Nat → Prop} (H : NumsAt w b k f) (hk : Kept Z w w') (h1 : ¬ Z b) : NumsAt w' b k f where
  cell := fun i hi => (World.cell?_of_block (w := w) (a := ⟨b, i, none⟩) (hk.block b H.lt h1)).trans (H.cell i hi)
  free := fun i => (World.frozen?_of_block (w := w) (a := ⟨b, i, none⟩) (hk.block b H.lt h1)).trans (H.free i)
  lt := Nat.lt_of_lt_of_le H.lt hk.size
theorem RingAt.far {rb sb n : Nat} {st va : Nat → Int} (H : RingAt w rb sb n st va) {p : Addr} (h1 : rb ≠ p.block) (h2 : sb ≠ p.block) (u : Value) : RingAt (w.setCell p u) rb sb n st va where
  ring := (World.cell?_setCell_other _ _ _ _ (by intro e; exact h1 (by rw [e]))).trans H.ring
  stamp := fun j hj => (World.cell?_setCell_other _ _ _ _ (by intro e; exact h2 (by rw [e]))).trans (H.stamp j hj)
  value := fun j hj => (World.cell?_setCell_other _ _ _ _ (by intro e; exact h2 (by rw [e]))).trans (H.value j hj)
  free := fun j => by rw [World.frozen?_setCell]; exact H.free j
  pos := H.pos
  most := H.most
  ne := H.ne
  rlt := by simpa using H.rlt
  glt := by simpa using H.glt
theorem SoloAt.drewN (H : SoloAt w I S) (n : Nat) : SoloAt (w.drewN n) I S := ⟨H.solo.drewN n, H.ring.drewN n, H.nums.drewN n, H.places.drewN n, H.most, H.d1, H.d2, H.d3⟩
theorem SoloAt.drew (H : SoloAt w I S) : SoloAt w.drew I S := H.drewN 1
theorem SoloAt.kept {Z : Nat → Prop} (H : SoloAt w I S) (hk : Kept Z w w') (h1 : ¬ Z I.so) (h2 : ¬ Z I.rb) (h3 : ¬ Z I.gb) (h4 : ¬ Z I.nb) (h5 : ¬ Z I.pb) : SoloAt w' I S :=
  ⟨H.solo.kept hk h1, H.ring.kept hk h2 h3, H.nums.kept hk h4, H.places.kept hk h5, H.most, H.d1, H.d2, H.d3⟩
/-- A store into the Solo's own block. -/
theorem SoloAt.own (H : SoloAt w I S) {i : Nat} {u : Value} {S' : SoloSt} (h : (soloCells I S).setIfInBounds i u = soloCells I S') (e1 : S'.num = S.num) (e2 : S'.place = S.place) (e3 : S'.st = S.st) (e4 : S'.va = S.va) :
    SoloAt (w.setCell ⟨I.so, i, none⟩ u) I S' := by
  refine ⟨by rw [← h]; exact H.solo.set_ i u, ?_, ?_, ?_, H.most, H.d1, H.d2, H.d3⟩
  · rw [e3, e4]; exact H.ring.far (fun e => H.d1.1 e.symm) (fun e => H.d1.2.1 e.symm) u
  · rw [e1]; exact H.nums.far (fun e => H.d1.2.2.1 e.symm) u
  · rw [e2]; exact H.places.far (fun e => H.d1.2.2.2 e.symm) u
end

theorem solo_size (w : World) (I : Ids) (S : SoloSt) (H : SoloAt w I S) : Calls Try.prog 7 #[.pointer (some ⟨I.so, 0, none⟩)] w fun e w' => e = .returned (.int .i64 I.n) ∧ w = w' := by
  have hc := H.solo.cell 0
  have hr := H.ring.ring
  simp only [soloCells] at hc
  clear H
  go_enter Try.func7, Try.ntmps7
  go_wp2_with (go_at_call 20; refine (size_ring _ _ _ _ _ hr).mono ?_; rintro e w' ⟨rfl, rfl⟩)
  go_ret
  exact ⟨rfl, rfl⟩
theorem solo_readers (w : World) (I : Ids) (S : SoloSt) (H : SoloAt w I S) : Calls Try.prog 8 #[.pointer (some ⟨I.so, 0, none⟩)] w fun e w' => e = .returned (.int .i64 I.k) ∧ w = w' := by
  have hc := H.solo.cell 2
  simp only [soloCells] at hc
  clear H
  go_enter Try.func8, Try.ntmps8
  go_wp2
  go_ret
  exact ⟨rfl, rfl⟩
def leastN (f : Nat → Int) : Nat → Int
  | 0 => 4611686018427387904
  | i + 1 => if f i < leastN f i then f i else leastN f i
/-- A Stepper that solo's and slots' own 'step' let go on, away from where a Solo lies. -/
structure Walks (X : Stepper) (I : Ids) : Prop where
  s1 : X.Steps Try.prog 32
  s2 : X.Steps Try.prog 21
  so : ¬ X.own I.so
  rb : ¬ X.own I.rb
  gb : ¬ X.own I.gb
  nb : ¬ X.own I.nb
  pb : ¬ X.own I.pb
theorem SoloAt.stepped {w w' : World} {I : Ids} {S : SoloSt} {X : Stepper} (H : SoloAt w I S) (W : Walks X I) (hk : Kept X.own w w') : SoloAt w' I S := H.kept hk W.so W.rb W.gb W.nb W.pb
theorem solo_step_nil (w : World) : Calls Try.prog 21 #[.nilIface] w fun e w' => e = .returned (.tuple #[]) ∧ w = w' := by
  go_enter Try.func21, Try.ntmps21
  go_wp2
  go_end0
  exact ⟨rfl, rfl⟩
theorem solo_step_none : Stepper.none.Steps Try.prog 21 := fun k w _ => (solo_step_nil w).mono fun _ _ ⟨h, hw⟩ => ⟨h, trivial, hw ▸ Kept.refl _ _, by rw [hw]⟩
theorem walks_none (I : Ids) : Walks .none I := ⟨slots_step_none, solo_step_none, id, id, id, id, id⟩

theorem solo_least (X : Stepper) (t : Nat) (w : World) (I : Ids) (S : SoloSt) (W : Walks X I) (H : SoloAt w I S) (A : X.at_ t w) : Calls Try.prog 24 #[.pointer (some ⟨I.so, 0, none⟩), X.v] w fun e w' => e = .returned (.int .i64 (leastN S.num I.k)) ∧ Kept X.own w w' ∧ w'.heap.size = w.heap.size ∧ X.at_ (t + I.k) w' := by
  have hc := H.solo.cell 2
  have hm := H.most
  have HH := Lib.hid H
  have HA := Lib.hid A
  simp only [soloCells] at hc
  clear H A
  go_enter Try.func24, Try.ntmps24
  go_wp2
  go_loopw [5, 12] (fun n i wr => ∃ j : Nat, j ≤ I.k ∧ i = .int .i64 j ∧ n = .int .i64 (leastN S.num j) ∧ Kept X.own w wr ∧ wr.heap.size = w.heap.size ∧ X.at_ (t + j) wr) (fun _ i _ => I.k - (intOf i).toNat)
  case atStart => exact ⟨0, Nat.zero_le _, rfl, rfl, Kept.refl _ _, rfl, HA.out⟩
  case round =>
    obtain ⟨j, hj, rfl, rfl, hk, hz, ha⟩ := hrel
    have HZ := Lib.hid hz
    clear hz hc
    by_cases hlt : j < I.k
    · go_wp2_with fail
      refine (W.s2 _ _ ha).mono ?_
      rintro e w1 ⟨rfl, a1, k1, z1⟩
      have H1 := HH.out.stepped W (hk.trans k1)
      have c2 := H1.solo.cell 2
      simp only [soloCells] at c2
      go_wp2_with fail
      refine (atomic_load _ _ _ (H1.nums.cell j hlt)).mono ?_
      rintro e w' ⟨rfl, rfl⟩
      have ZZ := Lib.hid z1
      have AA := Lib.hid a1
      clear z1 a1 H1 c2
      go_wp2
      go_roundw
      case rel => exact ⟨j + 1, by omega, by go_num, rfl, hk.trans k1, ZZ.out.trans HZ.out, AA.out⟩
      case measure => simp [intOf]; omega
    · go_wp2
      go_ret
      obtain rfl : j = I.k := by omega
      exact ⟨rfl, hk, HZ.out, ha⟩
theorem solo_claimed (w : World) (I : Ids) (S : SoloSt) (H : SoloAt w I S) (q : Int) (h0 : 0 ≤ q) (h1 : q < S.next) (h2 : S.published < q) :
    Calls Try.prog 25 #[.pointer (some ⟨I.so, 0, none⟩), .int .i64 q] w fun e w' => e = .returned (.bool true) ∧ w = w' := by
  have hc3 := H.solo.cell 3
  have hc5 := H.solo.cell 5
  have hn := H.ring.pos
  simp only [soloCells] at hc3 hc5
  have HH := Lib.hid H
  clear H
  go_enter Try.func25, Try.ntmps25
  go_wp2_with (go_at_call 7; refine (solo_size _ _ _ HH.out).mono ?_; rintro e w' ⟨rfl, rfl⟩)
  go_ret
  exact ⟨by simp, rfl⟩
def putS (I : Ids) (S : SoloSt) (q v : Int) : SoloSt := { S with st := upd S.st (q % I.n).toNat (2 * (q / I.n)), va := upd S.va (q % I.n).toNat v }
theorem solo_put (X : Stepper) (t : Nat) (w : World) (I : Ids) (S : SoloSt) (W : Walks X I) (H : SoloAt w I S) (A : X.at_ t w) (q v : Int) (h0 : 0 ≤ q) (h1 : q < S.next) (h2 : S.published < q) (h3 : S.next ≤ 4611686018427387904) :
    Calls Try.prog 16 #[.pointer (some ⟨I.so, 0, none⟩), X.v, .int .i64 q, .int .i64 v] w fun e w' => e = .returned (.int .i64 0) ∧ SoloAt w' I (putS I S q v) ∧ Kept (fun b => b = I.gb ∨ X.own b) w w' ∧ w'.heap.size = w.heap.size ∧ X.at_ (t + 3) w' := by
  have hc0 := H.solo.cell 0
  simp only [soloCells] at hc0
  have HH := Lib.hid H
  have HA := Lib.hid A
  clear H A
  go_enter Try.func16, Try.ntmps16
  go_wp2_with (go_at_call 25; refine (solo_claimed _ _ _ HH.out _ h0 h1 h2).mono ?_; rintro e w' ⟨rfl, rfl⟩)
  refine (put_x X W.s1 t _ _ _ _ _ _ _ _ HH.out.ring h0 (by omega) HA.out W.rb W.gb).mono ?_
  rintro e w' ⟨rfl, hr, hk, hz, ha⟩
  have HR := Lib.hid (And.intro hr (And.intro hz ha))
  clear hr hz ha
  go_wp2
  go_ret
  have K : ∀ b, ¬ X.own b → b ≠ I.gb → ¬ (b = I.gb ∨ X.own b) := fun b h h' e => e.elim h' h
  refine ⟨rfl, ⟨HH.out.solo.kept hk (K _ W.so HH.out.d1.2.1), HR.out.1, HH.out.nums.kept hk (K _ W.nb (fun e => HH.out.d3.1 e.symm)), HH.out.places.kept hk (K _ W.pb (fun e => HH.out.d3.2.1 e.symm)), HH.out.most, HH.out.d1, HH.out.d2, HH.out.d3⟩, hk, HR.out.2.1, HR.out.2.2⟩
theorem solo_publish (X : Stepper) (t : Nat) (w : World) (I : Ids) (S : SoloSt) (W : Walks X I) (H : SoloAt w I S) (A : X.at_ t w) (q : Int) (h0 : 0 ≤ q) (h1 : q < S.next) (h2 : S.published < q) :
    Calls Try.prog 17 #[.pointer (some ⟨I.so, 0, none⟩), X.v, .int .i64 q] w fun e w' => e = .returned (.int .i64 0) ∧ SoloAt w' I { S with cursor := q, published := q } ∧ Kept (fun b => b = I.so ∨ X.own b) w w' ∧ w'.heap.size = w.heap.size ∧ X.at_ (t + 1) w' := by
  have HH := Lib.hid H
  have HA := Lib.hid A
  clear H A
  go_enter Try.func17, Try.ntmps17
  go_wp2_with (go_at_call 25; refine (solo_claimed _ _ _ HH.out _ h0 h1 h2).mono ?_; rintro e w' ⟨rfl, rfl⟩)
  refine (W.s2 _ _ HA.out).mono ?_
  rintro e w1 ⟨rfl, a1, k1, z1⟩
  have H1 := HH.out.stepped W k1
  have hc1 := H1.solo.cell 1
  have hf := H1.solo.frozen 1
  simp only [soloCells] at hc1
  go_wp2_with fail
  refine (atomic_store _ _ _ _ hc1 hf).mono ?_
  rintro e w' ⟨rfl, rfl⟩
  have H2 : SoloAt (w1.setCell ⟨I.so, 1, none⟩ (.int .i64 q)) I { S with cursor := q } := H1.own (by simp [soloCells]) rfl rfl rfl rfl
  have hc5 := H2.solo.cell 5
  have hf5 := H2.solo.frozen 5
  simp only [soloCells] at hc5
  have HK := Lib.hid (And.intro H2 (And.intro z1 a1))
  clear H2 H1 z1 a1 hc1 hf
  go_wp2
  go_ret
  refine ⟨rfl, HK.out.1.own (by simp [soloCells]) rfl rfl rfl rfl, ?_, by simpa using HK.out.2.1, ?_⟩
  · exact (k1.mono (fun _ _ e => .inr e)).trans ((Kept.setCell _ (.inl rfl) _).trans (Kept.setCell _ (.inl rfl) _))
  · exact X.keep HK.out.2.2 ((Kept.setCell (S := (· = I.so)) _ rfl _).trans (Kept.setCell (S := (· = I.so)) _ rfl _)) (fun b h e => W.so (e ▸ h))
/-- The writer's bound behind Claim's look at the readers; and how many steps that look takes. -/
def cach (I : Ids) (S : SoloSt) (c : Nat) : Int := if S.cached < S.next + c - 1 - I.n then leastN S.num I.k else S.cached
def looks (I : Ids) (S : SoloSt) (c : Nat) : Nat := if S.cached < S.next + c - 1 - I.n then I.k else 0
def claimS (I : Ids) (S : SoloSt) (c : Nat) : SoloSt := { S with cached := cach I S c }
def ClaimPost (X : Stepper) (t : Nat) (w : World) (I : Ids) (S : SoloSt) (c : Nat) (e : Ending) (w' : World) : Prop :=
  (cach I S c < S.next + c - 1 - I.n ∧ e = .returned (.tuple #[.int .i64 0, .int .i64 3]) ∧ SoloAt w' I (claimS I S c) ∨
   ¬ cach I S c < S.next + c - 1 - I.n ∧ e = .returned (.tuple #[.int .i64 S.next, .int .i64 0]) ∧ SoloAt w' I { claimS I S c with next := S.next + c }) ∧
  Kept (fun b => b = I.so ∨ X.own b) w w' ∧ w'.heap.size = w.heap.size ∧ X.at_ (t + looks I S c) w'
theorem solo_claim (X : Stepper) (t : Nat) (w : World) (I : Ids) (S : SoloSt) (W : Walks X I) (H : SoloAt w I S) (A : X.at_ t w) (c : Nat) (h1 : 0 < c) (h2 : c ≤ I.n) (h3 : 0 ≤ S.next) (h4 : S.next + c ≤ 4611686018427387904) :
    Calls Try.prog 14 #[.pointer (some ⟨I.so, 0, none⟩), X.v, .int .i64 c] w (ClaimPost X t w I S c) := by
  have hn2 := H.ring.most
  have hsz : (1 : Int) ≤ c := by omega
  have hsz' : (c : Int) ≤ I.n := by omega
  have gc3 := H.solo.cell 3
  have gc4 := H.solo.cell 4
  have gf := H.solo.frozen
  simp only [soloCells] at gc3 gc4
  have HH := Lib.hid H
  have HA := Lib.hid A
  by_cases t1 : S.cached < S.next + c - 1 - I.n
  · have EC := Lib.hid (show cach I S c = leastN S.num I.k from if_pos t1)
    have EL := Lib.hid (show looks I S c = I.k from if_pos t1)
    clear H A
    by_cases t2 : leastN S.num I.k < S.next + c - 1 - I.n
    · go_enter Try.func14, Try.ntmps14
      go_wp2_with (go_at_call 7; refine (solo_size _ _ _ HH.out).mono ?_; rintro e w' ⟨rfl, rfl⟩)
      refine (solo_least X t _ _ _ W HH.out HA.out).mono ?_
      rintro e w1 ⟨rfl, k1, z1, a1⟩
      have H1 := HH.out.stepped W k1
      have hc3 := H1.solo.cell 3
      have hc4 := H1.solo.cell 4
      have hf := H1.solo.frozen
      simp only [soloCells] at hc3 hc4
      have HC : SoloAt (w1.setCell ⟨I.so, 4, none⟩ (.int .i64 (leastN S.num I.k))) I (claimS I S c) := H1.own (by simp [soloCells, claimS, EC.out]) rfl rfl rfl rfl
      have hd3 := HC.solo.cell 3
      have hd4 := HC.solo.cell 4
      have hf' := HC.solo.frozen
      simp only [soloCells, claimS, EC.out] at hd3 hd4
      have HCC := Lib.hid HC
      have HX := Lib.hid (And.intro z1 a1)
      clear H1 HC z1 a1
      go_wp2
      go_ret2
      refine ⟨.inl ⟨by rw [EC.out]; omega, rfl, HCC.out⟩, (k1.mono (fun _ _ e => .inr e)).trans (Kept.setCell _ (.inl rfl) _), by simpa using HX.out.1, ?_⟩
      rw [EL.out]
      exact X.keep HX.out.2 (Kept.setCell (S := (· = I.so)) _ rfl _) (fun b h e => W.so (e ▸ h))
    · go_enter Try.func14, Try.ntmps14
      go_wp2_with (go_at_call 7; refine (solo_size _ _ _ HH.out).mono ?_; rintro e w' ⟨rfl, rfl⟩)
      refine (solo_least X t _ _ _ W HH.out HA.out).mono ?_
      rintro e w1 ⟨rfl, k1, z1, a1⟩
      have H1 := HH.out.stepped W k1
      have hc3 := H1.solo.cell 3
      have hc4 := H1.solo.cell 4
      have hf := H1.solo.frozen
      simp only [soloCells] at hc3 hc4
      have HC : SoloAt (w1.setCell ⟨I.so, 4, none⟩ (.int .i64 (leastN S.num I.k))) I (claimS I S c) := H1.own (by simp [soloCells, claimS, EC.out]) rfl rfl rfl rfl
      have hd3 := HC.solo.cell 3
      have hd4 := HC.solo.cell 4
      have hf' := HC.solo.frozen
      simp only [soloCells, claimS, EC.out] at hd3 hd4
      have HCC := Lib.hid HC
      have HX := Lib.hid (And.intro z1 a1)
      clear H1 HC z1 a1
      go_wp2
      go_ret2
      refine ⟨.inr ⟨by rw [EC.out]; omega, rfl, HCC.out.own (by simp [soloCells, claimS]) rfl rfl rfl rfl⟩, (k1.mono (fun _ _ e => .inr e)).trans ((Kept.setCell _ (.inl rfl) _).trans (Kept.setCell _ (.inl rfl) _)), by simpa using HX.out.1, ?_⟩
      rw [EL.out]
      exact X.keep HX.out.2 ((Kept.setCell (S := (· = I.so)) _ rfl _).trans (Kept.setCell (S := (· = I.so)) _ rfl _)) (fun b h e => W.so (e ▸ h))
  · have ec : cach I S c = S.cached := if_neg t1
    have HC : SoloAt w I (claimS I S c) := by
      have : claimS I S c = S := by unfold claimS; rw [ec]
      rw [this]; exact H
    have HD : SoloAt (w.setCell ⟨I.so, 3, none⟩ (.int .i64 (S.next + c))) I { claimS I S c with next := S.next + c } := HC.own (by simp [soloCells, claimS]) rfl rfl rfl rfl
    have HDD := Lib.hid HD
    have EC := Lib.hid ec
    have EL := Lib.hid (show looks I S c = 0 from if_neg t1)
    clear H HC HD ec A
    go_enter Try.func14, Try.ntmps14
    go_wp2_with (go_at_call 7; refine (solo_size _ _ _ HH.out).mono ?_; rintro e w' ⟨rfl, rfl⟩)
    go_ret2
    refine ⟨.inr ⟨by rw [EC.out]; omega, rfl, HDD.out⟩, Kept.setCell _ (.inl rfl) _, by simp, ?_⟩
    rw [EL.out]
    exact X.keep HA.out (Kept.setCell (S := (· = I.so)) _ rfl _) (fun b h e => W.so (e ▸ h))
theorem solo_claim_range (s : Value) (w : World) (I : Ids) (S : SoloSt) (H : SoloAt w I S) (c : Int) (h : c < 1 ∨ (I.n : Int) < c) :
    Calls Try.prog 14 #[.pointer (some ⟨I.so, 0, none⟩), s, .int .i64 c] w fun e w' => e = .returned (.tuple #[.int .i64 0, .int .i64 1]) ∧ w = w' := by
  have HH := Lib.hid H
  clear H
  rcases h with h | h
  · go_enter Try.func14, Try.ntmps14
    go_wp2_with (go_at_call 7; refine (solo_size _ _ _ HH.out).mono ?_; rintro e w' ⟨rfl, rfl⟩)
    go_ret2
    exact ⟨rfl, rfl⟩
  · by_cases h' : c < 1
    · go_enter Try.func14, Try.ntmps14
      go_wp2_with (go_at_call 7; refine (solo_size _ _ _ HH.out).mono ?_; rintro e w' ⟨rfl, rfl⟩)
      go_ret2
      exact ⟨rfl, rfl⟩
    · go_enter Try.func14, Try.ntmps14
      go_wp2_with (go_at_call 7; refine (solo_size _ _ _ HH.out).mono ?_; rintro e w' ⟨rfl, rfl⟩)
      go_ret2
      exact ⟨rfl, rfl⟩
theorem solo_write_range (s : Value) (w : World) (I : Ids) (S : SoloSt) (H : SoloAt w I S) (A : Option Addr) (c cap : Nat) (h : c = 0 ∨ I.n < c) (hc : c ≤ maxLen) :
    Calls Try.prog 9 #[.pointer (some ⟨I.so, 0, none⟩), s, .slice A c cap] w fun e w' => e = .returned (.tuple #[.int .i64 0, .int .i64 1]) ∧ w = w' := by
  have HH := Lib.hid H
  unfold maxLen at hc
  clear H
  go_enter Try.func9, Try.ntmps9
  go_wp2_with (go_at_call 14; refine (solo_claim_range _ _ _ _ HH.out _ (by omega)).mono ?_; rintro e w' ⟨rfl, rfl⟩)
  go_ret2
  exact ⟨rfl, rfl⟩
def putN (I : Ids) (S : SoloSt) (q : Int) (v : Nat → Int) : Nat → SoloSt
  | 0 => S
  | j + 1 => putS I (putN I S q v j) (q + j) (v j)
theorem putN_next (I : Ids) (S : SoloSt) (q : Int) (v : Nat → Int) (j : Nat) : (putN I S q v j).next = S.next ∧ (putN I S q v j).published = S.published ∧ (putN I S q v j).cached = S.cached ∧ (putN I S q v j).cursor = S.cursor ∧ (putN I S q v j).num = S.num ∧ (putN I S q v j).place = S.place := by
  induction j with
  | zero => exact ⟨rfl, rfl, rfl, rfl, rfl, rfl⟩
  | succ j ih => exact ih
def writeS (I : Ids) (S : SoloSt) (v : Nat → Int) (c : Nat) : SoloSt :=
  { putN I { claimS I S c with next := S.next + c } S.next v c with cursor := S.next + c - 1, published := S.next + c - 1 }
def WritePost (X : Stepper) (t : Nat) (w : World) (I : Ids) (S : SoloSt) (v : Nat → Int) (c : Nat) (e : Ending) (w' : World) : Prop :=
  (cach I S c < S.next + c - 1 - I.n ∧ e = .returned (.tuple #[.int .i64 0, .int .i64 3]) ∧ SoloAt w' I (claimS I S c) ∧ X.at_ (t + looks I S c) w' ∨
   ¬ cach I S c < S.next + c - 1 - I.n ∧ e = .returned (.tuple #[.int .i64 S.next, .int .i64 0]) ∧ SoloAt w' I (writeS I S v c) ∧ X.at_ (t + looks I S c + 3 * c + 1) w') ∧
  Kept (fun b => b = I.so ∨ b = I.gb ∨ X.own b) w w' ∧ w'.heap.size = w.heap.size
theorem solo_write (X : Stepper) (t : Nat) (w : World) (I : Ids) (S : SoloSt) (W : Walks X I) (H : SoloAt w I S) (A : X.at_ t w) (vb vo cap c : Nat) (v : Nat → Int) (h1 : 0 < c) (h2 : c ≤ I.n) (h3 : 0 ≤ S.next) (h4 : S.next + c ≤ 4611686018427387904) (h5 : S.published < S.next)
    (hv : ∀ i, i < c → w.cell? ⟨vb, vo + i, none⟩ = some (.int .i64 (v i))) (d1 : vb ≠ I.so) (d2 : vb ≠ I.gb) (d3 : ¬ X.own vb) (hlt : vb < w.heap.size) :
    Calls Try.prog 9 #[.pointer (some ⟨I.so, 0, none⟩), X.v, .slice (some ⟨vb, vo, none⟩) c cap] w (WritePost X t w I S v c) := by
  have hn2 := H.ring.most
  have HH := Lib.hid H
  have HV := Lib.hid hv
  have HA := Lib.hid A
  have HD3 := Lib.hid d3
  clear hv H A d3
  go_enter Try.func9, Try.ntmps9
  go_wp2_with fail
  refine (solo_claim X t _ _ _ W HH.out HA.out c h1 h2 h3 h4).mono ?_
  rintro e w1 ⟨⟨t0, rfl, H1⟩ | ⟨t0, rfl, H1⟩, hk1, hz1, ha1⟩
  · have HH1 := Lib.hid H1
    have T := Lib.hid t0
    have HZ := Lib.hid (And.intro hz1 ha1)
    clear H1 t0 hz1 ha1
    go_wp2
    go_ret2
    exact ⟨.inl ⟨T.out, rfl, HH1.out, HZ.out.2⟩, hk1.mono (fun _ _ e => e.elim .inl (fun e => .inr (.inr e))), HZ.out.1⟩
  · have HH1 := Lib.hid H1
    have T := Lib.hid t0
    have HZ := Lib.hid (And.intro hz1 ha1)
    clear H1 t0 hz1 ha1
    go_wp2_with fail
    go_loopw [25] (fun i wr => ∃ j : Nat, j ≤ c ∧ i = .int .i64 j ∧ SoloAt wr I (putN I { claimS I S c with next := S.next + c } S.next v j) ∧ Kept (fun b => b = I.so ∨ b = I.gb ∨ X.own b) w wr ∧ wr.heap.size = w.heap.size ∧ X.at_ (t + looks I S c + 3 * j) wr) (fun i _ => c - (intOf i).toNat)
    case atStart => exact ⟨0, Nat.zero_le _, rfl, HH1.out, hk1.mono (fun _ _ e => e.elim .inl (fun e => .inr (.inr e))), HZ.out.1, HZ.out.2⟩
    case round =>
      obtain ⟨j, hj, rfl, Hr, hk, hz, ha⟩ := hrel
      have HR := Lib.hid Hr
      have HZR := Lib.hid (And.intro hz ha)
      clear Hr hz ha
      have hcell : j < c → wr.cell? ⟨vb, vo + j, none⟩ = some (.int .i64 (v j)) := fun h => (World.cell?_of_block (w := w) (a := ⟨vb, vo + j, none⟩) (hk.block vb hlt (fun e => e.elim d1 (fun e => e.elim d2 HD3.out)))).trans (HV.out j h)
      by_cases hjc : j < c
      · have hc := hcell hjc
        clear hcell
        have pn := putN_next I { claimS I S c with next := S.next + c } S.next v j
        have q1 : S.next + j < (putN I { claimS I S c with next := S.next + c } S.next v j).next := by rw [pn.1]; show _ < S.next + c; omega
        have q2 : (putN I { claimS I S c with next := S.next + c } S.next v j).published < S.next + j := by rw [pn.2.1]; show S.published < _; omega
        have q3 : (putN I { claimS I S c with next := S.next + c } S.next v j).next ≤ 4611686018427387904 := by rw [pn.1]; exact h4
        have Q1 := Lib.hid q1
        have Q2 := Lib.hid q2
        have Q3 := Lib.hid q3
        clear pn q1 q2 q3
        go_wp2_with fail
        refine (solo_put X _ _ _ _ W HR.out HZR.out.2 _ _ (by omega) Q1.out Q2.out Q3.out).mono ?_
        rintro e w2 ⟨rfl, H2, hk2, hz2, ha2⟩
        have HH2 := Lib.hid H2
        have HZ2 := Lib.hid (And.intro hz2 ha2)
        clear H2 hz2 ha2
        go_wp2
        go_roundw
        case rel => exact ⟨j + 1, by omega, by go_num, HH2.out, hk.trans (hk2.mono (fun _ _ e => .inr e)), HZ2.out.1.trans HZR.out.1, HZ2.out.2⟩
        case measure => simp [intOf]; omega
      · obtain rfl : j = c := by omega
        clear hcell
        have pn := putN_next I { claimS I S j with next := S.next + j } S.next v j
        have q1 : S.next + j - 1 < (putN I { claimS I S j with next := S.next + j } S.next v j).next := by rw [pn.1]; show _ < S.next + j; omega
        have q2 : (putN I { claimS I S j with next := S.next + j } S.next v j).published < S.next + j - 1 := by rw [pn.2.1]; show S.published < _; omega
        have Q1 := Lib.hid q1
        have Q2 := Lib.hid q2
        clear pn q1 q2
        go_wp2_with fail
        refine (solo_publish X _ _ _ _ W HR.out HZR.out.2 _ (by omega) Q1.out Q2.out).mono ?_
        rintro e w2 ⟨rfl, H2, hk2, hz2, ha2⟩
        have HH2 := Lib.hid H2
        have HZ2 := Lib.hid (And.intro hz2 ha2)
        clear H2 hz2 ha2
        go_wp2
        go_ret2
        exact ⟨.inr ⟨by have := T.out; omega, rfl, HH2.out, HZ2.out.2⟩, hk.trans (hk2.mono (fun _ _ e => e.elim .inl (fun e => .inr (.inr e)))), HZ2.out.1.trans HZR.out.1⟩
end Go.Proofs.Ytenhclfihedmiaa
