/-
  The claim MultiSlow: a writer that has claimed and not yet written holds the others back at its slot: for every two bytes; no condition.
-/
import Derived.Test.YtphbolckbfnhaaaGj
import Derived.Test.YtphbolckbfnhaaaGi
import Derived.Test.YtphbolckbfnhaaaGh
import Derived.Test.YtphbolckbfnhaaaGn
import Derived.Test.YtphbolckbfnhaaaGk
import Derived.Test.YtphbolckbfnhaaaGd
import Derived.Conc.LeavingOf
import Derived.Test.YtphbolckbfnhaaaRows
import Derived.ProofKit
import Derived.OpenShut
/- DERIVED. The ring of many writers (package multi), lone, with a Stepper: Size, free, written, Claim, Write. -/
namespace Go.Proofs.Ytphbolckbfnhaaa
open Go.RowKit Go.Turn Go.Tame Go.Conc
set_option linter.unusedVariables false
set_option linter.unusedSectionVars false
set_option linter.unusedSimpArgs false
/-- What a ring of many writers holds. -/
structure MulS where
  st : Nat → Int
  va : Nat → Int
  cur : Int
  seen : Int
structure MulX (I : MIds) (S : MulS) (O : Nat → Prop) (w : World) : Prop where
  mul : Blk w I.mb 81 #[.pointer (some ⟨I.rb, 0, none⟩), .int .i64 I.first, .pointer (some ⟨I.cb, 0, none⟩), .pointer (some ⟨I.eb, 0, none⟩)]
  ring : RingAt w I.rb I.gb I.n S.st S.va
  cw : Blk w I.cb 186 #[.int .i64 S.cur]
  sw : Blk w I.eb 186 #[.int .i64 S.seen]
  d1 : I.gb ≠ I.mb ∧ I.gb ≠ I.cb ∧ I.gb ≠ I.eb
  d2 : I.cb ≠ I.mb ∧ I.cb ≠ I.eb ∧ I.cb ≠ I.rb
  d3 : I.eb ≠ I.mb ∧ I.eb ≠ I.rb
  own : ∀ b, O b → b ≠ I.mb ∧ b ≠ I.rb ∧ b ≠ I.gb ∧ b ≠ I.cb ∧ b ≠ I.eb
  f0 : 0 ≤ I.first
  f1 : I.first < 4611686018427387904
  c0 : -1 ≤ S.cur
  c1 : S.cur < 4611686018427387904
section
variable {I : MIds} {S : MulS} {O : Nat → Prop} {w w' : World}
theorem MulX.kept {Z : Nat → Prop} (h : MulX I S O w) (k : Kept Z w w') (h1 : ¬ Z I.mb) (h2 : ¬ Z I.rb) (h3 : ¬ Z I.gb) (h4 : ¬ Z I.cb) (h5 : ¬ Z I.eb) : MulX I S O w' :=
  ⟨h.mul.kept k h1, h.ring.kept k h2 h3, h.cw.kept k h4, h.sw.kept k h5, h.d1, h.d2, h.d3, h.own, h.f0, h.f1, h.c0, h.c1⟩
theorem MulX.step (h : MulX I S O w) (k : Kept O w w') : MulX I S O w' :=
  h.kept k (fun z => (h.own _ z).1 rfl) (fun z => (h.own _ z).2.1 rfl) (fun z => (h.own _ z).2.2.1 rfl) (fun z => (h.own _ z).2.2.2.1 rfl) (fun z => (h.own _ z).2.2.2.2 rfl)
theorem MulX.keep {Z : Nat → Prop} (h : MulX I S O w) (k : Kept Z w w') (hz : ∀ b, b < w.heap.size → ¬ Z b) : MulX I S O w' :=
  h.kept k (hz _ h.mul.lt) (hz _ h.ring.rlt) (hz _ h.ring.glt) (hz _ h.cw.lt) (hz _ h.sw.lt)
end
set_option maxRecDepth 100000 in
theorem wload_x (X : Stepper) (hs : X.Steps Try.prog 79) (t b : Nat) (v : Int) (w : World) (h : Blk w b 186 #[.int .i64 v]) (hb : ¬ X.own b) (A : X.at_ t w) :
    Calls Try.prog 49 #[.pointer (some ⟨b, 0, none⟩), X.v] w fun e w' => e = .returned (.int .i64 v) ∧ Kept X.own w w' ∧ w'.heap.size = w.heap.size ∧ X.at_ (t + 1) w' := by
  have HH := Lib.hid (And.intro h hb)
  clear h hb
  go_enter Try.func49, Try.ntmps49
  go_wp2_with (go_at_call 79; refine (hs t w A).mono ?_; rintro e w1 ⟨rfl, a1, k1, z1⟩)
  have c1 := (HH.out.1.kept k1 HH.out.2).cell 0
  simp only [List.getElem?_toArray, List.getElem?_cons_zero] at c1
  have H1 := Lib.hid (And.intro k1 (And.intro z1 a1))
  clear k1 z1 a1
  go_wp2_with (go_at_call 62; refine (atomic_load _ _ _ c1).mono ?_; rintro e w' ⟨rfl, hw'⟩; subst hw')
  go_ret
  exact ⟨rfl, H1.out⟩
set_option maxRecDepth 100000 in
theorem wstore_x (X : Stepper) (hs : X.Steps Try.prog 79) (t b : Nat) (v u : Int) (w : World) (h : Blk w b 186 #[.int .i64 u]) (hb : ¬ X.own b) (A : X.at_ t w) :
    Calls Try.prog 68 #[.pointer (some ⟨b, 0, none⟩), X.v, .int .i64 v] w fun e w' => e = .returned (.tuple #[]) ∧ Blk w' b 186 #[.int .i64 v] ∧ Kept (fun c => c = b ∨ X.own c) w w' ∧ w'.heap.size = w.heap.size ∧ X.at_ (t + 1) w' := by
  have HH := Lib.hid (And.intro h hb)
  clear h hb
  go_enter Try.func68, Try.ntmps68
  go_wp2_with (go_at_call 79; refine (hs t w A).mono ?_; rintro e w1 ⟨rfl, a1, k1, z1⟩)
  have hb1 := HH.out.1.kept k1 HH.out.2
  have c1 := hb1.cell 0
  have y1 := hb1.frozen 0
  simp only [List.getElem?_toArray, List.getElem?_cons_zero] at c1
  have H1 := Lib.hid (And.intro k1 (And.intro z1 (And.intro a1 hb1)))
  clear k1 z1 a1 hb1
  go_wp2_with (go_at_call 78; refine (atomic_store _ v u _ c1 y1).mono ?_; rintro e w' ⟨rfl, rfl⟩)
  go_end0
  obtain ⟨k1, z1, a1, hb1⟩ := H1.out
  have ks := Kept.setCell (S := fun c => c = b) w1 (p := ⟨b, 0, none⟩) rfl (.int .i64 v)
  refine ⟨rfl, hb1.set_ 0 _, (k1.mono fun _ _ z => .inr z).trans (ks.mono fun _ _ z => .inl z), by simpa [World.setCell] using z1, X.keep a1 ks fun c hc e => HH.out.2 (e ▸ hc)⟩
set_option maxRecDepth 100000 in
theorem wcas_x (X : Stepper) (hs : X.Steps Try.prog 79) (t b : Nat) (v u : Int) (w : World) (h : Blk w b 186 #[.int .i64 u]) (hb : ¬ X.own b) (A : X.at_ t w) :
    Calls Try.prog 52 #[.pointer (some ⟨b, 0, none⟩), X.v, .int .i64 u, .int .i64 v] w fun e w' => e = .returned (.bool true) ∧ Blk w' b 186 #[.int .i64 v] ∧ Kept (fun c => c = b ∨ X.own c) w w' ∧ w'.heap.size = w.heap.size ∧ X.at_ (t + 1) w' := by
  have HH := Lib.hid (And.intro h hb)
  clear h hb
  go_enter Try.func52, Try.ntmps52
  go_wp2_with (go_at_call 79; refine (hs t w A).mono ?_; rintro e w1 ⟨rfl, a1, k1, z1⟩)
  have hb1 := HH.out.1.kept k1 HH.out.2
  have c1 := hb1.cell 0
  have y1 := hb1.frozen 0
  simp only [List.getElem?_toArray, List.getElem?_cons_zero] at c1
  have H1 := Lib.hid (And.intro k1 (And.intro z1 (And.intro a1 hb1)))
  clear k1 z1 a1 hb1
  go_wp2_with (go_at_call 81; refine (atomic_cas _ u v u _ c1 y1).mono ?_; rintro e w' ⟨rfl, hw'⟩; rw [show (u == u) = true by simp] at hw' ⊢; rw [if_pos rfl] at hw'; subst hw')
  go_ret
  obtain ⟨k1, z1, a1, hb1⟩ := H1.out
  have ks := Kept.setCell (S := fun c => c = b) w1 (p := ⟨b, 0, none⟩) rfl (.int .i64 v)
  refine ⟨rfl, hb1.set_ 0 _, (k1.mono fun _ _ z => .inr z).trans (ks.mono fun _ _ z => .inl z), by simpa [World.setCell] using z1, X.keep a1 ks fun c hc e => HH.out.2 (e ▸ hc)⟩
/-- May sequences be claimed, as far as who holds writers back goes: the answer, what is seen, and the steps. -/
abbrev FrX : Type := MulS → Int → Int → Bool × Int × Nat
structure FreeX (X : Stepper) (I : MIds) (hval : Value) (fr : FrX) : Prop where
  law : ∀ (t : Nat) (S : MulS) (w : World), MulX I S X.own w → X.at_ t w → ∀ n : Int, 1 ≤ n → n ≤ I.n → S.cur + n < 4611686018427387904 →
    Calls Try.prog 50 #[.pointer (some ⟨I.mb, 0, none⟩), X.v, hval, .int .i64 S.cur, .int .i64 n] w fun e w' => e = .returned (.bool (fr S S.cur n).1) ∧ MulX I { S with seen := (fr S S.cur n).2.1 } X.own w' ∧ Kept (fun b => b = I.eb ∨ X.own b) w w' ∧ w'.heap.size = w.heap.size ∧ X.at_ (t + (fr S S.cur n).2.2) w'
/-- Nobody holds writers back. -/
def frNil (n : Nat) : FrX := fun S c m => if c + m - n ≤ S.seen then (true, S.seen, 1) else (decide (c + m - n ≤ c), c, 2)
set_option maxHeartbeats 1000000 in
set_option maxRecDepth 100000 in
theorem free_nil (X : Stepper) (hs : X.Steps Try.prog 79) (I : MIds) : FreeX X I .nilIface (frNil I.n) where
  law := by
    intro t S w h A n hn1 hn2 hcn
    have hp := h.ring.pos
    have hm := h.ring.most
    have hc0 := h.c0
    have b0 : w.cell? ⟨I.mb, 0, none⟩ = some (.pointer (some ⟨I.rb, 0, none⟩)) := h.mul.cell 0
    have b3 : w.cell? ⟨I.mb, 3, none⟩ = some (.pointer (some ⟨I.eb, 0, none⟩)) := h.mul.cell 3
    have r0 := h.ring.ring
    obtain ⟨st, va, c, g⟩ := S
    dsimp only at hc0 hcn
    have HH := Lib.hid h
    have HA := Lib.hid A
    clear h A
    unfold frNil
    dsimp only
    by_cases hg : c + n - I.n ≤ g
    · rw [if_pos hg]
      have d1 : decide (c + n - (I.n : Int) ≤ g) = true := decide_eq_true hg
      clear hg
      go_enter Try.func50, Try.ntmps50
      go_wp2_with (go_at_call 23; refine (multi_sizeM _ _ _ _ _ _ b0 r0).mono ?_; rintro e w' ⟨rfl, hw'⟩; subst hw')
      refine (wload_x X hs t I.eb g _ HH.out.sw (fun z => (HH.out.own _ z).2.2.2.2 rfl) HA.out).mono ?_
      rintro e w1 ⟨rfl, k1, z1, a1⟩
      have H1 := Lib.hid (And.intro k1 (And.intro z1 a1))
      clear k1 z1 a1
      go_wp2
      go_ret
      exact ⟨rfl, HH.out.step H1.out.1, H1.out.1.mono fun _ _ z => .inr z, H1.out.2.1, H1.out.2.2⟩
    · rw [if_neg hg]
      have d1 : decide (c + n - (I.n : Int) ≤ g) = false := decide_eq_false hg
      clear hg
      go_enter Try.func50, Try.ntmps50
      go_wp2_with (go_at_call 23; refine (multi_sizeM _ _ _ _ _ _ b0 r0).mono ?_; rintro e w' ⟨rfl, hw'⟩; subst hw')
      refine (wload_x X hs t I.eb g _ HH.out.sw (fun z => (HH.out.own _ z).2.2.2.2 rfl) HA.out).mono ?_
      rintro e w1 ⟨rfl, k1, z1, a1⟩
      have m1 := HH.out.step k1
      have b3 : w1.cell? ⟨I.mb, 3, none⟩ = some (.pointer (some ⟨I.eb, 0, none⟩)) := m1.mul.cell 3
      have H1 := Lib.hid (And.intro k1 (And.intro z1 (And.intro a1 m1)))
      clear k1 z1 a1 m1 b0 r0
      go_wp2_with fail
      refine (wstore_x X hs (t + 1) I.eb c g _ H1.out.2.2.2.sw (fun z => (HH.out.own _ z).2.2.2.2 rfl) H1.out.2.2.1).mono ?_
      rintro e w2 ⟨rfl, s2, k2, z2, a2⟩
      have H2 := Lib.hid (And.intro s2 (And.intro k2 (And.intro z2 a2)))
      clear s2 k2 z2 a2 b3
      go_wp2
      go_ret
      obtain ⟨k1, z1, a1, m1⟩ := H1.out
      obtain ⟨s2, k2, z2, a2⟩ := H2.out
      have no : ∀ b, b ≠ I.eb → ¬ X.own b → ¬ (b = I.eb ∨ X.own b) := fun b h1 h2 z => z.elim h1 h2
      have o := m1.own
      refine ⟨rfl, ⟨m1.mul.kept k2 (no _ m1.d3.1.symm fun z => (o _ z).1 rfl), m1.ring.kept k2 (no _ m1.d3.2.symm fun z => (o _ z).2.1 rfl) (no _ m1.d1.2.2 fun z => (o _ z).2.2.1 rfl), m1.cw.kept k2 (no _ m1.d2.2.1 fun z => (o _ z).2.2.2.1 rfl), s2, m1.d1, m1.d2, m1.d3, o, m1.f0, m1.f1, m1.c0, m1.c1⟩, (k1.mono fun _ _ z => .inr z).trans k2, z2.trans z1, a2⟩
/-- Has all been written that stands in the way: the answer, the steps. -/
def wrX (st : Nat → Int) (n : Nat) (fs : Int) : Nat → Int → Bool × Nat
  | 0, _ => (true, 0)
  | m + 1, q => if fs ≤ q then (if st (q % n).toNat = 2 * (q / n) then ((wrX st n fs m (q + 1)).1, (wrX st n fs m (q + 1)).2 + 1) else (false, 1)) else wrX st n fs m (q + 1)
set_option maxHeartbeats 2000000 in
set_option maxRecDepth 100000 in
theorem written_x (X : Stepper) (hs2 : X.Steps Try.prog 85) (I : MIds) (t : Nat) (S : MulS) (w : World) (h : MulX I S X.own w) (A : X.at_ t w) (m : Nat) (hm : m ≤ I.n) (hcn : S.cur + m < 4611686018427387904) :
    Calls Try.prog 51 #[.pointer (some ⟨I.mb, 0, none⟩), X.v, .int .i64 S.cur, .int .i64 m] w fun e w' => e = .returned (.bool (wrX S.st I.n I.first m (S.cur + 1 - I.n)).1) ∧ Kept X.own w w' ∧ w'.heap.size = w.heap.size ∧ X.at_ (t + (wrX S.st I.n I.first m (S.cur + 1 - I.n)).2) w' := by
  have hp := h.ring.pos
  have hmo := h.ring.most
  have hc0 := h.c0
  have hf0 := h.f0
  have hf1 := h.f1
  have b0 : w.cell? ⟨I.mb, 0, none⟩ = some (.pointer (some ⟨I.rb, 0, none⟩)) := h.mul.cell 0
  have r0 := h.ring.ring
  obtain ⟨st, va, c, g⟩ := S
  dsimp only at hc0 hcn ⊢
  have HH := Lib.hid h
  have HA := Lib.hid A
  clear h A
  go_enter Try.func51, Try.ntmps51
  go_wp2_with (go_at_call 23; refine (multi_sizeM _ _ _ _ _ _ b0 r0).mono ?_; rintro e w' ⟨rfl, hw'⟩; subst hw')
  clear b0 r0
  obtain ⟨q0, hq0⟩ : ∃ q0, q0 = c + 1 - (I.n : Int) := ⟨_, rfl⟩
  rw [← hq0]
  have HQ := Lib.hid hq0
  clear hq0
  go_loopw [9] (fun q wr => ∃ j : Nat, j ≤ m ∧ q = .int .i64 (q0 + j) ∧ Kept X.own w wr ∧ wr.heap.size = w.heap.size ∧ ∃ k, X.at_ (t + k) wr ∧ (wrX st I.n I.first m q0).1 = (wrX st I.n I.first (m - j) (q0 + j)).1 ∧ (wrX st I.n I.first m q0).2 = k + (wrX st I.n I.first (m - j) (q0 + j)).2) (fun q _ => (c + m + 1 - intOf q).toNat)
  case atStart => exact ⟨0, Nat.zero_le _, by simp, Kept.refl _ _, rfl, 0, HA.out, by simp, by simp⟩
  case round =>
    obtain ⟨j, hj, rfl, hk, hz, k, ha, e1, e2⟩ := hrel
    obtain ⟨q, hq⟩ : ∃ q, q = q0 + (j : Int) := ⟨_, rfl⟩
    rw [← hq]
    have HE := Lib.hid (And.intro hk (And.intro hz (And.intro ha (And.intro e1 e2))))
    have hqb : -65536 ≤ q ∧ q < 4611686018427387904 := by have := HQ.out; omega
    have hqr : q = c + 1 - I.n + j := by have := HQ.out; omega
    have HJ := Lib.hid (And.intro hq hqr)
    have H1 := Lib.hid (HH.out.step hk)
    have b0 : wr.cell? ⟨I.mb, 0, none⟩ = some (.pointer (some ⟨I.rb, 0, none⟩)) := H1.out.mul.cell 0
    have b1 : wr.cell? ⟨I.mb, 1, none⟩ = some (.int .i64 I.first) := H1.out.mul.cell 1
    have r0 := H1.out.ring.ring
    by_cases hlt : j < m
    · have d1 : decide (q ≤ c + (m : Int) - I.n) = true := decide_eq_true (by omega)
      have hqm : q ≤ c + m := by omega
      have hNX := Lib.hid (show m - j = (m - (j + 1)) + 1 by omega)
      clear hk hz ha e1 e2 hq hqr
      by_cases hf : I.first ≤ q
      · have d2 : decide (I.first ≤ q) = true := decide_eq_true hf
        go_wp2_with (go_at_call 23; refine (multi_sizeM _ _ _ _ _ _ b0 r0).mono ?_; rintro e w' ⟨rfl, hw'⟩; subst hw')
        refine (there_x X hs2 (t + k) I.rb I.gb I.n st va q _ H1.out.ring (by omega) hqb.2 HE.out.2.2.1 (fun z => (H1.out.own _ z).2.1 rfl) (fun z => (H1.out.own _ z).2.2.1 rfl)).mono ?_
        rintro e w2 ⟨rfl, k2, z2, a2⟩
        by_cases hst : st (q % I.n).toNat = 2 * (q / I.n)
        · rw [show (st (q % (I.n : Int)).toNat == 2 * (q / I.n)) = true by simpa using hst]
          have H2 := Lib.hid (And.intro k2 (And.intro z2 (And.intro a2 hst)))
          clear k2 z2 a2 hst b0 b1 r0 d2
          go_wp2
          go_roundw
          case rel =>
            obtain ⟨hk, hz, ha, e1, e2⟩ := HE.out
            obtain ⟨k2, z2, a2, hst⟩ := H2.out
            have hq := HJ.out.1
            have e3 : wrX st I.n I.first (m - j) (q0 + j) = ((wrX st I.n I.first (m - (j + 1)) (q + 1)).1, (wrX st I.n I.first (m - (j + 1)) (q + 1)).2 + 1) := by
              rw [hNX.out, ← hq]
              show (if I.first ≤ q then (if st (q % I.n).toNat = 2 * (q / I.n) then _ else _) else _) = _
              rw [if_pos hf, if_pos hst]
            have e4 : q0 + ((j + 1 : Nat) : Int) = q + 1 := by omega
            refine ⟨j + 1, hlt, by rw [e4], hk.trans k2, z2.trans hz, k + 1, a2, ?_, ?_⟩
            · rw [e4, e1, e3]
            · rw [e4, e2, e3]; show _ + (_ + 1) = _; omega
          case measure => simp [intOf]; omega
        · rw [show (st (q % (I.n : Int)).toNat == 2 * (q / I.n)) = false by simpa using hst]
          have H2 := Lib.hid (And.intro k2 (And.intro z2 (And.intro a2 hst)))
          clear k2 z2 a2 hst b0 b1 r0 d2
          go_wp2
          go_ret
          obtain ⟨hk, hz, ha, e1, e2⟩ := HE.out
          obtain ⟨k2, z2, a2, hst⟩ := H2.out
          have e3 : wrX st I.n I.first (m - j) (q0 + j) = (false, 1) := by
            rw [hNX.out, ← HJ.out.1]
            show (if I.first ≤ q then (if st (q % I.n).toNat = 2 * (q / I.n) then _ else _) else _) = _
            rw [if_pos hf, if_neg hst]
          rw [← HQ.out, e1, e2, e3]
          exact ⟨rfl, hk.trans k2, z2.trans hz, a2⟩
      · have d2 : decide (I.first ≤ q) = false := decide_eq_false hf
        go_wp2_with (go_at_call 23; refine (multi_sizeM _ _ _ _ _ _ b0 r0).mono ?_; rintro e w' ⟨rfl, hw'⟩; subst hw')
        clear b0 r0 b1
        go_roundw
        case rel =>
          obtain ⟨hk, hz, ha, e1, e2⟩ := HE.out
          have hq := HJ.out.1
          have e3 : wrX st I.n I.first (m - j) (q0 + j) = wrX st I.n I.first (m - (j + 1)) (q + 1) := by
            rw [hNX.out, ← hq]
            show (if I.first ≤ q then (if st (q % I.n).toNat = 2 * (q / I.n) then _ else _) else _) = _
            rw [if_neg (by omega)]
          have e4 : q0 + ((j + 1 : Nat) : Int) = q + 1 := by omega
          exact ⟨j + 1, hlt, by rw [e4], hk, hz, k, ha, by rw [e4, e1, e3], by rw [e4, e2, e3]⟩
        case measure => simp [intOf]; omega
    · obtain rfl : j = m := by omega
      have d1 : decide (q ≤ c + (j : Int) - I.n) = false := decide_eq_false (by omega)
      clear hk hz ha e1 e2 hq hqr
      go_wp2_with (go_at_call 23; refine (multi_sizeM _ _ _ _ _ _ b0 r0).mono ?_; rintro e w' ⟨rfl, hw'⟩; subst hw')
      go_ret
      obtain ⟨hk, hz, ha, e1, e2⟩ := HE.out
      rw [Nat.sub_self] at e1 e2
      rw [← HQ.out, e1, e2]
      exact ⟨rfl, hk, hz, ha⟩
/-- A whole Claim: what it tells, the ring behind it, the steps. -/
def claimX (fr : FrX) (N : Nat) (fs : Int) (S : MulS) (m : Int) : Int × Int × MulS × Nat :=
  if m < 1 ∨ (N : Int) < m then (0, 1, S, 0)
  else if 4611686018427387904 ≤ S.cur + m then (0, 8, S, 1)
  else if (fr S S.cur m).1 = false then (0, 3, { S with seen := (fr S S.cur m).2.1 }, 1 + (fr S S.cur m).2.2)
  else if (wrX S.st N fs m.toNat (S.cur + 1 - N)).1 = false then (0, 3, { S with seen := (fr S S.cur m).2.1 }, 1 + (fr S S.cur m).2.2 + (wrX S.st N fs m.toNat (S.cur + 1 - N)).2 + 1)
  else (S.cur + m, 0, { S with seen := (fr S S.cur m).2.1, cur := S.cur + m }, 1 + (fr S S.cur m).2.2 + (wrX S.st N fs m.toNat (S.cur + 1 - N)).2 + 1)
theorem MulX.setCur {X : Stepper} {I : MIds} {S : MulS} {w w' : World} (h : MulX I S X.own w) {c : Int} (s2 : Blk w' I.cb 186 #[.int .i64 c]) (k2 : Kept (fun b => b = I.cb ∨ X.own b) w w') (h0 : -1 ≤ c) (h1 : c < 4611686018427387904) : MulX I { S with cur := c } X.own w' := by
  have no : ∀ b, b ≠ I.cb → ¬ X.own b → ¬ (b = I.cb ∨ X.own b) := fun b h1 h2 z => z.elim h1 h2
  have o := h.own
  exact ⟨h.mul.kept k2 (no _ h.d2.1.symm fun z => (o _ z).1 rfl), h.ring.kept k2 (no _ h.d2.2.2.symm fun z => (o _ z).2.1 rfl) (no _ h.d1.2.1 fun z => (o _ z).2.2.1 rfl), s2, h.sw.kept k2 (no _ h.d2.2.1.symm fun z => (o _ z).2.2.2.2 rfl), h.d1, h.d2, h.d3, o, h.f0, h.f1, h0, h1⟩
/-- What a call leaves alone. -/
def OutM (I : MIds) (O : Nat → Prop) (b : Nat) : Prop := b = I.cb ∨ b = I.eb ∨ b = I.gb ∨ O b
set_option maxHeartbeats 2000000 in
set_option maxRecDepth 100000 in
theorem claim_x (X : Stepper) (hs : X.Steps Try.prog 79) (hs2 : X.Steps Try.prog 85) (I : MIds) {hval : Value} {fr : FrX} (hF : FreeX X I hval fr) (t : Nat) (S : MulS) (w : World) (h : MulX I S X.own w) (A : X.at_ t w) (n : Int) :
    Calls Try.prog 18 #[.pointer (some ⟨I.mb, 0, none⟩), X.v, hval, .int .i64 n] w fun e w' => e = .returned (.tuple #[.int .i64 (claimX fr I.n I.first S n).1, .int .i64 (claimX fr I.n I.first S n).2.1]) ∧ MulX I (claimX fr I.n I.first S n).2.2.1 X.own w' ∧ Kept (OutM I X.own) w w' ∧ w'.heap.size = w.heap.size ∧ X.at_ (t + (claimX fr I.n I.first S n).2.2.2) w' := by
  have hp := h.ring.pos
  have hmo := h.ring.most
  have hc0 := h.c0
  have hc1 := h.c1
  have b0 : w.cell? ⟨I.mb, 0, none⟩ = some (.pointer (some ⟨I.rb, 0, none⟩)) := h.mul.cell 0
  have r0 := h.ring.ring
  have HH := Lib.hid h
  have HA := Lib.hid A
  clear h A
  unfold claimX
  by_cases h1 : n < 1
  · rw [if_pos (.inl h1)]
    have d1 : decide (n < 1) = true := decide_eq_true h1
    go_enter Try.func18, Try.ntmps18
    go_wp2_with (go_at_call 23; refine (multi_sizeM _ _ _ _ _ _ b0 r0).mono ?_; rintro e w' ⟨rfl, hw'⟩; subst hw')
    go_ret2
    exact ⟨rfl, HH.out, Kept.refl _ _, rfl, HA.out⟩
  have d1 : decide (n < 1) = false := decide_eq_false h1
  by_cases h2 : (I.n : Int) < n
  · rw [if_pos (.inr h2)]
    have d2 : decide ((I.n : Int) < n) = true := decide_eq_true h2
    go_enter Try.func18, Try.ntmps18
    go_wp2_with (go_at_call 23; refine (multi_sizeM _ _ _ _ _ _ b0 r0).mono ?_; rintro e w' ⟨rfl, hw'⟩; subst hw')
    go_ret2
    exact ⟨rfl, HH.out, Kept.refl _ _, rfl, HA.out⟩
  have d2 : decide ((I.n : Int) < n) = false := decide_eq_false h2
  rw [if_neg (by omega)]
  obtain ⟨m, rfl⟩ : ∃ m : Nat, n = m := ⟨n.toNat, by omega⟩
  have hm1 : 1 ≤ m := by omega
  have hm2 : m ≤ I.n := by omega
  clear h1 h2
  rw [Int.toNat_natCast]
  have HFR := Lib.hid (hF.law)
  by_cases h3 : 4611686018427387904 ≤ S.cur + (m : Int)
  · rw [if_pos h3]
    have d3 : decide (4611686018427387904 ≤ S.cur + (m : Int)) = true := decide_eq_true h3
    go_enter Try.func18, Try.ntmps18
    go_wp2_with (go_at_call 23; refine (multi_sizeM _ _ _ _ _ _ b0 r0).mono ?_; rintro e w' ⟨rfl, hw'⟩; subst hw')
    clear b0 r0
    go_loopw [10] (fun _ wr => wr = w) (fun _ _ => 0)
    case atStart => trivial
    case round =>
      subst hrel
      have b2 : World.cell? _ ⟨I.mb, 2, none⟩ = some (.pointer (some ⟨I.cb, 0, none⟩)) := HH.out.mul.cell 2
      go_wp2_with fail
      refine (wload_x X hs t I.cb _ _ HH.out.cw (fun z => (HH.out.own _ z).2.2.2.1 rfl) HA.out).mono ?_
      rintro e w1 ⟨rfl, k1, z1, a1⟩
      have H1 := Lib.hid (And.intro k1 (And.intro z1 a1))
      clear k1 z1 a1 b2
      go_wp2
      go_ret2
      exact ⟨rfl, HH.out.step H1.out.1, H1.out.1.mono fun _ _ z => .inr (.inr (.inr z)), H1.out.2.1, H1.out.2.2⟩
  rw [if_neg h3]
  have d3 : decide (4611686018427387904 ≤ S.cur + (m : Int)) = false := decide_eq_false h3
  obtain ⟨fb, fs, fk, hfr⟩ : ∃ fb fs fk, fr S S.cur m = (fb, fs, fk) := ⟨_, _, _, rfl⟩
  obtain ⟨wb, wk, hwr⟩ : ∃ wb wk, wrX S.st I.n I.first m (S.cur + 1 - I.n) = (wb, wk) := ⟨_, _, rfl⟩
  rw [hfr, hwr]
  have HE := Lib.hid (And.intro hfr hwr)
  clear hfr hwr
  dsimp only
  cases fb with
  | false =>
    rw [if_pos rfl]
    go_enter Try.func18, Try.ntmps18
    go_wp2_with (go_at_call 23; refine (multi_sizeM _ _ _ _ _ _ b0 r0).mono ?_; rintro e w' ⟨rfl, hw'⟩; subst hw')
    clear b0 r0
    go_loopw [10] (fun _ wr => wr = w) (fun _ _ => 0)
    case atStart => trivial
    case round =>
      subst hrel
      have b2 : World.cell? _ ⟨I.mb, 2, none⟩ = some (.pointer (some ⟨I.cb, 0, none⟩)) := HH.out.mul.cell 2
      go_wp2_with fail
      refine (wload_x X hs t I.cb _ _ HH.out.cw (fun z => (HH.out.own _ z).2.2.2.1 rfl) HA.out).mono ?_
      rintro e w1 ⟨rfl, k1, z1, a1⟩
      have H1 := Lib.hid (And.intro (HH.out.step k1) (And.intro k1 (And.intro z1 a1)))
      clear k1 z1 a1 b2
      go_wp2_with fail
      have hfl := HFR.out (t + 1) S w1 H1.out.1 H1.out.2.2.2 m (by omega) (by omega) (by omega)
      rw [HE.out.1] at hfl
      refine hfl.mono ?_
      clear hfl
      rintro e w2 ⟨rfl, m2, k2, z2, a2⟩
      dsimp only at m2 a2
      have H2 := Lib.hid (And.intro m2 (And.intro k2 (And.intro z2 a2)))
      clear m2 k2 z2 a2
      have kk2 : Kept (OutM I X.own) _ w2 := (H1.out.2.1.mono fun _ _ z => .inr (.inr (.inr z))).trans (H2.out.2.1.mono fun _ _ z => z.elim (fun e => .inr (.inl e)) fun z => .inr (.inr (.inr z)))
      have HK2 := Lib.hid kk2
      clear kk2
      dsimp only
      go_wp2
      go_ret2
      exact ⟨rfl, H2.out.1, HK2.out, H2.out.2.2.1.trans H1.out.2.2.1, by have := H2.out.2.2.2; rwa [Nat.add_assoc] at this⟩
  | true =>
  rw [if_neg (by decide)]
  cases wb with
  | false =>
    rw [if_pos rfl]
    go_enter Try.func18, Try.ntmps18
    go_wp2_with (go_at_call 23; refine (multi_sizeM _ _ _ _ _ _ b0 r0).mono ?_; rintro e w' ⟨rfl, hw'⟩; subst hw')
    clear b0 r0
    go_loopw [10] (fun _ wr => wr = w) (fun _ _ => 0)
    case atStart => trivial
    case round =>
      subst hrel
      have b2 : World.cell? _ ⟨I.mb, 2, none⟩ = some (.pointer (some ⟨I.cb, 0, none⟩)) := HH.out.mul.cell 2
      go_wp2_with fail
      refine (wload_x X hs t I.cb _ _ HH.out.cw (fun z => (HH.out.own _ z).2.2.2.1 rfl) HA.out).mono ?_
      rintro e w1 ⟨rfl, k1, z1, a1⟩
      have H1 := Lib.hid (And.intro (HH.out.step k1) (And.intro k1 (And.intro z1 a1)))
      clear k1 z1 a1 b2
      go_wp2_with fail
      have hfl := HFR.out (t + 1) S w1 H1.out.1 H1.out.2.2.2 m (by omega) (by omega) (by omega)
      rw [HE.out.1] at hfl
      refine hfl.mono ?_
      clear hfl
      rintro e w2 ⟨rfl, m2, k2, z2, a2⟩
      dsimp only at m2 a2
      have H2 := Lib.hid (And.intro m2 (And.intro k2 (And.intro z2 a2)))
      clear m2 k2 z2 a2
      have kk2 : Kept (OutM I X.own) _ w2 := (H1.out.2.1.mono fun _ _ z => .inr (.inr (.inr z))).trans (H2.out.2.1.mono fun _ _ z => z.elim (fun e => .inr (.inl e)) fun z => .inr (.inr (.inr z)))
      have HK2 := Lib.hid kk2
      clear kk2
      dsimp only
      go_wp2_with fail
      have hwl := written_x X hs2 I (t + 1 + fk) { S with seen := fs } w2 H2.out.1 H2.out.2.2.2 m hm2 (by show S.cur + _ < _; omega)
      dsimp only at hwl
      rw [HE.out.2] at hwl
      refine hwl.mono ?_
      clear hwl
      rintro e w3 ⟨rfl, k3, z3, a3⟩
      have m3 := H2.out.1.step k3
      have b2 : w3.cell? ⟨I.mb, 2, none⟩ = some (.pointer (some ⟨I.cb, 0, none⟩)) := m3.mul.cell 2
      have H3 := Lib.hid (And.intro m3 (And.intro k3 (And.intro z3 a3)))
      clear m3 k3 z3 a3
      dsimp only
      go_wp2_with fail
      refine (wload_x X hs _ I.cb S.cur _ H3.out.1.cw (fun z => (HH.out.own _ z).2.2.2.1 rfl) H3.out.2.2.2).mono ?_
      rintro e w4 ⟨rfl, k4, z4, a4⟩
      have H4 := Lib.hid (And.intro k4 (And.intro z4 a4))
      clear k4 z4 a4 b2
      go_wp2
      go_ret2
      refine ⟨rfl, H3.out.1.step H4.out.1, (HK2.out.trans (H3.out.2.1.mono fun _ _ z => .inr (.inr (.inr z)))).trans (H4.out.1.mono fun _ _ z => .inr (.inr (.inr z))), H4.out.2.1.trans (H3.out.2.2.1.trans (H2.out.2.2.1.trans H1.out.2.2.1)), ?_⟩
      have := H4.out.2.2
      rw [show t + (1 + fk + wk + 1) = t + 1 + fk + wk + 1 by omega]
      exact this
  | true =>
    rw [if_neg (by decide)]
    go_enter Try.func18, Try.ntmps18
    go_wp2_with (go_at_call 23; refine (multi_sizeM _ _ _ _ _ _ b0 r0).mono ?_; rintro e w' ⟨rfl, hw'⟩; subst hw')
    clear b0 r0
    go_loopw [10] (fun _ wr => wr = w) (fun _ _ => 0)
    case atStart => trivial
    case round =>
      subst hrel
      have b2 : World.cell? _ ⟨I.mb, 2, none⟩ = some (.pointer (some ⟨I.cb, 0, none⟩)) := HH.out.mul.cell 2
      go_wp2_with fail
      refine (wload_x X hs t I.cb _ _ HH.out.cw (fun z => (HH.out.own _ z).2.2.2.1 rfl) HA.out).mono ?_
      rintro e w1 ⟨rfl, k1, z1, a1⟩
      have H1 := Lib.hid (And.intro (HH.out.step k1) (And.intro k1 (And.intro z1 a1)))
      clear k1 z1 a1 b2
      go_wp2_with fail
      have hfl := HFR.out (t + 1) S w1 H1.out.1 H1.out.2.2.2 m (by omega) (by omega) (by omega)
      rw [HE.out.1] at hfl
      refine hfl.mono ?_
      clear hfl
      rintro e w2 ⟨rfl, m2, k2, z2, a2⟩
      dsimp only at m2 a2
      have H2 := Lib.hid (And.intro m2 (And.intro k2 (And.intro z2 a2)))
      clear m2 k2 z2 a2
      have kk2 : Kept (OutM I X.own) _ w2 := (H1.out.2.1.mono fun _ _ z => .inr (.inr (.inr z))).trans (H2.out.2.1.mono fun _ _ z => z.elim (fun e => .inr (.inl e)) fun z => .inr (.inr (.inr z)))
      have HK2 := Lib.hid kk2
      clear kk2
      dsimp only
      go_wp2_with fail
      have hwl := written_x X hs2 I (t + 1 + fk) { S with seen := fs } w2 H2.out.1 H2.out.2.2.2 m hm2 (by show S.cur + _ < _; omega)
      dsimp only at hwl
      rw [HE.out.2] at hwl
      refine hwl.mono ?_
      clear hwl
      rintro e w3 ⟨rfl, k3, z3, a3⟩
      have m3 := H2.out.1.step k3
      have b2 : w3.cell? ⟨I.mb, 2, none⟩ = some (.pointer (some ⟨I.cb, 0, none⟩)) := m3.mul.cell 2
      have H3 := Lib.hid (And.intro m3 (And.intro k3 (And.intro z3 a3)))
      clear m3 k3 z3 a3
      dsimp only
      go_wp2_with fail
      refine (wcas_x X hs _ I.cb (S.cur + m) S.cur _ H3.out.1.cw (fun z => (HH.out.own _ z).2.2.2.1 rfl) H3.out.2.2.2).mono ?_
      rintro e w4 ⟨rfl, s4, k4, z4, a4⟩
      have H4 := Lib.hid (And.intro s4 (And.intro k4 (And.intro z4 a4)))
      clear s4 k4 z4 a4 b2
      go_wp2
      go_ret2
      refine ⟨rfl, (H3.out.1.setCur H4.out.1 H4.out.2.1 (by omega) (by omega)), (HK2.out.trans (H3.out.2.1.mono fun _ _ z => .inr (.inr (.inr z)))).trans (H4.out.2.1.mono fun _ _ z => z.elim .inl fun z => .inr (.inr (.inr z))), H4.out.2.2.1.trans (H3.out.2.2.1.trans (H2.out.2.2.1.trans H1.out.2.2.1)), ?_⟩
      have := H4.out.2.2.2
      rw [show t + (1 + fk + wk + 1) = t + 1 + fk + wk + 1 by omega]
      exact this
end Go.Proofs.Ytphbolckbfnhaaa
/- DERIVED. The ring of many writers (package multi), lone, with a Stepper: Write, Cursor, Offer, Published. -/
namespace Go.Proofs.Ytphbolckbfnhaaa
open Go.RowKit Go.Turn Go.Tame Go.Conc
set_option linter.unusedVariables false
set_option linter.unusedSectionVars false
set_option linter.unusedSimpArgs false
def putS (S : MulS) (n : Nat) (q v : Int) : MulS := { S with st := upd S.st (q % n).toNat (2 * (q / n)), va := upd S.va (q % n).toNat v }
def putsS (n : Nat) : MulS → Int → List Int → MulS
  | S, _, [] => S
  | S, q, v :: vs => putsS n (putS S n q v) (q + 1) vs
theorem MulX.put {X : Stepper} {I : MIds} {S : MulS} {w w' : World} (h : MulX I S X.own w) {q v : Int} (r : RingAt w' I.rb I.gb I.n (upd S.st (q % I.n).toNat (2 * (q / I.n))) (upd S.va (q % I.n).toNat v)) (k2 : Kept (fun b => b = I.gb ∨ X.own b) w w') : MulX I (putS S I.n q v) X.own w' := by
  have no : ∀ b, b ≠ I.gb → ¬ X.own b → ¬ (b = I.gb ∨ X.own b) := fun b h1 h2 z => z.elim h1 h2
  have o := h.own
  exact ⟨h.mul.kept k2 (no _ h.d1.1.symm fun z => (o _ z).1 rfl), r, h.cw.kept k2 (no _ h.d1.2.1.symm fun z => (o _ z).2.2.2.1 rfl), h.sw.kept k2 (no _ h.d1.2.2.symm fun z => (o _ z).2.2.2.2 rfl), h.d1, h.d2, h.d3, o, h.f0, h.f1, h.c0, h.c1⟩
set_option maxRecDepth 100000 in
theorem write_x (X : Stepper) (hs2 : X.Steps Try.prog 85) (I : MIds) (t : Nat) (S : MulS) (w : World) (h : MulX I S X.own w) (A : X.at_ t w) (q v : Int) (h0 : 0 ≤ q) (h1 : q < 4611686018427387904) :
    Calls Try.prog 21 #[.pointer (some ⟨I.mb, 0, none⟩), X.v, .int .i64 q, .int .i64 v] w fun e w' => e = .returned (.int .i64 0) ∧ MulX I (putS S I.n q v) X.own w' ∧ Kept (fun b => b = I.gb ∨ X.own b) w w' ∧ w'.heap.size = w.heap.size ∧ X.at_ (t + 3) w' := by
  have b0 : w.cell? ⟨I.mb, 0, none⟩ = some (.pointer (some ⟨I.rb, 0, none⟩)) := h.mul.cell 0
  have HH := Lib.hid h
  have HA := Lib.hid A
  clear h A
  go_enter Try.func21, Try.ntmps21
  go_wp2_with (go_at_call 53; refine (multi_noM _ _ _ b0).mono ?_; rintro e w' ⟨rfl, hw'⟩; subst hw')
  refine (put_x X hs2 t I.rb I.gb I.n S.st S.va q v _ HH.out.ring h0 h1 HA.out (fun z => (HH.out.own _ z).2.1 rfl) (fun z => (HH.out.own _ z).2.2.1 rfl)).mono ?_
  rintro e w1 ⟨rfl, r1, k1, z1, a1⟩
  have H1 := Lib.hid (And.intro r1 (And.intro k1 (And.intro z1 a1)))
  clear r1 k1 z1 a1
  go_wp2
  go_ret
  exact ⟨rfl, HH.out.put H1.out.1 H1.out.2.1, H1.out.2.1, H1.out.2.2.1, H1.out.2.2.2⟩
theorem write_badx (X : Stepper) (I : MIds) (S : MulS) (w : World) (h : MulX I S X.own w) (q v : Int) (hq : ¬ InB q) :
    Calls Try.prog 21 #[.pointer (some ⟨I.mb, 0, none⟩), X.v, .int .i64 q, .int .i64 v] w fun e w' => e = .returned (.int .i64 1) ∧ w = w' := by
  have b0 : w.cell? ⟨I.mb, 0, none⟩ = some (.pointer (some ⟨I.rb, 0, none⟩)) := h.mul.cell 0
  have hb := bad_at ⟨I.rb, 0, none⟩ _ _ _ q w h.ring.ring hq
  have HH := Lib.hid hb
  clear h hb
  go_enter Try.func21, Try.ntmps21
  go_wp2_with (first | (go_at_call 53; refine (multi_noM _ _ _ b0).mono ?_; rintro e w' ⟨rfl, hw'⟩; subst hw') | (go_at_call 55; refine (put_bad HH.out X.v v).mono ?_; rintro e w' ⟨rfl, hw'⟩; subst hw'))
  go_ret
  exact ⟨rfl, rfl⟩
set_option maxRecDepth 100000 in
theorem cursor_x (X : Stepper) (hs : X.Steps Try.prog 79) (I : MIds) (t : Nat) (S : MulS) (w : World) (h : MulX I S X.own w) (A : X.at_ t w) :
    Calls Try.prog 30 #[.pointer (some ⟨I.mb, 0, none⟩), X.v] w fun e w' => e = .returned (.int .i64 S.cur) ∧ Kept X.own w w' ∧ w'.heap.size = w.heap.size ∧ X.at_ (t + 1) w' := by
  have b0 : w.cell? ⟨I.mb, 0, none⟩ = some (.pointer (some ⟨I.rb, 0, none⟩)) := h.mul.cell 0
  have b2 : w.cell? ⟨I.mb, 2, none⟩ = some (.pointer (some ⟨I.cb, 0, none⟩)) := h.mul.cell 2
  have HH := Lib.hid h
  have HA := Lib.hid A
  clear h A
  go_enter Try.func30, Try.ntmps30
  go_wp2_with (go_at_call 53; refine (multi_noM _ _ _ b0).mono ?_; rintro e w' ⟨rfl, hw'⟩; subst hw')
  refine (wload_x X hs t I.cb S.cur _ HH.out.cw (fun z => (HH.out.own _ z).2.2.2.1 rfl) HA.out).mono ?_
  rintro e w1 ⟨rfl, k1, z1, a1⟩
  have H1 := Lib.hid (And.intro k1 (And.intro z1 a1))
  clear k1 z1 a1
  go_wp2
  go_ret
  exact ⟨rfl, H1.out⟩
/-- Published: the answer, the steps. -/
def pubX (n : Nat) (S : MulS) (q : Int) : Int × Nat :=
  if q = -9223372036854775808 then (q, 0) else if q < 0 ∨ 4611686018427387904 ≤ q then (q - 1, 0) else if q ≤ S.cur then ((highR S.st n (highN n q S.cur) q).1, 1 + (highR S.st n (highN n q S.cur) q).2) else (q - 1, 1)
set_option maxHeartbeats 1000000 in
set_option maxRecDepth 100000 in
theorem pub_x (X : Stepper) (hs : X.Steps Try.prog 79) (hs2 : X.Steps Try.prog 85) (I : MIds) (t : Nat) (S : MulS) (w : World) (h : MulX I S X.own w) (A : X.at_ t w) (q : Int) (h0 : -9223372036854775808 ≤ q) (h1 : q < 9223372036854775808) :
    Calls Try.prog 20 #[.pointer (some ⟨I.mb, 0, none⟩), X.v, .int .i64 q] w fun e w' => e = .returned (.int .i64 (pubX I.n S q).1) ∧ Kept X.own w w' ∧ w'.heap.size = w.heap.size ∧ X.at_ (t + (pubX I.n S q).2) w' := by
  have b0 : w.cell? ⟨I.mb, 0, none⟩ = some (.pointer (some ⟨I.rb, 0, none⟩)) := h.mul.cell 0
  have hc1 := h.c1
  have HH := Lib.hid h
  have HA := Lib.hid A
  clear h A
  unfold pubX
  by_cases e1 : q = -9223372036854775808
  · rw [if_pos e1]
    have d1 : (q == -9223372036854775808) = true := by simpa using e1
    clear e1
    go_enter Try.func20, Try.ntmps20
    go_wp2_with (go_at_call 53; refine (multi_noM _ _ _ b0).mono ?_; rintro e w' ⟨rfl, hw'⟩; subst hw')
    go_ret
    exact ⟨rfl, Kept.refl _ _, rfl, HA.out⟩
  rw [if_neg e1]
  have d1 : (q == -9223372036854775808) = false := by simpa using e1
  have hq1 : -9223372036854775808 < q := by omega
  clear e1
  by_cases e2 : q < 0
  · rw [if_pos (.inl e2)]
    have d2 : decide (q < 0) = true := decide_eq_true e2
    go_enter Try.func20, Try.ntmps20
    go_wp2_with (go_at_call 53; refine (multi_noM _ _ _ b0).mono ?_; rintro e w' ⟨rfl, hw'⟩; subst hw')
    go_ret
    exact ⟨rfl, Kept.refl _ _, rfl, HA.out⟩
  have d2 : decide (q < 0) = false := decide_eq_false e2
  by_cases e3 : 4611686018427387904 ≤ q
  · rw [if_pos (.inr e3)]
    have d3 : decide (4611686018427387904 ≤ q) = true := decide_eq_true e3
    go_enter Try.func20, Try.ntmps20
    go_wp2_with (go_at_call 53; refine (multi_noM _ _ _ b0).mono ?_; rintro e w' ⟨rfl, hw'⟩; subst hw')
    go_ret
    exact ⟨rfl, Kept.refl _ _, rfl, HA.out⟩
  have d3 : decide (4611686018427387904 ≤ q) = false := decide_eq_false e3
  rw [if_neg (by omega)]
  have b2 : w.cell? ⟨I.mb, 2, none⟩ = some (.pointer (some ⟨I.cb, 0, none⟩)) := HH.out.mul.cell 2
  have hS := And.intro b0 b2
  have key : ∀ w', MulX I S X.own w' → w'.cell? ⟨I.mb, 0, none⟩ = some (.pointer (some ⟨I.rb, 0, none⟩)) ∧ w'.cell? ⟨I.mb, 2, none⟩ = some (.pointer (some ⟨I.cb, 0, none⟩)) := fun w' h => ⟨h.mul.cell 0, h.mul.cell 2⟩
  have HKEY := Lib.hid key
  clear b2 key
  go_enter Try.func20, Try.ntmps20
  go_wp2_with (go_at_call 53; refine (multi_noM _ _ _ b0).mono ?_; rintro e w' ⟨rfl, hw'⟩; subst hw')
  rename_i K0 hK0
  clear b0
  refine strictL ?_
  refine wp_region_held (S := fun w' => w'.cell? ⟨I.mb, 0, none⟩ = some (.pointer (some ⟨I.rb, 0, none⟩)) ∧ w'.cell? ⟨I.mb, 2, none⟩ = some (.pointer (some ⟨I.cb, 0, none⟩))) (by kernel_rfl) ?_
  simp only [List.size_toArray, List.length_cons, List.length_nil, Nat.reduceAdd]
  have HWD := Lib.hid (show ({ w with drawn := w.drawn + 1 } : World) = w.drewN 1 from rfl)
  have m0 : MulX I S X.own ({ w with drawn := w.drawn + 1 } : World) := HH.out.kept (Kept.drewN (fun _ => False) w 1) id id id id id
  have A0 : X.at_ t ({ w with drawn := w.drawn + 1 } : World) := X.keep HA.out (Kept.drewN (fun _ => False) w 1) fun _ _ h => h
  have K0' : Kept X.own w ({ w with drawn := w.drawn + 1 } : World) := Kept.drewN _ w 1
  have z0 : ({ w with drawn := w.drawn + 1 } : World).heap.size = w.heap.size := rfl
  have hS0 := HKEY.out _ m0
  clear HWD hS
  generalize ({ w with drawn := w.drawn + 1 } : World) = wd at m0 A0 K0' z0 hS0 ⊢
  have HS := Lib.hid hS0
  have H0 := Lib.hid (And.intro m0 (And.intro K0' (And.intro z0 A0)))
  clear m0 K0' z0 A0 hS0
  refine rdL 0 13 24 ?_
  refine ⟨_, rfl, rfl, by kernel_rfl, by kernel_rfl, by kernel_rfl, (fun c a w h => by cases h.1), rfl, HS.out, ?_⟩
  apply Exists.intro
  refine ⟨fun wq hw => ?_, ?_⟩
  · obtain ⟨hw1, hw2⟩ := hw
    go_simp
    rfl
  simp only [Act.put, List.setIfInBounds_toArray, List.set_cons_zero, List.set_cons_succ]
  refine rdL 1 12 25 ?_
  refine ⟨_, rfl, rfl, by kernel_rfl, by kernel_rfl, by kernel_rfl, (fun c a w h => by cases h.1), rfl, HS.out, ?_⟩
  apply Exists.intro
  refine ⟨fun wq hw => ?_, ?_⟩
  · obtain ⟨hw1, hw2⟩ := hw
    go_simp
    rfl
  simp only [Act.put, List.setIfInBounds_toArray, List.set_cons_zero, List.set_cons_succ]
  refine rdL 2 11 26 ?_
  refine ⟨_, rfl, rfl, by kernel_rfl, by kernel_rfl, by kernel_rfl, (fun c a w h => by cases h.1), rfl, HS.out, ?_⟩
  apply Exists.intro
  refine ⟨fun wq hw => ?_, ?_⟩
  · obtain ⟨hw1, hw2⟩ := hw
    go_simp
    rfl
  simp only [Act.put, List.setIfInBounds_toArray, List.set_cons_zero, List.set_cons_succ]
  refine rdL 3 10 27 ?_
  refine ⟨_, rfl, rfl, by kernel_rfl, by kernel_rfl, by kernel_rfl, (fun c a w h => by cases h.1), rfl, HS.out, ?_⟩
  apply Exists.intro
  refine ⟨fun wq hw => ?_, ?_⟩
  · obtain ⟨hw1, hw2⟩ := hw
    go_simp
    rfl
  simp only [Act.put, List.setIfInBounds_toArray, List.set_cons_zero, List.set_cons_succ]
  refine rdL 4 9 28 ?_
  refine ⟨_, rfl, rfl, by kernel_rfl, by kernel_rfl, by kernel_rfl, (fun c a w h => by cases h.1), rfl, HS.out, ?_⟩
  apply Exists.intro
  refine ⟨fun wq hw => ?_, ?_⟩
  · obtain ⟨hw1, hw2⟩ := hw
    go_simp
    rfl
  simp only [Act.put, List.setIfInBounds_toArray, List.set_cons_zero, List.set_cons_succ]
  refine rdL 5 8 29 ?_
  refine ⟨_, rfl, rfl, by kernel_rfl, by kernel_rfl, by kernel_rfl, (fun c a w h => by cases h.1), rfl, HS.out, ?_⟩
  apply Exists.intro
  refine ⟨fun wq hw => ?_, ?_⟩
  · obtain ⟨hw1, hw2⟩ := hw
    go_simp
    rfl
  simp only [Act.put, List.setIfInBounds_toArray, List.set_cons_zero, List.set_cons_succ]
  refine rdL 6 7 30 ?_
  refine ⟨_, rfl, rfl, by kernel_rfl, by kernel_rfl, by kernel_rfl, (fun c a w h => by cases h.1), rfl, HS.out, ?_⟩
  apply Exists.intro
  refine ⟨fun wq hw => ?_, ?_⟩
  · obtain ⟨hw1, hw2⟩ := hw
    go_simp
    rfl
  simp only [Act.put, List.setIfInBounds_toArray, List.set_cons_zero, List.set_cons_succ]
  refine rdL 7 6 31 ?_
  refine ⟨_, rfl, rfl, by kernel_rfl, by kernel_rfl, by kernel_rfl, (fun c a w h => by cases h.1), rfl, HS.out, ?_⟩
  apply Exists.intro
  refine ⟨fun wq hw => ?_, ?_⟩
  · obtain ⟨hw1, hw2⟩ := hw
    go_simp
    rfl
  simp only [Act.put, List.setIfInBounds_toArray, List.set_cons_zero, List.set_cons_succ]
  refine rdL 8 5 32 ?_
  refine ⟨_, rfl, rfl, by kernel_rfl, by kernel_rfl, by kernel_rfl, (fun c a w h => by cases h.1), rfl, HS.out, ?_⟩
  apply Exists.intro
  refine ⟨fun wq hw => ?_, ?_⟩
  · obtain ⟨hw1, hw2⟩ := hw
    go_simp
    rfl
  simp only [Act.put, List.setIfInBounds_toArray, List.set_cons_zero, List.set_cons_succ]
  refine rdL 9 4 33 ?_
  refine ⟨_, rfl, rfl, by kernel_rfl, by kernel_rfl, by kernel_rfl, (fun c a w h => by cases h.1), rfl, HS.out, ?_⟩
  apply Exists.intro
  refine ⟨fun wq hw => ?_, ?_⟩
  · obtain ⟨hw1, hw2⟩ := hw
    go_simp
    rfl
  simp only [Act.put, List.setIfInBounds_toArray, List.set_cons_zero, List.set_cons_succ]
  refine rdL 10 3 34 ?_
  refine ⟨_, rfl, rfl, by kernel_rfl, by kernel_rfl, by kernel_rfl, (fun c a w h => by cases h.1), rfl, HS.out, ?_⟩
  apply Exists.intro
  refine ⟨fun wq hw => ?_, ?_⟩
  · obtain ⟨hw1, hw2⟩ := hw
    go_simp
    rfl
  simp only [Act.put, List.setIfInBounds_toArray, List.set_cons_zero, List.set_cons_succ]
  refine oneL (i := 11) (fuel := 2) (by kernel_rfl) rfl rfl fun K' hK' => ?_
  unfold Oper.wp
  go_simp
  refine (wload_x X hs t I.cb S.cur _ H0.out.1.cw (fun z => (HH.out.own _ z).2.2.2.1 rfl) H0.out.2.2.2).mono ?_
  rintro e w1 ⟨rfl, k1, z1, a1⟩
  dsimp only
  have m1 := H0.out.1.step k1
  refine hK' _ _ (HKEY.out _ m1) ?_
  clear hK' K' HS
  have H1 := Lib.hid (And.intro m1 (And.intro (H0.out.2.1.trans k1) (And.intro (z1.trans H0.out.2.2.1) a1)))
  clear m1 k1 z1 a1 H0
  try simp only [Act.put, List.setIfInBounds_toArray, List.set_cons_zero, List.set_cons_succ]
  refine oneL (i := 12) (fuel := 1) (by kernel_rfl) rfl rfl fun K' hK' => ?_
  unfold Oper.wp
  go_simp
  by_cases hle : q ≤ S.cur
  · refine (highest_x X hs2 (t + 1) I.rb I.gb I.n S.st S.va q S.cur _ H1.out.1.ring (by omega) (by omega) hle (by omega) H1.out.2.2.2 (fun z => (HH.out.own _ z).2.1 rfl) (fun z => (HH.out.own _ z).2.2.1 rfl)).mono ?_
    rintro e w2 ⟨rfl, k2, z2, a2⟩
    dsimp only
    have m2 := H1.out.1.step k2
    refine hK' _ _ (HKEY.out _ m2) ?_
    clear hK' K'
    have H2 := Lib.hid (And.intro m2 (And.intro (H1.out.2.1.trans k2) (And.intro (z2.trans H1.out.2.2.1) a2)))
    clear m2 k2 z2 a2 H1
    try simp only [Act.put, List.setIfInBounds_toArray, List.set_cons_zero, List.set_cons_succ]
    refine oneL (i := 13) (fuel := 0) (by kernel_rfl) rfl rfl fun K' hK' => ?_
    unfold Oper.wp
    go_simp
    refine hK' _ _ (HKEY.out _ H2.out.1) ?_
    clear hK' K'
    refine wpAnyH_done (by kernel_rfl) ⟨rfl, ?_⟩ _
    refine hK0 _ _ ?_
    clear hK0 K0
    go_wp2
    go_ret
    exact ⟨rfl, H2.out.2.1, H2.out.2.2.1, by have := H2.out.2.2.2; rwa [Nat.add_assoc] at this⟩
  · refine (highest_less ⟨I.rb, 0, none⟩ _ I.n I.n X.v q S.cur _ H1.out.1.ring.ring H1.out.1.ring.pos (by omega) (by omega) (by omega)).mono ?_
    rintro e w2 ⟨rfl, rfl⟩
    dsimp only
    rw [show pre64 q = q - 1 from if_neg (by omega)]
    refine hK' _ _ (HKEY.out _ H1.out.1) ?_
    clear hK' K'
    try simp only [Act.put, List.setIfInBounds_toArray, List.set_cons_zero, List.set_cons_succ]
    refine oneL (i := 13) (fuel := 0) (by kernel_rfl) rfl rfl fun K' hK' => ?_
    unfold Oper.wp
    go_simp
    refine hK' _ _ (HKEY.out _ H1.out.1) ?_
    clear hK' K'
    refine wpAnyH_done (by kernel_rfl) ⟨rfl, ?_⟩ _
    refine hK0 _ _ ?_
    clear hK0 K0
    go_wp2
    go_ret
    exact ⟨rfl, H1.out.2.1, H1.out.2.2.1, H1.out.2.2.2⟩
/-- A whole Offer: what it tells, the ring behind it, the steps. -/
def offerX (fr : FrX) (N : Nat) (fs : Int) (S : MulS) (vs : List Int) : Int × Int × MulS × Nat :=
  if (claimX fr N fs S vs.length).2.1 = 0 then ((claimX fr N fs S vs.length).1, 0, putsS N (claimX fr N fs S vs.length).2.2.1 ((claimX fr N fs S vs.length).1 - vs.length + 1) vs, (claimX fr N fs S vs.length).2.2.2 + 3 * vs.length)
  else (0, (claimX fr N fs S vs.length).2.1, (claimX fr N fs S vs.length).2.2)
theorem claimX_ok {fr : FrX} {N : Nat} {fs : Int} {S : MulS} {m : Int} (h : (claimX fr N fs S m).2.1 = 0) : 1 ≤ m ∧ m ≤ N ∧ S.cur + m < 4611686018427387904 ∧ (claimX fr N fs S m).1 = S.cur + m := by
  unfold claimX at h ⊢
  by_cases h1 : m < 1 ∨ (N : Int) < m
  · rw [if_pos h1] at h; exact absurd h (show ¬ ((1 : Int) = 0) by decide)
  rw [if_neg h1] at h ⊢
  by_cases h2 : 4611686018427387904 ≤ S.cur + m
  · rw [if_pos h2] at h; exact absurd h (show ¬ ((8 : Int) = 0) by decide)
  rw [if_neg h2] at h ⊢
  by_cases h3 : (fr S S.cur m).1 = false
  · rw [if_pos h3] at h; exact absurd h (show ¬ ((3 : Int) = 0) by decide)
  rw [if_neg h3] at h ⊢
  by_cases h4 : (wrX S.st N fs m.toNat (S.cur + 1 - N)).1 = false
  · rw [if_pos h4] at h; exact absurd h (show ¬ ((3 : Int) = 0) by decide)
  rw [if_neg h4]
  exact ⟨by omega, by omega, by omega, rfl⟩
/-- A row of numbers that is read while the ring turns. -/
structure RdX (I : MIds) (O : Nat → Prop) (w : World) (A : Option Addr) (vs : List Int) : Prop where
  cell : ∀ i, i < vs.length → ∃ b o, A = some ⟨b, o, none⟩ ∧ ¬ OutM I O b ∧ w.cell? ⟨b, o + i, none⟩ = some (.int .i64 (vs.getD i 0))
theorem RdX.kept {I : MIds} {O : Nat → Prop} {w w' : World} {A : Option Addr} {vs : List Int} (h : RdX I O w A vs) (k : Kept (OutM I O) w w') : RdX I O w' A vs :=
  ⟨fun i hi => by
    obtain ⟨b, o, h1, h2, h3⟩ := h.cell i hi
    exact ⟨b, o, h1, h2, (World.cell?_of_block (w := w) (a := ⟨b, o + i, none⟩) (k.block b (lt_of_cell h3) h2)).trans h3⟩⟩
set_option maxHeartbeats 2000000 in
set_option maxRecDepth 100000 in
theorem offer_x (X : Stepper) (hs : X.Steps Try.prog 79) (hs2 : X.Steps Try.prog 85) (I : MIds) {hval : Value} {fr : FrX} (hF : FreeX X I hval fr) (t : Nat) (S : MulS) (w : World) (h : MulX I S X.own w) (A : X.at_ t w) (vA : Option Addr) (vc : Nat) (vs : List Int) (hv : RdX I X.own w vA vs) (hvl : vs.length ≤ maxLen) :
    Calls Try.prog 19 #[.pointer (some ⟨I.mb, 0, none⟩), X.v, hval, .slice vA vs.length vc] w fun e w' => e = .returned (.tuple #[.int .i64 (offerX fr I.n I.first S vs).1, .int .i64 (offerX fr I.n I.first S vs).2.1]) ∧ MulX I (offerX fr I.n I.first S vs).2.2.1 X.own w' ∧ Kept (OutM I X.own) w w' ∧ w'.heap.size = w.heap.size ∧ X.at_ (t + (offerX fr I.n I.first S vs).2.2.2) w' := by
  have hc0 := h.c0
  have hmo := h.ring.most
  have hcl := claim_x X hs hs2 I hF t S w h A vs.length
  have HV := Lib.hid hv
  have HCL := Lib.hid hcl
  have HOK := Lib.hid (claimX_ok (fr := fr) (N := I.n) (fs := I.first) (S := S) (m := vs.length))
  clear h A hv hcl
  unfold offerX
  unfold maxLen at hvl
  obtain ⟨x, e, S', k, hr⟩ : ∃ x e S' k, claimX fr I.n I.first S vs.length = (x, e, S', k) := ⟨_, _, _, _, rfl⟩
  have hcl := HCL.out
  have hok := HOK.out
  rw [hr] at hcl hok ⊢
  dsimp only at hcl hok ⊢
  have HCL := Lib.hid hcl
  have HOK := Lib.hid hok
  clear hcl hok hr
  obtain ⟨n, hn⟩ : ∃ n, n = vs.length := ⟨_, rfl⟩
  have HN := Lib.hid hn
  rw [← hn] at hvl HCL HOK ⊢
  clear hn
  by_cases he : e = 0
  · subst he
    rw [if_pos rfl]
    obtain ⟨hx0, hx1⟩ : (0 : Int) ≤ x - n + 1 ∧ x < 4611686018427387904 := by obtain ⟨o1, o2, o3, o4⟩ := HOK.out rfl; omega
    have hn16 : n ≤ 65536 := by obtain ⟨o1, o2, o3, o4⟩ := HOK.out rfl; omega
    clear HOK hvl
    go_enter Try.func19, Try.ntmps19
    go_wp2_with fail
    refine HCL.out.mono ?_
    rintro e w1 ⟨rfl, m1, k1, z1, a1⟩
    have H1 := Lib.hid (And.intro m1 (And.intro k1 (And.intro z1 a1)))
    clear m1 k1 z1 a1
    go_wp2
    go_loopw [30] (fun i wr => ∃ j : Nat, j ≤ n ∧ i = .int .i64 j ∧ ∃ T, MulX I T X.own wr ∧ putsS I.n T (x - n + 1 + j) (vs.drop j) = putsS I.n S' (x - n + 1) vs ∧ Kept (OutM I X.own) w wr ∧ wr.heap.size = w.heap.size ∧ X.at_ (t + (k + 3 * j)) wr) (fun i _ => n - (intOf i).toNat)
    case atStart => exact ⟨0, Nat.zero_le _, rfl, S', H1.out.1, by simp, H1.out.2.1, H1.out.2.2.1, H1.out.2.2.2⟩
    case round =>
      obtain ⟨j, hj, rfl, T, mT, eT, kT, zT, aT⟩ := hrel
      have HT := Lib.hid (And.intro mT (And.intro eT (And.intro kT (And.intro zT aT))))
      have HRD := Lib.hid (HV.out.kept kT)
      clear mT eT kT zT aT
      by_cases hlt : j < n
      · obtain ⟨g, o, rfl, hno, hc⟩ := HRD.out.cell j (by have := HN.out; omega)
        have hjl : j < vs.length := by have := HN.out; omega
        have hdr := List.drop_eq_getElem_cons hjl
        obtain ⟨v, hv⟩ : ∃ v, v = vs.getD j 0 := ⟨_, rfl⟩
        rw [← hv] at hc
        have HW := Lib.hid (And.intro hv hdr)
        clear hv hdr hno
        go_wp2_with fail
        refine (write_x X hs2 I _ T _ HT.out.1 HT.out.2.2.2.2 (x - n + 1 + j) v (by omega) (by omega)).mono ?_
        rintro e w2 ⟨rfl, m2, k2, z2, a2⟩
        have H2 := Lib.hid (And.intro m2 (And.intro k2 (And.intro z2 a2)))
        clear m2 k2 z2 a2 hc
        go_wp2
        go_roundw
        case rel =>
          obtain ⟨mT, eT, kT, zT, aT⟩ := HT.out
          obtain ⟨m2, k2, z2, a2⟩ := H2.out
          obtain ⟨hv, hdr⟩ := HW.out
          refine ⟨j + 1, by omega, by go_num, _, m2, ?_, kT.trans (k2.mono fun _ _ z => z.elim (fun e => .inr (.inr (.inl e))) fun z => .inr (.inr (.inr z))), z2.trans zT, by rw [show t + (k + 3 * (j + 1)) = t + (k + 3 * j) + 3 by omega]; exact a2⟩
          rw [← eT, hdr, show vs[j] = v by rw [hv, List.getD_eq_getElem?_getD, List.getElem?_eq_getElem hjl]; rfl]
          show _ = putsS I.n (putS T I.n (x - n + 1 + j) v) (x - n + 1 + j + 1) (vs.drop (j + 1))
          congr 1
          omega
        case measure => simp [intOf]; omega
      · obtain rfl : j = n := by omega
        go_wp2
        go_ret2
        obtain ⟨mT, eT, kT, zT, aT⟩ := HT.out
        rw [List.drop_eq_nil_of_le (by have := HN.out; omega)] at eT
        have eT : T = putsS I.n S' (x - j + 1) vs := eT
        rw [← eT]
        exact ⟨rfl, mT, kT, zT, aT⟩
  · rw [if_neg he]
    have hd : (e == 0) = false := by simpa using he
    have hd2 : (e != 0) = true := by simpa using he
    clear he HOK
    go_enter Try.func19, Try.ntmps19
    go_wp2_with fail
    refine HCL.out.mono ?_
    rintro e' w1 ⟨rfl, m1, k1, z1, a1⟩
    have H1 := Lib.hid (And.intro m1 (And.intro k1 (And.intro z1 a1)))
    clear m1 k1 z1 a1
    go_wp2
    go_ret2
    exact ⟨rfl, H1.out⟩
end Go.Proofs.Ytphbolckbfnhaaa
/- DERIVED. A writer that has claimed and not written holds the others back: what the calls answer, in plain terms. -/
namespace Go.Proofs.Ytphbolckbfnhaaa
open Go.RowKit Go.Turn Go.Tame Go.Conc
set_option linter.unusedVariables false
set_option linter.unusedSectionVars false
set_option linter.unusedSimpArgs false
theorem cell_step_none : Stepper.none.Steps Try.prog 79 := fun k w _ => by
  have h : Calls Try.prog 79 #[.nilIface] w fun e w' => e = .returned (.tuple #[]) ∧ w = w' := by
    go_enter Try.func79, Try.ntmps79
    go_wp2
    go_end0
    exact ⟨rfl, rfl⟩
  exact h.mono fun _ _ ⟨h, hw⟩ => ⟨h, trivial, hw ▸ Kept.refl _ _, by rw [hw]⟩
section
variable {N : Nat} (hN : 0 < N) (hN2 : N ≤ 65536)
include hN hN2
/-- What a Claim of one sequence comes to. -/
theorem claim_one (S : MulS) (h0 : -1 ≤ S.cur) (h1 : S.cur + 1 < 4611686018427387904) :
    claimX (frNil N) N 0 S 1 = if S.cur + 1 - N < 0 ∨ S.st ((S.cur + 1 - N) % N).toNat = 2 * ((S.cur + 1 - N) / N) then (S.cur + 1, 0, { S with seen := (frNil N S S.cur 1).2.1, cur := S.cur + 1 }, (claimX (frNil N) N 0 S 1).2.2.2) else (0, 3, { S with seen := (frNil N S S.cur 1).2.1 }, (claimX (frNil N) N 0 S 1).2.2.2) := by
  have hfr : (frNil N S S.cur 1).1 = true := by
    unfold frNil
    split
    · rfl
    · exact decide_eq_true (by omega)
  have hwr : (wrX S.st N 0 1 (S.cur + 1 - N)).1 = decide (S.cur + 1 - N < 0 ∨ S.st ((S.cur + 1 - N) % N).toNat = 2 * ((S.cur + 1 - N) / N)) := by
    show (if (0 : Int) ≤ S.cur + 1 - N then (if S.st ((S.cur + 1 - N) % N).toNat = 2 * ((S.cur + 1 - N) / N) then ((true, 0).1, (true, 0).2 + 1) else (false, 1)) else (true, 0) : Bool × Nat).1 = _
    by_cases a : (0 : Int) ≤ S.cur + 1 - N
    · rw [if_pos a]
      by_cases b : S.st ((S.cur + 1 - N) % N).toNat = 2 * ((S.cur + 1 - N) / N)
      · rw [if_pos b, decide_eq_true (Or.inr b)]
      · rw [if_neg b, decide_eq_false (fun z => z.elim (fun z => by omega) b)]
    · rw [if_neg a, decide_eq_true (Or.inl (by omega))]
  have e : ∀ k, (if S.cur + 1 - N < 0 ∨ S.st ((S.cur + 1 - N) % N).toNat = 2 * ((S.cur + 1 - N) / N) then (S.cur + 1, 0, { S with seen := (frNil N S S.cur 1).2.1, cur := S.cur + 1 }, k) else (0, 3, { S with seen := (frNil N S S.cur 1).2.1 }, k) : Int × Int × MulS × Nat) = if (wrX S.st N 0 1 (S.cur + 1 - N)).1 = false then (0, 3, { S with seen := (frNil N S S.cur 1).2.1 }, k) else (S.cur + 1, 0, { S with seen := (frNil N S S.cur 1).2.1, cur := S.cur + 1 }, k) := fun k => by
    rw [hwr]
    by_cases b : S.cur + 1 - N < 0 ∨ S.st ((S.cur + 1 - N) % N).toNat = 2 * ((S.cur + 1 - N) / N)
    · rw [if_pos b, if_neg (by rw [decide_eq_true b]; decide)]
    · rw [if_neg b, if_pos (decide_eq_false b)]
  rw [e]
  have hu : claimX (frNil N) N 0 S 1 = if (wrX S.st N 0 1 (S.cur + 1 - N)).1 = false then (0, 3, { S with seen := (frNil N S S.cur 1).2.1 }, 1 + (frNil N S S.cur 1).2.2 + (wrX S.st N 0 1 (S.cur + 1 - N)).2 + 1) else (S.cur + 1, 0, { S with seen := (frNil N S S.cur 1).2.1, cur := S.cur + 1 }, 1 + (frNil N S S.cur 1).2.2 + (wrX S.st N 0 1 (S.cur + 1 - N)).2 + 1) := by
    unfold claimX
    rw [if_neg (by omega), if_neg (by omega), if_neg (by rw [hfr]; decide)]
    rfl
  rw [hu]
  split <;> rfl
theorem offer_one (S : MulS) (v : Int) (h0 : -1 ≤ S.cur) (h1 : S.cur + 1 < 4611686018427387904) (hc : S.cur + 1 - N < 0 ∨ S.st ((S.cur + 1 - N) % N).toNat = 2 * ((S.cur + 1 - N) / N)) :
    ∃ S' k, offerX (frNil N) N 0 S [v] = (S.cur + 1, 0, S', k) ∧ S'.cur = S.cur + 1 ∧ S'.seen = (frNil N S S.cur 1).2.1 ∧ S'.st = upd S.st ((S.cur + 1) % N).toNat (2 * ((S.cur + 1) / N)) := by
  have hcl := claim_one hN hN2 S h0 h1
  rw [if_pos hc] at hcl
  generalize (claimX (frNil N) N 0 S 1).2.2.2 = k at hcl
  refine ⟨putS { S with seen := (frNil N S S.cur 1).2.1, cur := S.cur + 1 } N (S.cur + 1) v, k + 3 * 1, ?_, rfl, rfl, rfl⟩
  show (if (claimX (frNil N) N 0 S 1).2.1 = 0 then ((claimX (frNil N) N 0 S 1).1, 0, putsS N (claimX (frNil N) N 0 S 1).2.2.1 ((claimX (frNil N) N 0 S 1).1 - 1 + 1) [v], (claimX (frNil N) N 0 S 1).2.2.2 + 3 * 1) else _ : Int × Int × MulS × Nat) = _
  rw [hcl, if_pos rfl]
  show (S.cur + 1, 0, putS _ N (S.cur + 1 - 1 + 1) v, k + 3 * 1) = _
  rw [show S.cur + 1 - 1 + 1 = S.cur + 1 by omega]
theorem offer_full (S : MulS) (v : Int) (h0 : -1 ≤ S.cur) (h1 : S.cur + 1 < 4611686018427387904) (hc : ¬ (S.cur + 1 - N < 0 ∨ S.st ((S.cur + 1 - N) % N).toNat = 2 * ((S.cur + 1 - N) / N))) :
    ∃ S' k, offerX (frNil N) N 0 S [v] = (0, 3, S', k) ∧ S'.cur = S.cur ∧ S'.st = S.st := by
  have hcl := claim_one hN hN2 S h0 h1
  rw [if_neg hc] at hcl
  generalize (claimX (frNil N) N 0 S 1).2.2.2 = k at hcl
  refine ⟨{ S with seen := (frNil N S S.cur 1).2.1 }, k, ?_, rfl, rfl⟩
  show (if (claimX (frNil N) N 0 S 1).2.1 = 0 then _ else (0, (claimX (frNil N) N 0 S 1).2.1, (claimX (frNil N) N 0 S 1).2.2) : Int × Int × MulS × Nat) = _
  rw [hcl, if_neg (show ¬ ((3 : Int) = 0) by decide)]
/-- The first lap: what is behind the first slot has been written. -/
structure Slow1 (N i : Nat) (S : MulS) : Prop where
  cur : S.cur = i
  st0 : S.st 0 = -2
  st : ∀ j, 1 ≤ j → j ≤ i → S.st j = 0
theorem slow_claim (S : MulS) (hc : S.cur = -1) (hs : ∀ j, S.st j = -2) : ∃ S' k, claimX (frNil N) N 0 S 1 = (0, 0, S', k) ∧ Slow1 N 0 S' := by
  have h := claim_one hN hN2 S (by omega) (by omega)
  rw [if_pos (.inl (by omega))] at h
  generalize (claimX (frNil N) N 0 S 1).2.2.2 = k at h
  have e1 : S.cur + 1 = 0 := by omega
  exact ⟨{ S with seen := (frNil N S S.cur 1).2.1, cur := S.cur + 1 }, k, by rw [h, e1], e1, hs 0, fun j h1 h2 => by omega⟩
theorem slow_step {i : Nat} {S : MulS} (h : Slow1 N i S) (hi : i + 1 < N) (v : Int) : ∃ S' k, offerX (frNil N) N 0 S [v] = (((i + 1 : Nat) : Int), 0, S', k) ∧ Slow1 N (i + 1) S' := by
  have hc := h.cur
  obtain ⟨S', k, e, h1, h2, h3⟩ := offer_one hN hN2 S v (by omega) (by omega) (.inl (by omega))
  have em : ((S.cur + 1) % (N : Int)).toNat = i + 1 := by rw [hc, Int.emod_eq_of_lt (by omega) (by omega)]; omega
  have ed : (S.cur + 1) / (N : Int) = 0 := by rw [hc]; exact Int.ediv_eq_zero_of_lt (by omega) (by omega)
  rw [em, ed] at h3
  refine ⟨S', k, by rw [e, hc]; rfl, by rw [h1, hc]; rfl, ?_, fun j a b => ?_⟩
  · rw [h3]; simp only [upd]; rw [if_neg (by omega)]; exact h.st0
  · rw [h3]; simp only [upd]
    by_cases ej : j = i + 1
    · rw [if_pos ej]; rfl
    · rw [if_neg ej]; exact h.st j a (by omega)
theorem slow_full {S : MulS} (h : Slow1 N (N - 1) S) (v : Int) : ∃ S' k, offerX (frNil N) N 0 S [v] = (0, 3, S', k) ∧ Slow1 N (N - 1) S' := by
  have hc := h.cur
  have e0 : S.cur + 1 - N = 0 := by omega
  obtain ⟨S', k, e, h1, h2⟩ := offer_full hN hN2 S v (by omega) (by omega) (by
    rw [e0]
    have : S.st ((0 : Int) % N).toNat = S.st 0 := by rw [Int.zero_emod]; rfl
    rw [this, h.st0, Int.zero_ediv]
    omega)
  exact ⟨S', k, e, by rw [h1, hc], by rw [h2]; exact h.st0, fun j a b => by rw [h2]; exact h.st j a b⟩
theorem slow_pub {S : MulS} (h : Slow1 N (N - 1) S) : (pubX N S 0).1 = -1 := by
  have hc := h.cur
  unfold pubX
  rw [if_neg (by omega), if_neg (by omega), if_pos (by omega)]
  obtain ⟨m, hm⟩ : ∃ m, highN N 0 S.cur = m + 1 := ⟨highN N 0 S.cur - 1, by unfold highN; omega⟩
  rw [hm]
  show (if S.st ((0 : Int) % N).toNat = 2 * ((0 : Int) / N) then _ else ((0 : Int) - 1, 1) : Int × Nat).1 = -1
  have : S.st ((0 : Int) % N).toNat = S.st 0 := by rw [Int.zero_emod]; rfl
  rw [this, h.st0, Int.zero_ediv, if_neg (by omega)]
  rfl
/-- All has been written. -/
structure Slow2 (N : Nat) (S : MulS) : Prop where
  lo : (N : Int) - 1 ≤ S.cur
  st : ∀ q : Int, S.cur - N < q → q ≤ S.cur → S.st (q % N).toNat = 2 * (q / N)
theorem slow_write {S : MulS} (h : Slow1 N (N - 1) S) (v : Int) : Slow2 N (putS S N 0 v) ∧ (putS S N 0 v).cur = (N : Int) - 1 := by
  have hc := h.cur
  refine ⟨⟨by show _ ≤ S.cur; omega, fun q h1 h2 => ?_⟩, by show S.cur = _; omega⟩
  have h1 : S.cur - N < q := h1
  have h2 : q ≤ S.cur := h2
  have em : (q % (N : Int)).toNat = q.toNat := by rw [Int.emod_eq_of_lt (by omega) (by omega)]
  have ed : q / (N : Int) = 0 := Int.ediv_eq_zero_of_lt (by omega) (by omega)
  rw [em, ed]
  show upd S.st ((0 : Int) % N).toNat (2 * ((0 : Int) / N)) q.toNat = _
  have : ((0 : Int) % (N : Int)).toNat = 0 := by rw [Int.zero_emod]; rfl
  rw [this, Int.zero_ediv]
  simp only [upd]
  by_cases e : q.toNat = 0
  · rw [if_pos e]
  · rw [if_neg e]; exact h.st _ (by omega) (by omega)
omit hN hN2 in
theorem high_all {st : Nat → Int} {N : Nat} : ∀ (m : Nat) (q : Int), (∀ p, q ≤ p → p < q + m → st (p % N).toNat = 2 * (p / N)) → (highR st N m q).1 = q + m - 1
  | 0, q, _ => by show q - 1 = q + 0 - 1; omega
  | m + 1, q, h => by
    show (if st (q % N).toNat = 2 * (q / N) then ((highR st N m (q + 1)).1, (highR st N m (q + 1)).2 + 1) else (q - 1, 1) : Int × Nat).1 = _
    rw [if_pos (h q (Int.le_refl _) (by omega))]
    show (highR st N m (q + 1)).1 = _
    rw [high_all m (q + 1) fun p h1 h2 => h p (by omega) (by omega)]
    omega
theorem slow_pub2 {S : MulS} (h : Slow2 N S) (hc : S.cur = (N : Int) - 1) : (pubX N S 0).1 = (N : Int) - 1 := by
  unfold pubX
  rw [if_neg (by omega), if_neg (by omega), if_pos (by omega)]
  show (highR S.st N (highN N 0 S.cur) 0).1 = _
  have hm : highN N 0 S.cur = N := by unfold highN; omega
  rw [hm, high_all N 0 fun p h1 h2 => h.st p (by omega) (by omega)]
  omega
theorem slow_next {S : MulS} (h : Slow2 N S) (hb : S.cur < 1000000) (v : Int) : ∃ S' k, offerX (frNil N) N 0 S [v] = (S.cur + 1, 0, S', k) ∧ Slow2 N S' ∧ S'.cur = S.cur + 1 := by
  have hl := h.lo
  obtain ⟨S', k, e, h1, h2, h3⟩ := offer_one hN hN2 S v (by omega) (by omega) (.inr (h.st _ (by omega) (by omega)))
  refine ⟨S', k, e, ⟨by omega, fun q a b => ?_⟩, h1⟩
  rw [h3]
  simp only [upd]
  rw [h1] at a b
  by_cases eq : q = S.cur + 1
  · subst eq; rw [if_pos rfl]
  · have hne : (q % (N : Int)).toNat ≠ ((S.cur + 1) % (N : Int)).toNat := by
      intro z
      have p1 := Int.emod_nonneg q (show (N : Int) ≠ 0 by omega)
      have p2 := Int.emod_nonneg (S.cur + 1) (show (N : Int) ≠ 0 by omega)
      have z : q % (N : Int) = (S.cur + 1) % (N : Int) := by omega
      have d := Int.emod_emod_of_dvd
      have e1 := Int.mul_ediv_add_emod q N
      have e2 := Int.mul_ediv_add_emod (S.cur + 1) N
      have e3 : (N : Int) * ((S.cur + 1) / N - q / N) = S.cur + 1 - q := by rw [Int.mul_sub]; omega
      have e4 : 0 < S.cur + 1 - q := by omega
      have e5 : S.cur + 1 - q < N := by omega
      generalize (S.cur + 1) / (N : Int) - q / (N : Int) = d at e3
      rcases Int.lt_or_le 0 d with hd | hd
      · have : (N : Int) * 1 ≤ N * d := Int.mul_le_mul_of_nonneg_left (by omega) (by omega)
        omega
      · have : (N : Int) * d ≤ N * 0 := Int.mul_le_mul_of_nonneg_left hd (by omega)
        omega
    rw [if_neg hne]
    exact h.st q (by omega) (by omega)
end
end Go.Proofs.Ytphbolckbfnhaaa
/- DERIVED. MultiSlow, walked: goroutine 0 alone. -/
namespace Go.Proofs.Ytphbolckbfnhaaa
open Go.RowKit Go.Turn Go.Tame Go.Conc
set_option linter.unusedVariables false
set_option linter.unusedSectionVars false
set_option linter.unusedSimpArgs false
theorem shl_okM (s : Nat) (h : s < 5) : 0 < 2 ^ s ∧ 2 ^ s ≤ 16 ∧ (bits BinOp.and IntKind.i64 ((2 ^ s : Nat) : Int) (((2 ^ s : Nat) : Int) - 1) != 0) = false := by
  match s, h with
  | 0, _ => decide
  | 1, _ => decide
  | 2, _ => decide
  | 3, _ => decide
  | 4, _ => decide
/-- The ring, and the world outside as it was. -/
structure SlowAt (I : MIds) (S : MulS) (W w : World) : Prop where
  m : MulX I S (fun _ => False) w
  os : w.os = W.os
  output : w.output = W.output
theorem slow_offer {I : MIds} {S : MulS} {W w : World} (h : SlowAt I S W w) (v x e : Int) {S' : MulS} {k : Nat} (he : offerX (frNil I.n) I.n I.first S [v] = (x, e, S', k)) :
    Calls Try.prog 19 #[.pointer (some ⟨I.mb, 0, none⟩), .nilIface, .nilIface, .slice (some ⟨w.heap.size, 0, none⟩) 1 1] (w.alloc (.cells #[.int .i64 v] 2)) fun r w' => r = .returned (.tuple #[.int .i64 x, .int .i64 e]) ∧ SlowAt I S' W w' := by
  have k0 : Kept (fun _ => False) w (w.alloc (.cells #[.int .i64 v] 2)) := Kept.alloc _ _
  have m1 : MulX I S (fun _ => False) (w.alloc (.cells #[.int .i64 v] 2)) := h.m.kept k0 id id id id id
  have hno : ¬ OutM I (fun _ => False) w.heap.size := by
    have a := h.m.cw.lt
    have b := h.m.sw.lt
    have c := h.m.ring.glt
    rintro (z | z | z | z)
    · omega
    · omega
    · omega
    · exact z
  have hv : RdX I (fun _ => False) (w.alloc (.cells #[.int .i64 v] 2)) (some ⟨w.heap.size, 0, none⟩) [v] := ⟨fun i hi => by
    have : i = 0 := by simpa using hi
    subst this
    exact ⟨_, _, rfl, hno, (Blk.new w 2 #[.int .i64 v]).cell 0⟩⟩
  have hc := offer_x Stepper.none cell_step_none slots_step_none I (free_nil Stepper.none cell_step_none I) 0 S _ m1 trivial _ 1 [v] hv (by unfold maxLen; show 1 ≤ _; decide)
  rw [he] at hc
  exact hc.mono fun r w' ⟨h1, h2, h3, _⟩ => ⟨h1, h2, h3.os.trans h.os, h3.output.trans h.output⟩
set_option maxHeartbeats 4000000 in
set_option maxRecDepth 100000 in
theorem slow_true (W : World) (s b : Nat) (hs8 : s < 256) (hb8 : b < 256) : (lgA Try.tame (PostT (.bool true) W) W).T () (Frame.enter Try.prog 5 #[.int .u8 s, .int .u8 b] .normal) [] (seen0 W) := by
  have hs : ¬ (lgA Try.tame (PostT (.bool true) W) W).strict := fun h => h
  have hsz : (seen0 W).heap.size = W.heap.size := seen0_size W
  have hio : (seen0 W).os = W.os ∧ (seen0 W).output = W.output := seen0_io W
  generalize seen0 W = x at hsz hio ⊢
  rw [show Frame.enter Try.prog 5 #[.int .u8 s, .int .u8 b] .normal = Frame.at { (default : Frame) with fn := 5, kind := .normal } ⟨#[.int .u8 s, .int .u8 b] ++ Array.replicate (Try.f5.ntmps - 2) undef, []⟩ [.code (Try.f5.body.getD .skip)] from by simp [Frame.enter, Frame.at, Try.func5]; rfl]
  simp only [Try.f5, Option.getD_some, Nat.reduceSub, Array.replicate_succ, Array.replicate_zero, List.push_toArray, List.append_toArray, List.nil_append, List.cons_append]
  refine Lg.move _ (fun _ _ => step_seq) (fun h => h) ?_
  refine Lg.code fun K hK y τ n' hy => ?_
  subst hy
  go_wp2
  refine hK _ _ (fun h => absurd h hs) ?_
  clear hK K
  have hsz : y.heap.size = W.heap.size := hsz
  have hio : y.os = W.os ∧ y.output = W.output := hio
  refine Lg.move _ (fun _ _ => step_seq) (fun h => h) ?_
  refine Lg.move _ (fun _ _ => step_seq) (fun h => h) ?_
  refine Lg.move _ (fun _ _ => step_region) (fun h => h) ?_
  refine Lg.call (i := 0) (rest := [1]) (f := 8) (args := #[]) rfl rfl (fun y => by go_simp) (awake_true Try.tame (PostT (.bool true) W) W y (by omega)) ?_
  rintro vv t' w1 ⟨rfl, hk⟩
  have hio2 : w1.os = W.os ∧ w1.output = W.output := ⟨hk.io.1.trans hio.1, hk.io.2.trans hio.2⟩
  clear hk hio hsz
  rw [Frame.finish_at]
  walk_nrm
  refine (show (lgA Try.tame (PostT (.bool true) W) W).T _ (Frame.at _ ⟨_, []⟩ (.inRegion _ (List.range' 1 (1 + 0)) :: _)) [] w1 from ?_)
  refine Lg.pre 1 1 0 (by simp) fun K hK q τ n' hq => ?_
  subst hq
  simp only [List.drop_succ_cons, List.drop_zero, List.take_succ_cons, List.take_zero]
  go_wp2
  refine hK _ _ (fun h => absurd h hs) ?_
  clear hK K
  have hio3 : q.os = W.os ∧ q.output = W.output := hio2
  clear hio2
  refine Lg.move _ (fun _ _ => step_region_end) (fun h => h) ?_
  refine Lg.move _ (fun _ _ => step_cond (t := false) rfl) (fun h => h) ?_
  refine Lg.move _ (fun _ _ => step_skip) (fun h => h) ?_
  refine lgA_rest Try.tame rfl Try.func5 (by kernel_rfl) (fun tm w v h w' => ?_) fun u τ2 n2 hu => ?_
  · simp [results, Try.f5] at h ⊢
    exact h
  subst hu
  have hio4 : u.os = W.os ∧ u.output = W.output := hio3
  clear hio3
  have HI := Lib.hid hio4
  clear hio4
  go_wp2_with fail
  obtain ⟨hn0, hn1, hn2⟩ := shl_okM (s % 5) (Nat.mod_lt _ (by decide))
  have en' : wrap64 (2 ^ (s % 5)) = ((2 ^ (s % 5) : Nat) : Int) := by
    have e0 : ((2 : Int) ^ (s % 5)) = ((2 ^ (s % 5) : Nat) : Int) := by simp
    rw [e0]; unfold wrap64; omega
  simp only [en']
  clear en'
  generalize 2 ^ (s % 5) = n at *
  refine (multi_newF n 0 u hn0 (by omega) hn2 (by decide) (by decide)).mono ?_
  rintro e w2 ⟨rfl, R1, N0, N1, B2, B3, B4, B5, Z1⟩
  obtain ⟨I, hI⟩ : ∃ I : MIds, I = ⟨u.heap.size + 4, u.heap.size + 1, u.heap.size, u.heap.size + 2, u.heap.size + 3, n, 0⟩ := ⟨_, rfl⟩
  obtain ⟨S0, hS0⟩ : ∃ S0 : MulS, S0 = ⟨fun _ => -2, fun _ => 0, -1, -1⟩ := ⟨_, rfl⟩
  have hIn : I.n = n := by rw [hI]
  have hIf : I.first = 0 := by rw [hI]
  have m0 : SlowAt I S0 W w2 := by
    refine ⟨?_, B5.os.trans HI.out.1, B5.output.trans HI.out.2⟩
    rw [hI, hS0]
    refine ⟨B4, R1, B2, B3, ?_, ?_, ?_, fun b z => z.elim, Int.le_refl _, by show (0 : Int) < _; decide, by show (-1 : Int) ≤ -1; decide, by show (-1 : Int) < _; decide⟩
    · exact ⟨by show u.heap.size ≠ u.heap.size + 4; omega, by show u.heap.size ≠ u.heap.size + 2; omega, by show u.heap.size ≠ u.heap.size + 3; omega⟩
    · exact ⟨by show u.heap.size + 2 ≠ u.heap.size + 4; omega, by show u.heap.size + 2 ≠ u.heap.size + 3; omega, by show u.heap.size + 2 ≠ u.heap.size + 1; omega⟩
    · exact ⟨by show u.heap.size + 3 ≠ u.heap.size + 4; omega, by show u.heap.size + 3 ≠ u.heap.size + 1; omega⟩
  rw [show u.heap.size + 4 = I.mb by rw [hI]]
  have HM0 := Lib.hid (And.intro m0 (And.intro hS0 (And.intro hIn hIf)))
  clear R1 N0 N1 B2 B3 B4 B5 Z1 m0 hS0 hI hIn hIf HI hn2
  go_wp2_with fail
  obtain ⟨S1, k1, e1, p1⟩ := slow_claim hn0 (by omega) S0 (by rw [HM0.out.2.1]) (fun j => by rw [HM0.out.2.1])
  have hcl := claim_x Stepper.none cell_step_none slots_step_none I (free_nil Stepper.none cell_step_none I) 0 S0 w2 HM0.out.1.m trivial 1
  rw [HM0.out.2.2.1, HM0.out.2.2.2, e1] at hcl
  refine hcl.mono ?_
  clear hcl
  rintro e w3 ⟨rfl, m3, k3, z3, -⟩
  have H3 := Lib.hid (And.intro (show SlowAt I S1 W w3 from ⟨m3, k3.os.trans HM0.out.1.os, k3.output.trans HM0.out.1.output⟩) p1)
  clear m3 k3 z3 p1 e1
  have hneq : ∀ j : Nat, (((j : Int) : Int) != j) = false := fun j => by simp
  go_wp2_with fail
  go_loopw [9] (fun i wr => ∃ j : Nat, 1 ≤ j ∧ j ≤ n ∧ i = .int .i64 j ∧ ∃ S, SlowAt I S W wr ∧ Slow1 n (j - 1) S) (fun i _ => n - (intOf i).toNat)
  case atStart => exact ⟨1, Nat.le_refl _, by omega, rfl, S1, H3.out.1, H3.out.2⟩
  case round =>
    obtain ⟨j, hj1, hj, rfl, S, hS, pS⟩ := hrel
    have HS := Lib.hid (And.intro hS pS)
    clear hS pS
    by_cases hlt : j < n
    · have hd : decide (j < n) = true := decide_eq_true hlt
      obtain ⟨S', k', e', p'⟩ := slow_step hn0 (by omega) HS.out.2 (by omega) j
      rw [show j - 1 + 1 = j by omega] at e' p'
      have HE := Lib.hid (And.intro e' p')
      clear e' p'
      go_wp2_with fail
      refine (slow_offer HS.out.1 j j 0 (by rw [HM0.out.2.2.1, HM0.out.2.2.2]; exact HE.out.1)).mono ?_
      rintro r w4 ⟨rfl, m4⟩
      have H4 := Lib.hid m4
      clear m4
      go_wp2
      go_roundw
      case rel => exact ⟨j + 1, by omega, by omega, by go_num, S', H4.out, by rw [show j + 1 - 1 = j by omega]; exact HE.out.2⟩
      case measure => simp [intOf]; omega
    · obtain rfl : j = n := by omega
      have hd : decide (j < j) = false := by simp
      obtain ⟨S2, k2, e2, p2⟩ := slow_full hn0 (by omega) HS.out.2 77
      have HE := Lib.hid (And.intro e2 p2)
      clear e2 p2 hlt
      go_wp2_with fail
      refine (slow_offer HS.out.1 77 0 3 (by rw [HM0.out.2.2.1, HM0.out.2.2.2]; exact HE.out.1)).mono ?_
      rintro r w4 ⟨rfl, m4⟩
      have H4 := Lib.hid m4
      clear m4
      go_wp2_with fail
      have hpub := pub_x Stepper.none cell_step_none slots_step_none I 0 S2 w4 H4.out.m trivial 0 (by decide) (by decide)
      rw [HM0.out.2.2.1, slow_pub hn0 (by omega) HE.out.2] at hpub
      refine hpub.mono ?_
      clear hpub
      rintro r w5 ⟨rfl, k5, z5, -⟩
      have H5 := Lib.hid (show SlowAt I S2 W w5 from ⟨H4.out.m.step k5, k5.os.trans H4.out.os, k5.output.trans H4.out.output⟩)
      clear k5 z5
      go_wp2_with fail
      have hwr := write_x Stepper.none slots_step_none I 0 S2 w5 H5.out.m trivial 0 5 (by decide) (by decide)
      obtain ⟨p3, c3⟩ := slow_write hn0 (by omega) HE.out.2 5
      rw [HM0.out.2.2.1] at hwr
      refine hwr.mono ?_
      clear hwr
      rintro r w6 ⟨rfl, m6, k6, z6, -⟩
      have H6 := Lib.hid (And.intro (show SlowAt I (putS S2 j 0 5) W w6 from ⟨m6, k6.os.trans H5.out.os, k6.output.trans H5.out.output⟩) (And.intro p3 c3))
      clear m6 k6 z6 p3 c3
      generalize putS S2 j 0 5 = S3 at H6
      go_wp2_with fail
      have hpub := pub_x Stepper.none cell_step_none slots_step_none I 0 S3 w6 H6.out.1.m trivial 0 (by decide) (by decide)
      rw [HM0.out.2.2.1, slow_pub2 hn0 (by omega) H6.out.2.1 H6.out.2.2] at hpub
      refine hpub.mono ?_
      clear hpub
      rintro r w7 ⟨rfl, k7, z7, -⟩
      have H7 := Lib.hid (And.intro (show SlowAt I S3 W w7 from ⟨H6.out.1.m.step k7, k7.os.trans H6.out.1.os, k7.output.trans H6.out.1.output⟩) H6.out.2)
      clear k7 z7
      go_wp2_with fail
      have hj16 : j ≤ 16 := hn1
      clear hn1 hj1 hj
      go_loopw [12] (fun v wr => ∃ i : Nat, i ≤ b % 40 ∧ v = .int .i64 i ∧ ∃ S, SlowAt I S W wr ∧ Slow2 j S ∧ S.cur = (j : Int) - 1 + i) (fun v _ => b % 40 - (intOf v).toNat)
      case atStart => exact ⟨0, Nat.zero_le _, rfl, S3, H7.out.1, H7.out.2.1, by rw [H7.out.2.2]; simp⟩
      case round =>
        obtain ⟨i, hi, rfl, S, hS, pS, cS⟩ := hrel
        have HS := Lib.hid (And.intro hS (And.intro pS cS))
        clear hS pS cS
        have hm40 : b % 40 < 40 := Nat.mod_lt _ (by decide)
        by_cases hlt : i < b % 40
        · have hd : decide (i < b % 40) = true := decide_eq_true hlt
          have hd2 : decide ((i : Int) < (b : Int) % 40) = true := decide_eq_true (by omega)
          obtain ⟨S', k', e', p', c'⟩ := slow_next hn0 (by omega) HS.out.2.1 (by rw [HS.out.2.2]; omega) (100 + i)
          rw [HS.out.2.2] at e' c'
          have ex : (j : Int) - 1 + i + 1 = j + i := by omega
          rw [ex] at e' c'
          have HE := Lib.hid (And.intro e' (And.intro p' c'))
          clear e' p' c' ex
          go_wp2_with fail
          refine (slow_offer HS.out.1 (100 + i) (j + i) 0 (by rw [HM0.out.2.2.1, HM0.out.2.2.2]; exact HE.out.1)).mono ?_
          rintro r w8 ⟨rfl, m8⟩
          have H8 := Lib.hid m8
          clear m8
          have hij : (((j : Int) + i : Int) != (j : Int) + i) = false := by simp
          go_wp2
          go_roundw
          case rel => exact ⟨i + 1, by omega, by go_num, S', H8.out, HE.out.2.1, by rw [HE.out.2.2]; omega⟩
          case measure => simp [intOf]; omega
        · have hd : decide (i < b % 40) = false := decide_eq_false hlt
          have hd2 : decide ((i : Int) < (b : Int) % 40) = false := decide_eq_false (by omega)
          have ho := HS.out.1.os
          have hu := HS.out.1.output
          go_wp2
          go_ret
          exact ⟨rfl, ho, hu⟩
end Go.Proofs.Ytphbolckbfnhaaa
namespace Go.Proofs.Ytphbolckbfnhaaa.multiSlow
open Go.ChangeShapes Go.WideShapes Go.ChangeAt Go.RowKit Go.Turn
set_option linter.unusedVariables false
set_option linter.unusedSectionVars false
set_option linter.unusedSimpArgs false

theorem own : ownKnob Try.prog.godebug = none := by kernel_rfl
theorem laidOut : laidOutB Try.prog = true := by kernel_rfl

set_option maxRecDepth 100000 in
theorem lifted (os : Os) (started : os.Started) (H : Type) (enc : TypeId × Value → H) :
    ReturnsInLeavingWide {} Try.checked os 5 .any (Rows.multiSlowSpec.pre6 enc Try.prog Try.f5 Rows.multiSlowRow.domain false) (Rows.multiSlowSpec.post enc Try.prog Try.f5 false true false false) := by
  refine returnsInLeavingWide_of_change_sized (C := Try.checked) own started Try.func5
    (ChangeSpec.witness6 (enc := enc) (C := Try.checked) false ⟨#[], #[.int .u8 0, .int .u8 0], []⟩ 8 (by kernel_rfl) (by kernel_rfl) (by kernel_rfl) (by kernel_rfl)) ?_
  intro W base args ds gs before hval0 hW _ _ _
  have hval : ∀ (j : Nat) t v, Try.f5.params[j]? = some t → args[j]? = some v → Value.okWide Try.prog W .any base t v := hval0
  have hW' := hW
  obtain ⟨p, q, hA0, hV, rfl, hfz, hnd⟩ := hW
  have hA : DataW.TrodAll enc Try.prog W 0 (fun _ => true) true Try.f5.params.toList args.toList ds p := hA0
  rw [Try.params5] at hA hval
  obtain ⟨v0, vs0, d0, ds0, p0, q0, hargs, rfl, rfl, h0, r0⟩ := trodAll_cons hA
  obtain ⟨v1, vs1, d1, ds1, p1, q1, rfl, rfl, rfl, h1, r1⟩ := trodAll_cons r0
  obtain ⟨rfl, rfl, rfl⟩ := trodAll_nil r1
  obtain rfl : args = #[v0, v1] := by cases args; simp_all
  obtain ⟨rfl, rfl⟩ := trodVars_none hV
  obtain ⟨a0, rfl, rfl, rfl, w0⟩ := open_int Try.underlying5 (hval 0 5 v0 rfl rfl) h0
  obtain ⟨a1, rfl, rfl, rfl, w1⟩ := open_int Try.underlying5 (hval 1 5 v1 rfl rfl) h1
  simp only [List.append_nil] at hW'
  have hb0 : 0 ≤ a0 ∧ a0 < 256 := by
    have h := w0
    simp [Lit.wf, IntKind.min, IntKind.max, IntKind.signed, IntKind.bits] at h; omega
  have hb1 : 0 ≤ a1 ∧ a1 < 256 := by
    have h := w1
    simp [Lit.wf, IntKind.min, IntKind.max, IntKind.signed, IntKind.bits] at h; omega
  obtain ⟨s, rfl⟩ : ∃ s : Nat, a0 = s := ⟨a0.toNat, by omega⟩
  obtain ⟨b, rfl⟩ : ∃ b : Nat, a1 = b := ⟨a1.toNat, by omega⟩
  obtain ⟨M, last, o, w', t', r1, r2, r3, r4⟩ := run_good Try.tame (slow_true W s b (by omega) (by omega))
  refine ⟨M, last, o, w', t', r1, r2, r3, r4.mono fun v hF => ?_⟩
  have hb : Below W.heap.size W { w' with tape := W.tape } := ⟨hF.os, rfl, hF.output, hF.size, hF.old⟩
  obtain rfl := hF.val
  exact ⟨_, _, _, [], _, [], hW', trodAll_cons_mk (shut_bool Try.underlying4 _) trodAll_mk0,
    trodAll_cons_mk (shut_int Try.underlying5 w0) (trodAll_cons_mk (shut_int Try.underlying5 w1) trodAll_mk0), rfl, hF.frame _, fun h => by cases h⟩

theorem over : Rows.multiSlowRow.holds Try.pinned (OpenSpec.ofChange Rows.multiSlowSpec) :=
  OpenClaim.holds_of_wide_leaving 5 Try.f5 rfl rfl rfl rfl rfl rfl rfl ⟨rfl, rfl, rfl, rfl, rfl⟩ rfl rfl rfl rfl rfl (by kernel_rfl) Try.func5 (by kernel_rfl)
    (of_decide_eq_true (by kernel_rfl)) (by unfold Func.isWrapper; first | (rw [if_pos (by decide +kernel)]; kernel_rfl) | (rw [if_neg (by decide +kernel)]; exact ⟨rfl, rfl⟩))
    (fun os started H enc _ => lifted os started H enc)

/-- ████ THE STATEMENT ████ -/
theorem proved : Rows.MultiSlowSaid := over
end Go.Proofs.Ytphbolckbfnhaaa.multiSlow
