/-
  The claim SlotsCalls: the calls of one thread by themselves, with a counting Stepper and without: answers, state and steps are the document's machine's: for every size and operations; no condition.
-/
import Derived.Test.YteainbnoemkfcaaGh
import Derived.Test.YteainbnoemkfcaaGi
import Derived.Test.YteainbnoemkfcaaGl
import Derived.Test.YteainbnoemkfcaaGj
import Derived.Test.YteainbnoemkfcaaGd
import Derived.SizedLaws
import Derived.Test.YteainbnoemkfcaaGe
import Derived.Conc.LeavingOf
set_option linter.unusedVariables false
set_option linter.unusedSectionVars false
set_option linter.unusedSimpArgs false
namespace Go.Proofs.Yteainbnoemkfcaa
open Go.RowKit
def getL (st va : Nat → Int) (n : Nat) (q : Int) : Int × Int × Nat :=
  if st (q % n).toNat < 2 * (q / n) then (0, 6, 1) else if 2 * (q / n) < st (q % n).toNat then (0, 10, 1) else (va (q % n).toNat, 0, 3)
def gathL (st va : Nat → Int) (n : Nat) : Nat → Int → List Int → List Int × Int × Nat
  | 0, _, acc => (acc, 0, 0)
  | j + 1, q, acc => if 4611686018427387904 ≤ q then (acc, 0, 0) else
      if (getL st va n q).2.1 = 0 then ((gathL st va n j (q + 1) (acc ++ [(getL st va n q).1])).1, (gathL st va n j (q + 1) (acc ++ [(getL st va n q).1])).2.1, (gathL st va n j (q + 1) (acc ++ [(getL st va n q).1])).2.2 + (getL st va n q).2.2)
      else if acc = [] then ([], (getL st va n q).2.1, (getL st va n q).2.2) else (acc, 0, (getL st va n q).2.2)
theorem getL_ok {st va : Nat → Int} {n : Nat} {q : Int} (h : (getL st va n q).2.1 = 0) : getL st va n q = (va (q % n).toNat, 0, 3) := by
  unfold getL at h ⊢
  split
  · rename_i c; rw [if_pos c] at h; simp at h
  · rename_i c; rw [if_neg c] at h
    split
    · rename_i d; rw [if_pos d] at h; simp at h
    · rfl
theorem getL_one {st va : Nat → Int} {n : Nat} {q : Int} (h : ¬ (getL st va n q).2.1 = 0) : (getL st va n q).1 = 0 ∧ (getL st va n q).2.2 = 1 := by
  unfold getL at h ⊢
  split
  · exact ⟨rfl, rfl⟩
  · rename_i c; rw [if_neg c] at h
    split
    · exact ⟨rfl, rfl⟩
    · rename_i d; rw [if_neg d] at h; exact absurd rfl h
theorem get_x (X : Stepper) (hs : X.Steps Try.prog 40) (t rb sb n : Nat) (st va : Nat → Int) (q : Int) (w : World) (H : RingAt w rb sb n st va) (h0 : 0 ≤ q) (h1 : q < 4611686018427387904) (A : X.at_ t w) (n1 : ¬ X.own rb) (n2 : ¬ X.own sb) :
    Calls Try.prog 25 #[.pointer (some ⟨rb, 0, none⟩), X.v, .int .i64 q] w fun e w' => e = .returned (.tuple #[.int .i64 (getL st va n q).1, .int .i64 (getL st va n q).2.1]) ∧ Kept X.own w w' ∧ w'.heap.size = w.heap.size ∧ X.at_ (t + (getL st va n q).2.2) w' := by
  unfold getL
  by_cases c1 : st (q % n).toNat < 2 * (q / n)
  · rw [if_pos c1]
    exact get_none X hs t rb sb n st va q w H h0 h1 c1 A n1 n2
  · rw [if_neg c1]
    by_cases c2 : 2 * (q / n) < st (q % n).toNat
    · rw [if_pos c2]
      exact get_lost X hs t rb sb n st va q w H h0 h1 c2 A n1 n2
    · rw [if_neg c2]
      exact get_ok X hs t rb sb n st va q w H h0 h1 (by omega) A n1 n2
set_option maxHeartbeats 600000 in
set_option maxRecDepth 100000 in
theorem gather_x (X : Stepper) (hs : X.Steps Try.prog 40) (t rb sb n : Nat) (st va : Nat → Int) (a m : Int) (w : World) (H : RingAt w rb sb n st va) (h0 : 0 ≤ a) (h1 : a < 4611686018427387904) (A : X.at_ t w) (n1 : ¬ X.own rb) (n2 : ¬ X.own sb) :
    Calls Try.prog 28 #[.pointer (some ⟨rb, 0, none⟩), X.v, .int .i64 a, .int .i64 m] w fun e w' => ∃ v, e = .returned (.tuple #[v, .int .i64 (gathL st va n (min m.toNat n) a []).2.1]) ∧
      w'.ownsRow w.heap.size 2 1 v (gathL st va n (min m.toNat n) a []).1.length ((gathL st va n (min m.toNat n) a []).1.map (Value.int .i64)) ∧ Kept X.own w w' ∧ X.at_ (t + (gathL st va n (min m.toNat n) a []).2.2) w' := by
  have hn := H.pos
  have h2 := H.most
  have hr := H.ring
  obtain ⟨i0, hi0, hz0, hz1, hz2⟩ := info_parts Try.info64
  have HH := Lib.hid H
  have HN1 := Lib.hid n1
  have HN2 := Lib.hid n2
  have hxo : ∀ b, X.own b → b < w.heap.size := fun b hb => X.old A hb
  have HXO := Lib.hid hxo
  have HA := Lib.hid A
  clear H n1 n2 A hxo
  go_enter Try.func28, Try.ntmps28
  obtain ⟨kk, hkk⟩ : ∃ kk, min m.toNat n = kk := ⟨_, rfl⟩
  rw [hkk]
  have HK := Lib.hid hkk
  clear hkk
  go_wp2_with (first | (go_at_call 38; refine (good_yes _ _ n _ a _ hr hn h0 h1).mono ?_; rintro e w' ⟨rfl, rfl⟩) | (go_at_call 14; refine (size_ring _ _ n _ _ hr).mono ?_; rintro e w' ⟨rfl, rfl⟩))
  clear hr
  go_loopw [10] (fun o wr => ∃ ls : List Int, ls.length ≤ kk ∧ (gathL st va n kk a []).1 = (gathL st va n (kk - ls.length) (a + ls.length) ls).1 ∧ (gathL st va n kk a []).2.1 = (gathL st va n (kk - ls.length) (a + ls.length) ls).2.1 ∧ (gathL st va n kk a []).2.2 = (gathL st va n (kk - ls.length) (a + ls.length) ls).2.2 + 3 * ls.length ∧
    wr.ownsRow w.heap.size 2 1 o ls.length (ls.map (Value.int .i64)) ∧ Kept X.own w wr ∧ X.at_ (t + 3 * ls.length) wr) (fun o _ => kk - (match o with | .slice _ n _ => n | _ => 0))
  case atStart => exact ⟨[], Nat.zero_le _, by simp, by simp, by simp, ⟨rfl, .inl ⟨rfl, rfl⟩⟩, Kept.refl _ _, HA.out⟩
  case round =>
    obtain ⟨ls, hj, r1, r2, r3, hown, K1, A1⟩ := hrel
    obtain ⟨oA, oc, rfl⟩ := own_slice hown
    have hkn : kk ≤ n := by have := HK.out; omega
    have HO0 := Lib.hid hown
    have HX0 := Lib.hid (And.intro r1 (And.intro r2 (And.intro r3 (And.intro K1 A1))))
    have HR := Lib.hid (HH.out.kept K1 HN1.out HN2.out)
    have hr := HR.out.ring
    have hZ : w.heap.size ≤ wr.heap.size := K1.size
    clear hown r1 r2 r3 K1 A1
    obtain ⟨L, hL⟩ : ∃ L, ls.length = L := ⟨_, rfl⟩
    have HO : Hid (wr.ownsRow w.heap.size 2 1 (.slice oA L oc) L (ls.map (Value.int .i64))) := Lib.hid (hL ▸ HO0.out)
    have HX : Hid ((gathL st va n kk a []).1 = (gathL st va n (kk - L) (a + L) ls).1 ∧ (gathL st va n kk a []).2.1 = (gathL st va n (kk - L) (a + L) ls).2.1 ∧ (gathL st va n kk a []).2.2 = (gathL st va n (kk - L) (a + L) ls).2.2 + 3 * L ∧ Kept X.own w wr ∧ X.at_ (t + 3 * L) wr) := Lib.hid (hL ▸ HX0.out)
    clear HO0 HX0
    rw [hL] at hj ⊢
    have HL := Lib.hid hL
    clear hL
    by_cases hlt : L < kk
    · have hl1 : decide ((L : Int) < m) = true := decide_eq_true (by have := HK.out; omega)
      have hl2 : decide (L < n) = true := decide_eq_true (by omega)
      obtain ⟨j, hjj⟩ : ∃ j, kk - L = j + 1 := ⟨kk - L - 1, by omega⟩
      have HJ := Lib.hid hjj
      clear hjj
      by_cases hbig : 4611686018427387904 ≤ a + (L : Int)
      · have hb : BadAt (some ⟨rb, 0, none⟩) (a + L) wr := bad_high _ _ _ _ _ _ hr hbig
        have HB := Lib.hid hb
        clear hb
        have hne : ((L : Int) == 0) = false := by simp only [beq_eq_false_iff_ne]; omega
        go_wp2_with (first | (go_at_call 14; refine (size_ring _ _ n _ _ hr).mono ?_; rintro e w' ⟨rfl, rfl⟩) | (go_at_call 25; refine (get_bad HB.out X.v).mono ?_; rintro e w' ⟨rfl, rfl⟩))
        go_ret2
        obtain ⟨r1, r2, r3, K1, A1⟩ := HX.out
        rw [HJ.out, show gathL st va n (j + 1) (a + L) ls = (ls, 0, 0) from if_pos hbig] at r1 r2 r3
        rw [r1, r2, r3]
        exact ⟨_, rfl, by rw [HL.out]; exact HO.out, K1, by simpa using A1⟩
      · obtain ⟨r1, r2, r3, K1, A1⟩ := HX.out
        rw [HJ.out, show gathL st va n (j + 1) (a + L) ls = _ from if_neg hbig] at r1 r2 r3
        clear HX
        have HQ := Lib.hid (And.intro r1 (And.intro r2 (And.intro r3 K1)))
        clear r1 r2 r3 K1
        have hlo : a + (L : Int) < 4611686018427387904 := by omega
        clear hbig
        go_wp2_with (go_at_call 14; refine (size_ring _ _ n _ _ hr).mono ?_; rintro e w' ⟨rfl, rfl⟩)
        refine (get_x X hs _ rb sb n st va (a + L) wr HR.out (by omega) hlo A1 HN1.out HN2.out).mono ?_
        rintro e w1 ⟨rfl, K2, Z2, A2⟩
        obtain ⟨E, hE⟩ : ∃ E, getL st va n (a + L) = E := ⟨_, rfl⟩
        have HQ2 := HQ.out
        rw [hE] at HQ2 A2 ⊢
        clear HQ
        by_cases he : E.2.1 = 0
        · have eg : E = (va ((a + L) % (n : Int)).toNat, 0, 3) := hE ▸ getL_ok (hE.symm ▸ he)
          obtain ⟨x, hx⟩ : ∃ x, va ((a + L) % (n : Int)).toNat = x := ⟨_, rfl⟩
          rw [hx] at eg
          subst eg
          clear hx hE he
          simp only [if_true] at HQ2
          have HQ := Lib.hid (And.intro HQ2 (And.intro K2 (And.intro Z2 A2)))
          have HO1 := Lib.hid (own_kept HO.out K2 (fun b hb ho => by have := HXO.out b ho; omega))
          have hZ1 : w.heap.size ≤ w1.heap.size := by omega
          clear HQ2 K2 Z2 A2 A1 HO HR hr
          go_wp2_with (at_builtin; refine wpList_append_own _ rfl _ _ 22 rfl w.heap.size 2 i0 (.int .i64 0) 1 8 Try.underlying22 hi0 hz0 hz1 hz2 rfl (by decide) _ _ _ rfl (HO1.out.alloc _) ⟨w1.heap.size, 0, none⟩ 1 1 [.int .i64 x] rfl rfl ?c1 ?c2 ?c3 ?c4 ?c5 ?_)
          case c1 => exact cell_new1 _ _ _
          case c2 => simp [Value.oneCell']
          case c3 => unfold maxLen; omega
          case c4 => omega
          case c5 => simp; omega
          intro v' w3 hown1 hg1 _
          have ho1 : w3.ownsRow w.heap.size 2 1 v' (L + 1) ((ls ++ [x]).map (Value.int .i64)) := by rw [List.map_append]; exact hown1
          have hk3 : Kept (fun b => w.heap.size ≤ b) w1 w3 := (Kept.alloc _ _).trans (Kept.grown hg1 (fun k hk => (HO1.out.lt k hk).1))
          have HO2 := Lib.hid (And.intro ho1 hk3)
          clear hown1 hg1 ho1 hk3
          obtain ⟨oA', oc', rfl⟩ := own_slice HO2.out.1
          go_wp2
          go_roundw
          case rel =>
            obtain ⟨⟨r1, r2, r3, K1⟩, K2, Z2, A2⟩ := HQ.out
            obtain ⟨o2, k3⟩ := HO2.out
            have ej : j = kk - (ls ++ [x]).length := by have := HJ.out; have := HL.out; simp; omega
            have el : a + ((ls ++ [x]).length : Int) = a + L + 1 := by have := HL.out; simp; omega
            have el2 : (ls ++ [x]).length = L + 1 := by have := HL.out; simp; omega
            rw [ej, ← el] at r1 r2 r3
            exact ⟨ls ++ [x], by omega, r1, r2, by rw [r3]; omega, by rw [el2]; exact o2, (K1.trans K2).later k3 (fun _ h => h), by rw [show t + 3 * (ls ++ [x]).length = t + 3 * L + 3 from by omega]; exact X.keep A2 k3 (fun b hb hc => by have := HXO.out b hb; omega)⟩
          case measure => simp; omega
        · obtain ⟨g1, g2⟩ := getL_one (hE.symm ▸ he : ¬ (getL st va n (a + L)).2.1 = 0)
          rw [hE] at g1 g2
          obtain ⟨E1, E2, E3⟩ := E
          dsimp only at he g1 g2 HQ2 A2 ⊢
          rw [if_neg he] at HQ2
          have hne : (E2 != 0) = true := by simpa using he
          have HQ := Lib.hid (And.intro HQ2 (And.intro K2 (And.intro Z2 A2)))
          have HO1 := Lib.hid (own_kept HO.out K2 (fun b hb ho => by have := HXO.out b ho; omega))
          clear HQ2 K2 Z2 A2 A1 HO HR hr hE he g1 g2
          by_cases h0L : L = 0
          · have hz : ((L : Int) == 0) = true := by simp [h0L]
            go_wp2
            go_ret2
            obtain ⟨⟨r1, r2, r3, K1⟩, K2, Z2, A2⟩ := HQ.out
            have hls : ls = [] := List.eq_nil_of_length_eq_zero (HL.out.trans h0L)
            subst h0L
            rw [if_pos hls] at r1 r2 r3
            rw [r1, r2, r3]
            exact ⟨_, rfl, ⟨rfl, .inl ⟨rfl, rfl⟩⟩, K1.trans K2, by simpa using A2⟩
          · have hz : ((L : Int) == 0) = false := by simp only [beq_eq_false_iff_ne]; omega
            go_wp2
            go_ret2
            obtain ⟨⟨r1, r2, r3, K1⟩, K2, Z2, A2⟩ := HQ.out
            have hls : ¬ ls = [] := fun e => h0L (by rw [← HL.out, e]; rfl)
            rw [if_neg hls] at r1 r2 r3
            rw [r1, r2, r3]
            exact ⟨_, rfl, by rw [HL.out]; exact HO1.out, K1.trans K2, by rw [show t + (E3 + 3 * L) = t + 3 * L + E3 from by omega]; exact A2⟩
    · have ej : L = kk := by omega
      subst ej
      by_cases hlm : (L : Int) < m
      · have hlr : decide (L < n) = false := decide_eq_false (by have := HK.out; omega)
        have hl1 : decide ((L : Int) < m) = true := decide_eq_true hlm
        go_wp2_with (go_at_call 14; refine (size_ring _ _ n _ _ hr).mono ?_; rintro e w' ⟨rfl, rfl⟩)
        go_ret2
        obtain ⟨r1, r2, r3, K1, A1⟩ := HX.out
        rw [Nat.sub_self, show gathL st va n 0 (a + L) ls = (ls, 0, 0) from rfl] at r1 r2 r3
        rw [r1, r2, r3]
        exact ⟨_, rfl, by rw [HL.out]; exact HO.out, K1, by simpa using A1⟩
      · have hl1 : decide ((L : Int) < m) = false := decide_eq_false hlm
        go_wp2_with (go_at_call 14; refine (size_ring _ _ n _ _ hr).mono ?_; rintro e w' ⟨rfl, rfl⟩)
        go_ret2
        obtain ⟨r1, r2, r3, K1, A1⟩ := HX.out
        rw [Nat.sub_self, show gathL st va n 0 (a + L) ls = (ls, 0, 0) from rfl] at r1 r2 r3
        rw [r1, r2, r3]
        exact ⟨_, rfl, by rw [HL.out]; exact HO.out, K1, by simpa using A1⟩
end Go.Proofs.Yteainbnoemkfcaa
namespace Go.Proofs.Yteainbnoemkfcaa
open Go.RowKit Go.Turn
def putA (n : Nat) (q v : Int) (s : RSt) : Int × RSt × Nat := if InB q then (0, (upd s.1 (q % n).toNat (2 * (q / n)), upd s.2 (q % n).toNat v), 3) else (1, s, 0)
def getA (n : Nat) (q : Int) (s : RSt) : Int × Int × Nat := if InB q then getL s.1 s.2 n q else (0, 1, 0)
def thereA (n : Nat) (q : Int) (s : RSt) : Bool × Nat := if InB q then (s.1 (q % n).toNat == 2 * (q / n), 1) else (false, 0)
def highA (n : Nat) (a b : Int) (s : RSt) : Int × Nat := if InB a ∧ a ≤ b then highR s.1 n (highN n a b) a else (pre64 a, 0)
def gathA (n : Nat) (a m : Int) (s : RSt) : List Int × Int × Nat := if InB a then gathL s.1 s.2 n (min m.toNat n) a [] else ([], 1, 0)
def doL (n : Nat) (o : OpI) (s : RSt) : Ans × RSt × Nat :=
  if o.kind = 1 then (⟨(putA n o.a o.b s).1 == 0, (putA n o.a o.b s).1, []⟩, (putA n o.a o.b s).2)
  else if o.kind = 2 then (⟨(getA n o.a s).2.1 == 0, wrap64 ((getA n o.a s).2.1 + (getA n o.a s).1), []⟩, s, (getA n o.a s).2.2)
  else if o.kind = 3 then (⟨(thereA n o.a s).1, 0, []⟩, s, (thereA n o.a s).2)
  else if o.kind = 4 then (⟨true, (highA n o.a o.b s).1, []⟩, s, (highA n o.a o.b s).2)
  else if o.kind = 5 then (⟨(gathA n o.a o.b s).2.1 == 0, (gathA n o.a o.b s).2.1, (gathA n o.a o.b s).1⟩, s, (gathA n o.a o.b s).2.2)
  else (⟨false, 0, []⟩, s, 0)
theorem wrap_succ' (k : Nat) : IntKind.wrap .i64 (IntKind.wrap .i64 (k : Int) + 1) = IntKind.wrap .i64 ((k + 1 : Nat) : Int) := by
  simp only [IntKind.wrap_i64]; omega
def counts (c : Nat) : Stepper where
  v := .iface 40 (.pointer (some ⟨c, 0, none⟩))
  own := fun b => b = c
  at_ := fun k w => Blk w c 42 #[.int .i64 (IntKind.wrap .i64 k)]
  keep := fun h hk hz => h.kept hk (hz _ rfl)
  old := fun h e => e ▸ h.lt
theorem counts_one (c k : Nat) (w : World) (h : Blk w c 42 #[.int .i64 (IntKind.wrap .i64 k)]) : Calls Try.prog 78 #[.pointer (some ⟨c, 0, none⟩)] w fun e w' => e = .returned (.tuple #[]) ∧ w.setCell ⟨c, 0, none⟩ (.int .i64 (IntKind.wrap .i64 ((k + 1 : Nat) : Int))) = w' := by
  have hc := h.cell 0
  have hf := h.frozen 0
  rw [← wrap_succ']
  simp only [List.getElem?_toArray, List.getElem?_cons_zero] at hc
  generalize IntKind.wrap .i64 (k : Int) = x at *
  clear h
  go_enter Try.func78, Try.ntmps78
  go_wp2
  go_end0
  exact ⟨rfl, by rw [IntWalk.i64_left]⟩
theorem counts_method (n : Nat) (a : Addr) (w : World) : (method (n + 1) 40 (.pointer (some a)) "Step").run Try.prog w = .ok (78, .pointer (some a)) w := by kernel_rfl
set_option maxRecDepth 100000 in
theorem counts_steps (c : Nat) : (counts c).Steps Try.prog 40 := by
  intro k w h
  have h' : Blk w c 42 #[.int .i64 (IntKind.wrap .i64 k)] := h
  have HH := Lib.hid h'
  have hm := fun wx => counts_method 244 ⟨c, 0, none⟩ wx
  clear h h'
  show Calls _ _ #[.iface 40 (.pointer (some ⟨c, 0, none⟩))] _ _
  go_enter Try.func40, Try.ntmps40
  go_wp2_with (go_at_call 78; refine (counts_one _ _ _ HH.out).mono ?_; rintro e w' ⟨rfl, rfl⟩)
  go_end0
  exact ⟨rfl, HH.out.set_ 0 _, Kept.setCell _ (by rfl) _, by simp⟩
def toldV (v e : Int) : Int := if e = 0 then v else e
theorem toldV_0 (e : Int) : toldV 0 e = e := by
  unfold toldV
  split
  · omega
  · rfl
theorem told_x (v e : Int) (w : World) : Calls Try.prog 37 #[.int .i64 v, .int .i64 e] w fun r w' => r = .returned (.agg #[.bool (e == 0), .int .i64 (toldV v e), .slice none 0 0]) ∧ Below w.heap.size w w' := by
  unfold toldV
  by_cases he : e = 0
  · have h1 : (e != 0) = false := by simp [he]
    have h2 : (e == 0) = true := by simp [he]
    rw [if_pos he, h2]
    clear he h2
    go_enter Try.func37, Try.ntmps37
    go_wp2
    refine bodyPost_ret (v := .agg #[.bool true, .int .i64 v, .slice none 0 0]) ?_ rfl ?_
    · simp [results, Try.f37, go_sem]
    exact ⟨rfl, (Below.refl _ _).alloc (Nat.le_refl _) _⟩
  · have h1 : (e != 0) = true := by simpa using he
    have h2 : (e == 0) = false := by simpa using he
    rw [if_neg he, h2]
    clear he h2
    go_enter Try.func37, Try.ntmps37
    go_wp2
    refine bodyPost_ret (v := .agg #[.bool false, .int .i64 e, .slice none 0 0]) ?_ rfl ?_
    · simp [results, Try.f37, go_sem]
    exact ⟨rfl, (Below.refl _ _).alloc (Nat.le_refl _) _⟩
theorem own_down {w : World} {base base' : Nat} {e : TypeId} {size n : Nat} {v : Value} {xs : List Value} (h : w.ownsRow base e size v n xs) (hb : base' ≤ base) : w.ownsRow base' e size v n xs := by
  obtain ⟨h1, h2⟩ := h
  refine ⟨h1, ?_⟩
  rcases h2 with h2 | ⟨g, cap, cur, e1, hg, r⟩
  · exact .inl h2
  · exact .inr ⟨g, cap, cur, e1, by omega, r⟩
section
variable {X : Stepper} {t rb sb n : Nat} {w : World}
theorem bad_in {st va : Nat → Int} (H : RingAt w rb sb n st va) {q : Int} (hq : ¬ InB q) : BadAt (some ⟨rb, 0, none⟩) q w := bad_at ⟨rb, 0, none⟩ _ _ _ q w H.ring hq
variable (X t rb sb n w)
variable (hs : X.Steps Try.prog 40) (s : RSt) (H : RingAt w rb sb n s.1 s.2) (A : X.at_ t w) (n1 : ¬ X.own rb) (n2 : ¬ X.own sb)
include hs H A n1 n2
theorem put_a (q v : Int) : Calls Try.prog 23 #[.pointer (some ⟨rb, 0, none⟩), X.v, .int .i64 q, .int .i64 v] w fun e w' => e = .returned (.int .i64 (putA n q v s).1) ∧ RingAt w' rb sb n (putA n q v s).2.1.1 (putA n q v s).2.1.2 ∧ Kept (fun b => b = sb ∨ X.own b) w w' ∧ X.at_ (t + (putA n q v s).2.2) w' := by
  unfold putA
  by_cases hq : InB q
  · rw [if_pos hq]
    exact (put_x X hs t rb sb n s.1 s.2 q v w H hq.1 hq.2 A n1 n2).mono fun e w' ⟨a, b, c, _, d⟩ => ⟨a, b, c, d⟩
  · rw [if_neg hq]
    exact (put_bad (bad_in H hq) X.v v).mono fun e w' ⟨a, b⟩ => b ▸ ⟨a, H, Kept.refl _ _, A⟩
theorem get_a (q : Int) : Calls Try.prog 25 #[.pointer (some ⟨rb, 0, none⟩), X.v, .int .i64 q] w fun e w' => e = .returned (.tuple #[.int .i64 (getA n q s).1, .int .i64 (getA n q s).2.1]) ∧ RingAt w' rb sb n s.1 s.2 ∧ Kept (fun b => b = sb ∨ X.own b) w w' ∧ X.at_ (t + (getA n q s).2.2) w' := by
  unfold getA
  by_cases hq : InB q
  · rw [if_pos hq]
    exact (get_x X hs t rb sb n s.1 s.2 q w H hq.1 hq.2 A n1 n2).mono fun e w' ⟨a, c, _, d⟩ => ⟨a, H.kept c n1 n2, c.mono fun _ _ h => .inr h, d⟩
  · rw [if_neg hq]
    exact (get_bad (bad_in H hq) X.v).mono fun e w' ⟨a, b⟩ => b ▸ ⟨a, H, Kept.refl _ _, A⟩
theorem there_a (q : Int) : Calls Try.prog 26 #[.pointer (some ⟨rb, 0, none⟩), X.v, .int .i64 q] w fun e w' => e = .returned (.bool (thereA n q s).1) ∧ RingAt w' rb sb n s.1 s.2 ∧ Kept (fun b => b = sb ∨ X.own b) w w' ∧ X.at_ (t + (thereA n q s).2) w' := by
  unfold thereA
  by_cases hq : InB q
  · rw [if_pos hq]
    exact (there_x X hs t rb sb n s.1 s.2 q w H hq.1 hq.2 A n1 n2).mono fun e w' ⟨a, c, _, d⟩ => ⟨a, H.kept c n1 n2, c.mono fun _ _ h => .inr h, d⟩
  · rw [if_neg hq]
    exact (there_bad (bad_in H hq) X.v).mono fun e w' ⟨a, b⟩ => b ▸ ⟨a, H, Kept.refl _ _, A⟩
theorem high_a (a b : Int) (h0 : -9223372036854775808 ≤ a) (h1 : a < 9223372036854775808) (hb : b < 9223372036854775808) : Calls Try.prog 27 #[.pointer (some ⟨rb, 0, none⟩), X.v, .int .i64 a, .int .i64 b] w fun e w' => e = .returned (.int .i64 (highA n a b s).1) ∧ RingAt w' rb sb n s.1 s.2 ∧ Kept (fun b => b = sb ∨ X.own b) w w' ∧ X.at_ (t + (highA n a b s).2) w' := by
  unfold highA
  by_cases hq : InB a
  · by_cases hab : a ≤ b
    · rw [if_pos ⟨hq, hab⟩]
      exact (highest_x X hs t rb sb n s.1 s.2 a b w H hq.1 hq.2 hab hb A n1 n2).mono fun e w' ⟨a, c, _, d⟩ => ⟨a, H.kept c n1 n2, c.mono fun _ _ h => .inr h, d⟩
    · rw [if_neg (fun z => hab z.2)]
      exact (highest_less ⟨rb, 0, none⟩ _ n n X.v a b w H.ring H.pos hq.1 hq.2 (by omega)).mono fun e w' ⟨a, b⟩ => b ▸ ⟨a, H, Kept.refl _ _, A⟩
  · rw [if_neg (fun z => hq z.1)]
    exact (highest_bad (bad_in H hq) X.v b h0 h1).mono fun e w' ⟨a, b⟩ => b ▸ ⟨a, H, Kept.refl _ _, A⟩
theorem gath_a (a m : Int) : Calls Try.prog 28 #[.pointer (some ⟨rb, 0, none⟩), X.v, .int .i64 a, .int .i64 m] w fun e w' => ∃ v, e = .returned (.tuple #[v, .int .i64 (gathA n a m s).2.1]) ∧ w'.ownsRow w.heap.size 2 1 v (gathA n a m s).1.length ((gathA n a m s).1.map (Value.int .i64)) ∧ RingAt w' rb sb n s.1 s.2 ∧ Kept (fun b => b = sb ∨ X.own b) w w' ∧ X.at_ (t + (gathA n a m s).2.2) w' := by
  unfold gathA
  by_cases hq : InB a
  · rw [if_pos hq]
    exact (gather_x X hs t rb sb n s.1 s.2 a m w H hq.1 hq.2 A n1 n2).mono fun e w' ⟨v, a, o, c, d⟩ => ⟨v, a, o, H.kept c n1 n2, c.mono fun _ _ h => .inr h, d⟩
  · rw [if_neg hq]
    exact (gather_bad (bad_in H hq) X.v m).mono fun e w' ⟨a, b⟩ => b ▸ ⟨_, a, ⟨rfl, .inl ⟨rfl, rfl⟩⟩, H, Kept.refl _ _, A⟩
end
structure CallS (X : Stepper) (rb sb n : Nat) (w wz : World) (b6 k : Nat) (s : RSt) : Prop where
  ring : RingAt wz rb sb n s.1 s.2
  kept : Kept (fun b => b = sb ∨ X.own b) w wz
  at_ : X.at_ k wz
  blk : Blk wz b6 46 #[.bool false, .int .i64 0, .slice none 0 0]
  new : w.heap.size ≤ b6
  nrb : b6 ≠ rb
  nsb : b6 ≠ sb
  nx : ¬ X.own b6
section
variable {X : Stepper} {rb sb n : Nat} {w wz w4 : World} {b6 k : Nat} {s : RSt}
theorem CallS.below (h : CallS X rb sb n w wz b6 k s) (B : Below wz.heap.size wz w4) : CallS X rb sb n w w4 b6 k s :=
  ⟨h.ring.kept (Kept.of_below (S := fun _ => False) B) id id, h.kept.trans (Kept.of_below B), X.keep h.at_ (Kept.of_below (S := fun _ => False) B) (fun _ _ h => h), h.blk.kept (Kept.of_below (S := fun _ => False) B) id, h.new, h.nrb, h.nsb, h.nx⟩
theorem CallS.facts (h : CallS X rb sb n w wz b6 k s) : (wz.cell? ⟨b6, 0, none⟩ = some (.bool false) ∧ wz.cell? ⟨b6, 1, none⟩ = some (.int .i64 0) ∧ wz.cell? ⟨b6, 2, none⟩ = some (.slice none 0 0)) ∧ wz.frozen? ⟨b6, 0, none⟩ = false ∧ wz.frozen? ⟨b6, 1, none⟩ = false ∧ wz.frozen? ⟨b6, 2, none⟩ = false :=
  ⟨⟨h.blk.cell 0, h.blk.cell 1, h.blk.cell 2⟩, h.blk.frozen 0, h.blk.frozen 1, h.blk.frozen 2⟩
theorem CallS.done (h : CallS X rb sb n w wz b6 k s) (u0 u1 u2 : Value) : RingAt (((wz.setCell ⟨b6, 0, none⟩ u0).setCell ⟨b6, 1, none⟩ u1).setCell ⟨b6, 2, none⟩ u2) rb sb n s.1 s.2 ∧ Kept (fun b => b = sb ∨ X.own b) w (((wz.setCell ⟨b6, 0, none⟩ u0).setCell ⟨b6, 1, none⟩ u1).setCell ⟨b6, 2, none⟩ u2) ∧ X.at_ k (((wz.setCell ⟨b6, 0, none⟩ u0).setCell ⟨b6, 1, none⟩ u1).setCell ⟨b6, 2, none⟩ u2) ∧ Kept (fun b => b = b6) wz (((wz.setCell ⟨b6, 0, none⟩ u0).setCell ⟨b6, 1, none⟩ u1).setCell ⟨b6, 2, none⟩ u2) := by
  have hk : Kept (fun b => b = b6) wz (((wz.setCell ⟨b6, 0, none⟩ u0).setCell ⟨b6, 1, none⟩ u1).setCell ⟨b6, 2, none⟩ u2) := ((Kept.setCell _ (by rfl) _).trans (Kept.setCell _ (by rfl) _)).trans (Kept.setCell _ (by rfl) _)
  exact ⟨h.ring.kept hk (fun e => h.nrb e.symm) (fun e => h.nsb e.symm), h.kept.later hk (fun b e => e ▸ h.new), X.keep h.at_ hk (fun b hb e => h.nx (e ▸ hb)), hk⟩
end
set_option maxHeartbeats 1000000 in
set_option maxRecDepth 100000 in
theorem call_x (X : Stepper) (hs : X.Steps Try.prog 40) (t rb sb n : Nat) (s : RSt) (o : OpI) (ha0 : -9223372036854775808 ≤ o.a) (ha1 : o.a < 9223372036854775808) (hb1 : o.b < 9223372036854775808) (w : World) (H : RingAt w rb sb n s.1 s.2) (hv : ∀ j, -9223372036854775808 ≤ s.2 j ∧ s.2 j < 9223372036854775808) (A : X.at_ t w) (n1 : ¬ X.own rb) (n2 : ¬ X.own sb) :
    Calls Try.prog 15 #[.pointer (some ⟨rb, 0, none⟩), X.v, o.val] w fun e w' => ∃ lv, e = .returned (.agg #[.bool (doL n o s).1.ok, .int .i64 (doL n o s).1.n, lv]) ∧ w'.ownsRow w.heap.size 2 1 lv (doL n o s).1.ls.length ((doL n o s).1.ls.map (Value.int .i64)) ∧ RingAt w' rb sb n (doL n o s).2.1.1 (doL n o s).2.1.2 ∧ Kept (fun b => b = sb ∨ X.own b) w w' ∧ X.at_ (t + (doL n o s).2.2) w' := by
  have hxo : ∀ b, X.own b → b < w.heap.size := fun b hb => X.old A hb
  have hC : CallS X rb sb n w ((w.alloc (.cells #[.int .i64 o.kind, .int .i64 o.a, .int .i64 o.b, .int .i64 o.c] 49)).alloc (.cells #[.bool false, .int .i64 0, .slice none 0 0] 46)) (w.heap.size + 1) t s := by
    have hk2 : Kept (fun b => b = sb ∨ X.own b) w ((w.alloc (.cells #[.int .i64 o.kind, .int .i64 o.a, .int .i64 o.b, .int .i64 o.c] 49)).alloc (.cells #[.bool false, .int .i64 0, .slice none 0 0] 46)) := (Kept.alloc _ _).trans (Kept.alloc _ _)
    have hk3 : Kept (fun _ => False) w ((w.alloc (.cells #[.int .i64 o.kind, .int .i64 o.a, .int .i64 o.b, .int .i64 o.c] 49)).alloc (.cells #[.bool false, .int .i64 0, .slice none 0 0] 46)) := (Kept.alloc _ _).trans (Kept.alloc _ _)
    refine ⟨H.kept hk3 id id, hk2, X.keep A hk3 (fun _ _ h => h), ?_, by omega, by have := H.rlt; omega, by have := H.glt; omega, fun h => by have := hxo _ h; omega⟩
    have := Blk.new (w.alloc (.cells #[.int .i64 o.kind, .int .i64 o.a, .int .i64 o.b, .int .i64 o.c] 49)) 46 #[.bool false, .int .i64 0, .slice none 0 0]
    rw [World.size_alloc] at this
    exact this
  have HC := Lib.hid hC
  have HV := Lib.hid hv
  have HN1 := Lib.hid n1
  have HN2 := Lib.hid n2
  clear hC hv n1 n2 H A hxo
  obtain ⟨kd, a, b, c⟩ := o
  dsimp only [OpI.val] at ha0 ha1 hb1 HC ⊢
  by_cases h1 : kd = 1
  · subst h1
    rw [show doL n ⟨1, a, b, c⟩ s = (⟨(putA n a b s).1 == 0, (putA n a b s).1, []⟩, (putA n a b s).2) from if_pos rfl]
    have hc := put_a X t rb sb n _ hs s HC.out.ring HC.out.at_ HN1.out HN2.out a b
    generalize putA n a b s = P at hc ⊢
    have HQ := Lib.hid hc
    clear hc
    go_enter Try.func15, Try.ntmps15
    go_wp2_with fail
    refine HQ.out.mono ?_
    rintro e w3 ⟨rfl, H3, K3, A3⟩
    have hC3 : CallS X rb sb n w w3 (w.heap.size + 1) (t + P.2.2) (P.2.1) := ⟨H3, HC.out.kept.trans K3, A3, HC.out.blk.kept K3 (fun z => z.elim HC.out.nsb HC.out.nx), HC.out.new, HC.out.nrb, HC.out.nsb, HC.out.nx⟩
    have HC3 := Lib.hid hC3
    clear hC3 H3 K3 A3 HC HQ
    go_wp2_with (go_at_call 37; refine (told_x 0 P.1 _).mono ?_; rintro e w4 ⟨rfl, B4⟩; have hC4 := HC3.out.below B4; have HC4 := Lib.hid hC4; obtain ⟨⟨o0, o1, o2⟩, z0, z1, z2⟩ := hC4.facts; clear hC4)
    refine bodyPost_ret (v := .agg #[.bool (P.1 == 0), .int .i64 (toldV 0 P.1), .slice none 0 0]) ?_ rfl ?_
    · simp [results, Try.f15, go_sem, o0, o1, o2]
    obtain ⟨d1, d2, d3, _⟩ := HC4.out.done (.bool (P.1 == 0)) (.int .i64 (toldV 0 P.1)) (.slice none 0 0)
    exact ⟨_, by rw [toldV_0], ⟨rfl, .inl ⟨rfl, rfl⟩⟩, d1, d2, d3⟩
  have hk1 : (kd == 1) = false := by simpa using h1
  by_cases h2 : kd = 2
  · subst h2
    rw [show doL n ⟨2, a, b, c⟩ s = (⟨(getA n a s).2.1 == 0, wrap64 ((getA n a s).2.1 + (getA n a s).1), []⟩, s, (getA n a s).2.2) from rfl]
    have hc := get_a X t rb sb n _ hs s HC.out.ring HC.out.at_ HN1.out HN2.out a
    have hx : wrap64 ((getA n a s).2.1 + (getA n a s).1) = toldV (getA n a s).1 (getA n a s).2.1 := by
      unfold getA toldV
      by_cases hq : InB a
      · rw [if_pos hq]
        by_cases he : (getL s.1 s.2 n a).2.1 = 0
        · rw [if_pos he, he, getL_ok he]
          have := HV.out (a % n).toNat
          unfold wrap64
          omega
        · rw [if_neg he, (getL_one he).1]
          unfold getL
          split
          · show wrap64 (6 + 0) = 6; unfold wrap64; omega
          · split
            · show wrap64 (10 + 0) = 10; unfold wrap64; omega
            · show wrap64 (0 + 0) = 0; unfold wrap64; omega
      · rw [if_neg hq]; show wrap64 (1 + 0) = 1; unfold wrap64; omega
    rw [hx]
    clear hx hk1 h1
    generalize getA n a s = P at hc ⊢
    have HQ := Lib.hid hc
    clear hc
    go_enter Try.func15, Try.ntmps15
    go_wp2_with fail
    refine HQ.out.mono ?_
    rintro e w3 ⟨rfl, H3, K3, A3⟩
    have hC3 : CallS X rb sb n w w3 (w.heap.size + 1) (t + P.2.2) (s) := ⟨H3, HC.out.kept.trans K3, A3, HC.out.blk.kept K3 (fun z => z.elim HC.out.nsb HC.out.nx), HC.out.new, HC.out.nrb, HC.out.nsb, HC.out.nx⟩
    have HC3 := Lib.hid hC3
    clear hC3 H3 K3 A3 HC HQ
    go_wp2_with (go_at_call 37; refine (told_x P.1 P.2.1 _).mono ?_; rintro e w4 ⟨rfl, B4⟩; have hC4 := HC3.out.below B4; have HC4 := Lib.hid hC4; obtain ⟨⟨o0, o1, o2⟩, z0, z1, z2⟩ := hC4.facts; clear hC4)
    refine bodyPost_ret (v := .agg #[.bool (P.2.1 == 0), .int .i64 (toldV P.1 P.2.1), .slice none 0 0]) ?_ rfl ?_
    · simp [results, Try.f15, go_sem, o0, o1, o2]
    obtain ⟨d1, d2, d3, _⟩ := HC4.out.done (.bool (P.2.1 == 0)) (.int .i64 (toldV P.1 P.2.1)) (.slice none 0 0)
    exact ⟨_, rfl, ⟨rfl, .inl ⟨rfl, rfl⟩⟩, d1, d2, d3⟩
  have hk2 : (kd == 2) = false := by simpa using h2
  by_cases h3 : kd = 3
  · subst h3
    rw [show doL n ⟨3, a, b, c⟩ s = (⟨(thereA n a s).1, 0, []⟩, s, (thereA n a s).2) from rfl]
    have hc := there_a X t rb sb n _ hs s HC.out.ring HC.out.at_ HN1.out HN2.out a
    clear hk1 h1 hk2 h2
    generalize thereA n a s = P at hc ⊢
    have HQ := Lib.hid hc
    clear hc
    go_enter Try.func15, Try.ntmps15
    go_wp2_with fail
    refine HQ.out.mono ?_
    rintro e w3 ⟨rfl, H3, K3, A3⟩
    have hC3 : CallS X rb sb n w w3 (w.heap.size + 1) (t + P.2) (s) := ⟨H3, HC.out.kept.trans K3, A3, HC.out.blk.kept K3 (fun z => z.elim HC.out.nsb HC.out.nx), HC.out.new, HC.out.nrb, HC.out.nsb, HC.out.nx⟩
    have HC3 := Lib.hid hC3
    clear hC3 H3 K3 A3 HC HQ
    obtain ⟨⟨o0, o1, o2⟩, z0, z1, z2⟩ := HC3.out.facts
    go_wp2
    refine bodyPost_ret (v := .agg #[.bool (P.1), .int .i64 (0), .slice none 0 0]) ?_ rfl ?_
    · simp [results, Try.f15, go_sem, o0, o1, o2]
    obtain ⟨d1, d2, d3, _⟩ := HC3.out.done (.bool P.1) (.int .i64 0) (.slice none 0 0)
    exact ⟨_, rfl, ⟨rfl, .inl ⟨rfl, rfl⟩⟩, d1, d2, d3⟩
  have hk3 : (kd == 3) = false := by simpa using h3
  by_cases h4 : kd = 4
  · subst h4
    rw [show doL n ⟨4, a, b, c⟩ s = (⟨true, (highA n a b s).1, []⟩, s, (highA n a b s).2) from rfl]
    have hc := high_a X t rb sb n _ hs s HC.out.ring HC.out.at_ HN1.out HN2.out a b ha0 ha1 hb1
    clear hk1 h1 hk2 h2 hk3 h3
    generalize highA n a b s = P at hc ⊢
    have HQ := Lib.hid hc
    clear hc
    go_enter Try.func15, Try.ntmps15
    go_wp2_with fail
    refine HQ.out.mono ?_
    rintro e w3 ⟨rfl, H3, K3, A3⟩
    have hC3 : CallS X rb sb n w w3 (w.heap.size + 1) (t + P.2) (s) := ⟨H3, HC.out.kept.trans K3, A3, HC.out.blk.kept K3 (fun z => z.elim HC.out.nsb HC.out.nx), HC.out.new, HC.out.nrb, HC.out.nsb, HC.out.nx⟩
    have HC3 := Lib.hid hC3
    clear hC3 H3 K3 A3 HC HQ
    obtain ⟨⟨o0, o1, o2⟩, z0, z1, z2⟩ := HC3.out.facts
    go_wp2
    refine bodyPost_ret (v := .agg #[.bool (true), .int .i64 (P.1), .slice none 0 0]) ?_ rfl ?_
    · simp [results, Try.f15, go_sem, o0, o1, o2]
    obtain ⟨d1, d2, d3, _⟩ := HC3.out.done (.bool true) (.int .i64 P.1) (.slice none 0 0)
    exact ⟨_, rfl, ⟨rfl, .inl ⟨rfl, rfl⟩⟩, d1, d2, d3⟩
  have hk4 : (kd == 4) = false := by simpa using h4
  by_cases h5 : kd = 5
  · subst h5
    rw [show doL n ⟨5, a, b, c⟩ s = (⟨(gathA n a b s).2.1 == 0, (gathA n a b s).2.1, (gathA n a b s).1⟩, s, (gathA n a b s).2.2) from rfl]
    have hc := gath_a X t rb sb n _ hs s HC.out.ring HC.out.at_ HN1.out HN2.out a b
    clear hk1 h1 hk2 h2 hk3 h3 hk4 h4
    generalize gathA n a b s = P at hc ⊢
    have HQ := Lib.hid hc
    clear hc
    go_enter Try.func15, Try.ntmps15
    go_wp2_with fail
    refine HQ.out.mono ?_
    rintro e w3 ⟨lv, rfl, O3, H3, K3, A3⟩
    obtain ⟨lA, lc, rfl⟩ := own_slice O3
    have HO := Lib.hid O3
    clear O3
    have hC3 : CallS X rb sb n w w3 (w.heap.size + 1) (t + P.2.2) (s) := ⟨H3, HC.out.kept.trans K3, A3, HC.out.blk.kept K3 (fun z => z.elim HC.out.nsb HC.out.nx), HC.out.new, HC.out.nrb, HC.out.nsb, HC.out.nx⟩
    have HC3 := Lib.hid hC3
    clear hC3 H3 K3 A3 HC HQ
    go_wp2_with (go_at_call 37; refine (told_x 0 P.2.1 _).mono ?_; rintro e w4 ⟨rfl, B4⟩; have hC4 := HC3.out.below B4; have hO4 := Lib.hid (own_kept HO.out (Kept.of_below (S := fun _ => False) B4) (fun _ _ h => h)); have hC5 := hC4.below ((Below.refl _ _).alloc (Nat.le_refl _) (.cells #[.bool (P.2.1 == 0), .int .i64 (toldV 0 P.2.1), .slice lA P.1.length lc] 46)); have HC5 := Lib.hid hC5; obtain ⟨⟨o0, o1, o2⟩, z0, z1, z2⟩ := hC5.facts; clear hC4 hC5)
    refine bodyPost_ret (v := .agg #[.bool (P.2.1 == 0), .int .i64 (toldV 0 P.2.1), .slice lA P.1.length lc]) ?_ rfl ?_
    · simp [results, Try.f15, go_sem, o0, o1, o2]
    obtain ⟨d1, d2, d3, d4⟩ := HC5.out.done (.bool (P.2.1 == 0)) (.int .i64 (toldV 0 P.2.1)) (.slice lA P.1.length lc)
    refine ⟨_, by rw [toldV_0], own_down (own_kept (own_kept hO4.out (Kept.alloc (S := fun _ => False) _ _) (fun _ _ h => h)) d4 (fun b hb e => ?_)) ?_, d1, d2, d3⟩
    · simp at hb; omega
    · simp; omega
  have hk5 : (kd == 5) = false := by simpa using h5
  rw [show doL n ⟨kd, a, b, c⟩ s = (⟨false, 0, []⟩, s, 0) from by unfold doL; rw [if_neg h1, if_neg h2, if_neg h3, if_neg h4, if_neg h5]]
  clear h1 h2 h3 h4 h5
  obtain ⟨⟨o0, o1, o2⟩, z0, z1, z2⟩ := HC.out.facts
  go_enter Try.func15, Try.ntmps15
  go_wp2
  refine bodyPost_ret (v := .agg #[.bool (false), .int .i64 (0), .slice none 0 0]) ?_ rfl ?_
  · simp [results, Try.f15, go_sem, o0, o1, o2]
  exact ⟨_, rfl, ⟨rfl, .inl ⟨rfl, rfl⟩⟩, HC.out.ring, HC.out.kept, HC.out.at_⟩
end Go.Proofs.Yteainbnoemkfcaa
namespace Go.Proofs.Yteainbnoemkfcaa
open Go.RowKit Go.Turn Go.Tame Go.Conc
def soleT {S X : Type} : Tree S X → Option (X × Nat)
  | .ret x => some (x, 0)
  | .yield s k => (soleT (k s)).map fun p => (p.1, p.2 + 1)
  | .cut => none
section
variable {S : Type}
theorem sole_go (m : Mach S) (s : S) (k : S → Tree S S) (most : Nat) (ord : List Int) (hl : ord.length < most) : (⟨m.did 0 (.yield s k), ord⟩ : Run S).turns 1 most ((List.range 1).map (fun (i : Nat) => (i : Int))) = ⟨(m.did 0 (.yield s k)).did 0 (k s), ord ++ [0]⟩ := by
  have h1 : (m.did 0 (.yield s k)).th 0 = .wait k := by simp only [Mach.did, Go.ConcN.upd_same]
  have hm : (⟨m.did 0 (.yield s k), ord⟩ : Run S).may 1 most 0 = true := by
    unfold Run.may
    rw [show ((0 : Int).toNat) = 0 from rfl, h1]
    simp [Stg.isOver]
    omega
  show (⟨m.did 0 (.yield s k), ord⟩ : Run S).turn 1 most 0 = _
  unfold Run.turn
  rw [if_pos hm]
  congr 1
theorem did_left (m : Mach S) (s : S) (k : S → Tree S S) : (m.did 0 (.yield s k)).left 1 = 1 := by
  have h1 : (m.did 0 (.yield s k)).th 0 = .wait k := by simp only [Mach.did, Go.ConcN.upd_same]
  simp [Mach.left, h1, Stg.isOver]
theorem did_ret (m : Mach S) (s : S) : (m.did 0 (.ret s)).left 1 = 0 := by
  have h1 : (m.did 0 (.ret s)).th 0 = .over := by simp only [Mach.did, Go.ConcN.upd_same]
  simp [Mach.left, h1, Stg.isOver]
theorem sole_rounds (most : Nat) : ∀ (t : Tree S S) (x : S) (n : Nat) (m : Mach S) (ord : List Int) (f : Nat), soleT t = some (x, n) → most - ord.length ≤ f →
    (ord.length + n ≤ most → (Run.rounds 1 most f ⟨m.did 0 t, ord⟩).m.s = x ∧ (Run.rounds 1 most f ⟨m.did 0 t, ord⟩).order = ord ++ List.replicate n 0 ∧ (Run.rounds 1 most f ⟨m.did 0 t, ord⟩).m.left 1 = 0) ∧
    (ord.length ≤ most → most < ord.length + n → 0 < (Run.rounds 1 most f ⟨m.did 0 t, ord⟩).m.left 1) := by
  intro t
  induction t with
  | ret y =>
    intro x n m ord f h hf
    simp only [soleT, Option.some.injEq, Prod.mk.injEq] at h
    obtain ⟨rfl, rfl⟩ := h
    have := did_ret m y
    rw [rounds_stop (by simp [this])]
    refine ⟨fun _ => ⟨rfl, by simp, this⟩, fun h1 h2 => by omega⟩
  | yield s k ih =>
    intro x n m ord f h hf
    simp only [soleT, Option.map_eq_some_iff] at h
    obtain ⟨⟨x', n'⟩, h, e⟩ := h
    simp only [Prod.mk.injEq] at e
    obtain ⟨rfl, rfl⟩ := e
    have hl := did_left m s k
    by_cases hlt : ord.length < most
    · obtain ⟨g, rfl⟩ : ∃ g, f = g + 1 := ⟨f - 1, by omega⟩
      simp only [Run.rounds]
      rw [if_pos ⟨by rw [hl]; omega, hlt⟩, sole_go _ _ _ _ _ hlt]
      have := ih s x' n' (m.did 0 (.yield s k)) (ord ++ [0]) g h (by simp; omega)
      refine ⟨fun hh => ?_, fun h1 h2 => this.2 (by simp; omega) (by simp; omega)⟩
      obtain ⟨a, b, c⟩ := this.1 (by simp; omega)
      refine ⟨a, b.trans ?_, c⟩
      rw [List.append_assoc, List.replicate_succ, List.singleton_append]
    · rw [rounds_stop (fun h => hlt h.2)]
      exact ⟨fun hh => by omega, fun _ _ => by rw [hl]; omega⟩
  | cut => intro x n m ord f h; simp [soleT] at h
theorem sole_run (birth : Nat → S → Tree S S) (most : Nat) (s x : S) (n : Nat) (h : soleT (birth 0 s) = some (x, n)) :
    (n ≤ most → (playRun birth 1 most [] s).m.s = x ∧ (playRun birth 1 most [] s).order = List.replicate n 0 ∧ (playRun birth 1 most [] s).m.left 1 = 0) ∧ (most < n → 0 < (playRun birth 1 most [] s).m.left 1) := by
  have := sole_rounds most _ x n ⟨s, fun _ => .unborn⟩ [] most h (by simp)
  exact ⟨fun hn => this.1 (by simpa using hn), fun hn => this.2 (by simp) (by simpa using hn)⟩
end
section
variable {S : Type}
def addN {S X : Type} (n : Nat) (o : Option (X × Nat)) : Option (X × Nat) := o.map fun p => (p.1, p.2 + n)
theorem add_add {X : Type} (n m : Nat) (o : Option (X × Nat)) : addN (S := S) n (addN (S := S) m o) = addN (S := S) (m + n) o := by
  cases o with
  | none => rfl
  | some p => simp [addN, Nat.add_assoc]
theorem sole_yield {X : Type} (s : S) (k : S → Tree S X) : soleT (.yield s k) = addN (S := S) 1 (soleT (k s)) := rfl
theorem add_zero' {X : Type} (o : Option (X × Nat)) : addN (S := S) 0 o = o := by
  cases o with
  | none => rfl
  | some p => simp [addN]
end
theorem sole_get (n : Nat) (q : Int) (s : RSt2) (k : Int → Int → RSt2 → Tree RSt2 RSt2) : soleT (getT idL n q s k) = addN (S := RSt2) (getL s.1.1 s.1.2 n q).2.2 (soleT (k (getL s.1.1 s.1.2 n q).1 (getL s.1.1 s.1.2 n q).2.1 s)) := by
  unfold getT getL
  rw [sole_yield]
  show addN 1 (soleT (if s.1.1 (q % n).toNat < 2 * (q / n) then k 0 6 s else if 2 * (q / n) < s.1.1 (q % n).toNat then k 0 10 s else
    .yield s fun s2 => .yield s2 fun s3 => if s3.1.1 (q % n).toNat = s.1.1 (q % n).toNat then k (s2.1.2 (q % n).toNat) 0 s3 else k 0 10 s3)) = _
  by_cases h1 : s.1.1 (q % n).toNat < 2 * (q / n)
  · rw [if_pos h1, if_pos h1]
  · rw [if_neg h1, if_neg h1]
    by_cases h2 : 2 * (q / n) < s.1.1 (q % n).toNat
    · rw [if_pos h2, if_pos h2]
    · rw [if_neg h2, if_neg h2, sole_yield, sole_yield, if_pos rfl, add_add, add_add]
theorem sole_put (n : Nat) (q v : Int) (s : RSt2) (k : RSt2 → Tree RSt2 RSt2) : soleT (putT idL n q v s k) = addN (S := RSt2) 3 (soleT (k ((upd s.1.1 (q % n).toNat (2 * (q / n)), upd s.1.2 (q % n).toNat v), s.2))) := by
  unfold putT
  rw [sole_yield, sole_yield, sole_yield, add_add, add_add]
  show addN 3 (soleT (k ((upd (upd s.1.1 (q % n).toNat (2 * (q / n) - 1)) (q % n).toNat (2 * (q / n)), upd s.1.2 (q % n).toNat v), s.2))) = _
  rw [upd_upd]
theorem sole_high (n : Nat) (k : Int → RSt2 → Tree RSt2 RSt2) : ∀ (j : Nat) (q : Int) (s : RSt2), soleT (highT idL n j q s k) = addN (S := RSt2) (highR s.1.1 n j q).2 (soleT (k (highR s.1.1 n j q).1 s))
  | 0, q, s => (add_zero' _).symm
  | j + 1, q, s => by
    unfold highT thereT highR
    rw [sole_yield]
    show addN 1 (soleT (if (s.1.1 (q % n).toNat == 2 * (q / n)) = true then highT idL n j (q + 1) s k else k (q - 1) s)) = _
    by_cases h : s.1.1 (q % n).toNat = 2 * (q / n)
    · rw [if_pos (by simpa using h), if_pos h, sole_high n k j (q + 1) s, add_add]
    · rw [if_neg (by simpa using h), if_neg h]
theorem sole_gath (n : Nat) (k : List Int → Int → RSt2 → Tree RSt2 RSt2) : ∀ (j : Nat) (q : Int) (acc : List Int) (s : RSt2), soleT (gathT idL n j q acc s k) = addN (S := RSt2) (gathL s.1.1 s.1.2 n j q acc).2.2 (soleT (k (gathL s.1.1 s.1.2 n j q acc).1 (gathL s.1.1 s.1.2 n j q acc).2.1 s))
  | 0, q, acc, s => (add_zero' _).symm
  | j + 1, q, acc, s => by
    unfold gathT gathL
    by_cases hb : 4611686018427387904 ≤ q
    · rw [if_pos hb, if_pos hb]
      exact (add_zero' _).symm
    · rw [if_neg hb, if_neg hb, sole_get]
      by_cases he : (getL s.1.1 s.1.2 n q).2.1 = 0
      · rw [if_pos he, if_pos he, sole_gath n k j (q + 1) _ s, add_add]
      · rw [if_neg he, if_neg he]
        by_cases ha : acc = []
        · rw [if_pos ha, if_pos ha]
        · rw [if_neg ha, if_neg ha]
theorem sole_do (n : Nat) (o : OpI) (s : RSt2) (k : Ans → RSt2 → Tree RSt2 RSt2) : soleT (doG n o s k) = addN (S := RSt2) (doL n o s.1).2.2 (soleT (k (doL n o s.1).1 ((doL n o s.1).2.1, s.2))) := by
  unfold doG doL
  by_cases h1 : o.kind = 1
  · rw [if_pos h1, if_pos h1]
    unfold putG putA
    by_cases hb : InB o.a
    · rw [if_pos hb, if_pos hb]; exact sole_put _ _ _ _ _
    · rw [if_neg hb, if_neg hb]; exact (add_zero' _).symm
  rw [if_neg h1, if_neg h1]
  by_cases h2 : o.kind = 2
  · rw [if_pos h2, if_pos h2]
    unfold getG getA
    by_cases hb : InB o.a
    · rw [if_pos hb, if_pos hb]; exact sole_get _ _ _ _
    · rw [if_neg hb, if_neg hb]; exact (add_zero' _).symm
  rw [if_neg h2, if_neg h2]
  by_cases h3 : o.kind = 3
  · rw [if_pos h3, if_pos h3]
    unfold thereG thereA
    by_cases hb : InB o.a
    · rw [if_pos hb, if_pos hb]; exact sole_yield _ _
    · rw [if_neg hb, if_neg hb]; exact (add_zero' _).symm
  rw [if_neg h3, if_neg h3]
  by_cases h4 : o.kind = 4
  · rw [if_pos h4, if_pos h4]
    unfold highG highA
    by_cases hb : InB o.a ∧ o.a ≤ o.b
    · rw [if_pos hb, if_pos hb]; exact sole_high _ _ _ _ _
    · rw [if_neg hb, if_neg hb]; exact (add_zero' _).symm
  rw [if_neg h4, if_neg h4]
  by_cases h5 : o.kind = 5
  · rw [if_pos h5, if_pos h5]
    unfold gathG gathA
    by_cases hb : InB o.a
    · rw [if_pos hb, if_pos hb]; exact sole_gath _ _ _ _ _ _
    · rw [if_neg hb, if_neg hb]; exact (add_zero' _).symm
  rw [if_neg h5, if_neg h5]
  exact (add_zero' _).symm
def runL (n : Nat) : List OpI → RSt → List Ans × RSt × Nat
  | [], s => ([], s, 0)
  | o :: l, s => ((doL n o s).1 :: (runL n l (doL n o s).2.1).1, (runL n l (doL n o s).2.1).2.1, (runL n l (doL n o s).2.1).2.2 + (doL n o s).2.2)
theorem sole_thr (n : Nat) : ∀ (l : List OpI) (own : List Ans) (s : RSt2), s.2 0 = own → ∃ g, soleT (thrQ (doG n) 0 l own s) = some (((runL n l s.1).2.1, g), (runL n l s.1).2.2) ∧ g 0 = own ++ (runL n l s.1).1
  | [], own, s, h => ⟨s.2, rfl, by simp [runL, h]⟩
  | o :: l, own, s, h => by
    obtain ⟨g, h1, h2⟩ := sole_thr n l (own ++ [(doL n o s.1).1]) (pushQ 0 (doL n o s.1).1 ((doL n o s.1).2.1, s.2)) (by simp [pushQ, h])
    refine ⟨g, ?_, by rw [h2]; simp [runL, pushQ]⟩
    unfold thrQ
    rw [sole_do, if_pos h, h1]
    rfl
theorem sole_play (n : Nat) (hn : RightI n) (ops : Nat → List OpI) : 
    ((runL n (ops 0) (begS n [] 0)).2.2 ≤ 1048576 → (playS [(n : Int)] ops 1 [] 1048576).m.s.1 = (runL n (ops 0) (begS n [] 0)).2.1 ∧ (playS [(n : Int)] ops 1 [] 1048576).m.s.2 0 = (runL n (ops 0) (begS n [] 0)).1 ∧ (playS [(n : Int)] ops 1 [] 1048576).order = List.replicate (runL n (ops 0) (begS n [] 0)).2.2 0 ∧ (playS [(n : Int)] ops 1 [] 1048576).m.left 1 = 0) ∧
    (1048576 < (runL n (ops 0) (begS n [] 0)).2.2 → 0 < (playS [(n : Int)] ops 1 [] 1048576).m.left 1) := by
  have e1 : rnOf [(n : Int)] = n := (if_pos hn).trans (by simp)
  have e2 : s0Of [(n : Int)] = begS n [] 0 := (if_pos hn).trans (by simp)
  have e3 : doA n = doG n := if_neg (by have := hn.1; omega)
  obtain ⟨g, h1, h2⟩ := sole_thr n (ops 0) [] (begS n [] 0, fun _ => []) rfl
  have := sole_run (brQ (fun _ => doG n) ops) 1048576 (begS n [] 0, fun _ => []) _ _ (show soleT (brQ (fun _ => doG n) ops 0 (begS n [] 0, fun _ => [])) = _ by unfold brQ; rw [if_pos rfl]; exact h1)
  unfold playS
  rw [e1, e2, e3, show min 1 64 = 1 from rfl, show (heldI 1048576 1048576).toNat = 1048576 from rfl]
  refine ⟨fun hh => ?_, this.2⟩
  obtain ⟨a, b, c⟩ := this.1 hh
  exact ⟨by rw [a], by rw [a]; simpa using h2, b, c⟩
end Go.Proofs.Yteainbnoemkfcaa
namespace Go.Proofs.Yteainbnoemkfcaa
open Go.RowKit Go.Turn Go.Tame Go.Conc
structure ScriptAt (W w : World) (ss : List Int) (qA : Option Addr) (qc nt : Nat) (tA : Option Addr) (Tb To : Nat) (A : Nat → Option Addr) (len cap : Nat → Nat) (ops : Nat → List OpI) (sA : Option Addr) (sc : Nat) (xs : List Int) : Prop where
  st : ∀ i, i < ss.length → ∃ b o, qA = some ⟨b, o, none⟩ ∧ b < W.heap.size ∧ w.cell? ⟨b, o + i, none⟩ = some (.int .i64 (ss.getD i 0))
  sle : ss.length ≤ qc
  smx : qc ≤ maxLen
  slen : ss.length ≤ 4611686018427387903
  s64 : ∀ x ∈ ss, R64 x
  nmx : nt ≤ maxLen
  ta : 0 < nt → tA = some ⟨Tb, To, none⟩
  row : ∀ i, i < min nt 64 → Tb < W.heap.size ∧ w.cell? ⟨Tb, To + i, none⟩ = some (.slice (A i) (len i) (cap i)) ∧ len i ≤ cap i ∧ cap i ≤ maxLen ∧ (A i = none → cap i = 0)
  olen : ∀ i, i < min nt 64 → (ops i).length = min (len i) 65536
  op : ∀ i, i < min nt 64 → ∀ j o, (ops i)[j]? = some o → o.Ok ∧ R64 o.b ∧ ∃ b f, A i = some ⟨b, f, none⟩ ∧ b < W.heap.size ∧ w.cell? ⟨b, f + j * 4, none⟩ = some (.int .i64 o.kind) ∧ w.cell? ⟨b, f + j * 4 + 1, none⟩ = some (.int .i64 o.a) ∧ w.cell? ⟨b, f + j * 4 + 2, none⟩ = some (.int .i64 o.b) ∧ w.cell? ⟨b, f + j * 4 + 3, none⟩ = some (.int .i64 o.c)
  sch : ∀ i, i < xs.length → ∃ b o, sA = some ⟨b, o, none⟩ ∧ b < W.heap.size ∧ w.cell? ⟨b, o + i, none⟩ = some (.int .i64 (xs.getD i 0))
  xmx : xs.length ≤ maxLen
theorem cell_block {w : World} {b o : Nat} {v : Value} (h : w.cell? ⟨b, o, none⟩ = some v) : ∃ cs t r, w.heap[b]? = some (.cells cs t r) ∧ cs[o]? = some v := by
  unfold World.cell? at h
  cases ho : w.heap[b]? with
  | none => simp [ho] at h
  | some x =>
    cases x with
    | cells cs t r =>
      refine ⟨cs, t, r, rfl, ?_⟩
      have := cell_of_row w b o cs t r ho
      unfold World.cell? at this
      rw [← this]
      exact h
    | _ => simp [ho] at h
theorem kpt_cell {W w w' : World} (h : Kpt W w w') {b o : Nat} {v : Value} (hb : b < W.heap.size) (hc : w.cell? ⟨b, o, none⟩ = some v) : w'.cell? ⟨b, o, none⟩ = some v := by
  cases ho : w.heap[b]? with
  | none => simp [World.cell?, ho] at hc
  | some x =>
    cases x with
    | cells c t r =>
      have h1 := h.near b c t r (.inl hb) ho
      exact (World.cell?_of_block (w := w) (a := ⟨b, o, none⟩) (h1.trans ho.symm)).trans hc
    | _ => simp [World.cell?, ho] at hc
set_option maxHeartbeats 4000000 in
set_option maxRecDepth 100000 in
section
variable {W w w' : World} {ss : List Int} {qA : Option Addr} {qc nt : Nat} {tA : Option Addr} {Tb To : Nat} {A : Nat → Option Addr} {len cap : Nat → Nat} {ops : Nat → List OpI} {sA : Option Addr} {sc : Nat} {xs : List Int}
theorem ScriptAt.keep (h : ScriptAt W w ss qA qc nt tA Tb To A len cap ops sA sc xs) (hk : ∀ b o v, b < W.heap.size → w.cell? ⟨b, o, none⟩ = some v → w'.cell? ⟨b, o, none⟩ = some v) : ScriptAt W w' ss qA qc nt tA Tb To A len cap ops sA sc xs where
  st i hi := by obtain ⟨b, o, h1, h2, h3⟩ := h.st i hi; exact ⟨b, o, h1, h2, hk _ _ _ h2 h3⟩
  sle := h.sle
  smx := h.smx
  slen := h.slen
  s64 := h.s64
  nmx := h.nmx
  ta := h.ta
  row i hi := by obtain ⟨h1, h2, h3⟩ := h.row i hi; exact ⟨h1, hk _ _ _ h1 h2, h3⟩
  olen := h.olen
  op i hi j o ho := by
    obtain ⟨h0, h0', b, f, h1, h2, h3, h4, h5, h6⟩ := h.op i hi j o ho
    exact ⟨h0, h0', b, f, h1, h2, hk _ _ _ h2 h3, hk _ _ _ h2 h4, hk _ _ _ h2 h5, hk _ _ _ h2 h6⟩
  sch i hi := by obtain ⟨b, o, h1, h2, h3⟩ := h.sch i hi; exact ⟨b, o, h1, h2, hk _ _ _ h2 h3⟩
  xmx := h.xmx
theorem ScriptAt.kpt (h : ScriptAt W w ss qA qc nt tA Tb To A len cap ops sA sc xs) (k : Kpt W w w') : ScriptAt W w' ss qA qc nt tA Tb To A len cap ops sA sc xs :=
  h.keep fun b o v hb hc => kpt_cell k hb hc
theorem ScriptAt.rows (h : ScriptAt W w ss qA qc nt tA Tb To A len cap ops sA sc xs) : RowsAt w Tb To (min nt 64) A len cap := ⟨fun i hi => (h.row i hi).2.1, fun i hi => (h.row i hi).2.2.1, fun i hi => (h.row i hi).2.2.2.1, fun i hi => (h.row i hi).2.2.2.2⟩
theorem ScriptAt.opc (h : ScriptAt W w ss qA qc nt tA Tb To A len cap ops sA sc xs) : OpsCells W GI w (min nt 64) A len ops := ⟨h.olen, fun i hi o ho => by
    obtain ⟨j, hj, e⟩ := List.mem_iff_getElem.1 ho
    obtain ⟨z1, z2, _⟩ := h.op i hi j o (by rw [List.getElem?_eq_getElem hj, e])
    exact ⟨z1.1, z1.2, z2.2⟩, fun i hi j hj => by
    obtain ⟨_, _, b, f, h1, h2, h3, h4, h5, h6⟩ := h.op i hi j _ (List.getElem?_eq_getElem hj)
    obtain ⟨cs, t, r, k1, k2⟩ := cell_block h3
    refine ⟨b, f, cs, t, r, h1, k1, .inr h2, fun m hm => ?_⟩
    have c : ∀ k v, w.cell? ⟨b, f + j * 4 + k, none⟩ = some v → cs[f + j * 4 + k]? = some v := fun k v hc => (cell_of_row w b _ cs t r k1).symm.trans hc
    rcases m with _ | _ | _ | _ | m
    · exact k2.trans rfl
    · exact (c 1 _ h4).trans rfl
    · exact (c 2 _ h5).trans rfl
    · exact (c 3 _ h6).trans rfl
    · omega⟩
theorem ScriptAt.run (h : ScriptAt W w ss qA qc nt tA Tb To A len cap ops sA sc xs) (hW : W.heap.size ≤ w.heap.size) : RunIn w (fun i => .slice (A i) (min (len i) 65536) (cap i)) ops nt tA Tb To A len cap sA sc xs :=
  ⟨h.nmx, h.ta, h.rows, fun _ _ => rfl, ⟨fun i hi => ⟨A i, cap i, by rw [h.olen i hi]⟩, fun i hi j o ho => by
    obtain ⟨_, _, b, f, h1, h2, h3⟩ := h.op i hi j o ho
    exact ⟨b, f, cap i, by rw [h1, h.olen i hi], by omega, h3⟩⟩, h.olen, fun i hi o ho => ⟨(h.opc.good i hi o ho).1, (h.opc.good i hi o ho).2.1⟩, fun i hi => by
    obtain ⟨b, o, h1, _, h3⟩ := h.sch i hi
    exact ⟨b, o, h1, h3⟩, h.xmx⟩
structure PlS (W : World) (ss : List Int) (qA : Option Addr) (qc nt : Nat) (tA : Option Addr) (cp Tb To : Nat) (A : Nat → Option Addr) (len cap : Nat → Nat) (ops : Nat → List OpI) (sA : Option Addr) (sc : Nat) (xs : List Int) (most : Int) (b1 : Nat) (w : World) : Prop where
  box : ∃ t, w.heap[b1]? = some (.cells #[.slice qA ss.length qc, .slice tA nt cp, .slice sA xs.length sc, .int .i64 most] t (0, 0))
  sc_ : ScriptAt W w ss qA qc nt tA Tb To A len cap ops sA sc xs
  size : W.heap.size ≤ w.heap.size
  io : w.os = W.os ∧ w.output = W.output
theorem PlS.re {cp : Nat} {most : Int} {b1 : Nat} {y : World} {τ : Nat → Question → Nat} {n : Nat} (h : PlS W ss qA qc nt tA cp Tb To A len cap ops sA sc xs most b1 (y.re τ n)) : PlS W ss qA qc nt tA cp Tb To A len cap ops sA sc xs most b1 y := ⟨h.box, h.sc_.keep fun _ _ _ _ z => z, h.size, h.io⟩
theorem PlS.kpt {cp : Nat} {most : Int} {b1 : Nat} (h : PlS W ss qA qc nt tA cp Tb To A len cap ops sA sc xs most b1 w) (k : Kpt W w w') : PlS W ss qA qc nt tA cp Tb To A len cap ops sA sc xs most b1 w' := by
  obtain ⟨t, hb⟩ := h.box
  exact ⟨⟨t, k.near b1 _ t (0, 0) (.inr (by decide)) hb⟩, h.sc_.kpt k, Nat.le_trans h.size k.size, k.io.1.trans h.io.1, k.io.2.trans h.io.2⟩
theorem PlS.cells {cp : Nat} {most : Int} {b1 : Nat} (h : PlS W ss qA qc nt tA cp Tb To A len cap ops sA sc xs most b1 w) : w.cell? ⟨b1, 0, none⟩ = some (.slice qA ss.length qc) ∧ w.cell? ⟨b1, 1, none⟩ = some (.slice tA nt cp) ∧ w.cell? ⟨b1, 2, none⟩ = some (.slice sA xs.length sc) ∧ w.cell? ⟨b1, 3, none⟩ = some (.int .i64 most) := by
  obtain ⟨t, hb⟩ := h.box
  exact ⟨cell_of_row w b1 0 _ t (0, 0) hb, cell_of_row w b1 1 _ t (0, 0) hb, cell_of_row w b1 2 _ t (0, 0) hb, cell_of_row w b1 3 _ t (0, 0) hb⟩
end
end Go.Proofs.Yteainbnoemkfcaa
namespace Go.Proofs.Yteainbnoemkfcaa
open Go.ChangeShapes Go.WideShapes Go.ChangeAt Go.RowKit Go.Deep Go.Turn
theorem list_of {α : Type} {Q : Nat → α → Prop} (m : Nat) (h : ∀ j, j < m → ∃ x, Q j x) : ∃ l : List α, l.length = m ∧ ∀ j x, l[j]? = some x → Q j x := by
  induction m with
  | zero => exact ⟨[], rfl, fun j x hx => by simp at hx⟩
  | succ m ih =>
    obtain ⟨l, hl, hq⟩ := ih fun j hj => h j (by omega)
    obtain ⟨y, hy⟩ := h m (by omega)
    refine ⟨l ++ [y], by simp [hl], fun j x hx => ?_⟩
    rcases Nat.lt_or_ge j m with hlt | hge
    · rw [List.getElem?_append_left (by omega)] at hx
      exact hq j x hx
    · have hj : j < (l ++ [y]).length := (List.getElem?_eq_some_iff.1 hx).1
      have : j = m := by simp [hl] at hj; omega
      subst this
      rw [List.getElem?_append_right (by omega), hl] at hx
      simp at hx
      subst hx
      exact hy
section
variable {H : Type} {enc : TypeId × Value → H}
theorem lit_r64 {k : Int} (h : (Lit.int .i64 k).wf = true) : R64 k := by
  simp [Lit.wf, IntKind.min, IntKind.max, IntKind.signed, IntKind.bits] at h
  unfold R64
  omega
set_option maxRecDepth 100000 in
theorem open_ops2 {W : World} {sp : Nat → Bool} {fuel : Nat} {cs : List Value} {x : DataW H × List MemPlace} (h : DataW.trod enc Try.prog W 0 sp true fuel 34 cs = some x) :
    ∃ (A : Option Addr) (len cap : Nat) (ops : List OpI), cs = [.slice A len cap] ∧ len ≤ cap ∧ cap ≤ maxLen ∧ (A = none → cap = 0) ∧ ops.length = min len 65536 ∧ ∀ j o, ops[j]? = some o → o.Ok ∧ R64 o.b ∧ ∃ b f, A = some ⟨b, f, none⟩ ∧ b < W.heap.size ∧ W.cell? ⟨b, f + j * 4, none⟩ = some (.int .i64 o.kind) ∧ W.cell? ⟨b, f + j * 4 + 1, none⟩ = some (.int .i64 o.a) ∧ W.cell? ⟨b, f + j * 4 + 2, none⟩ = some (.int .i64 o.b) ∧ W.cell? ⟨b, f + j * 4 + 3, none⟩ = some (.int .i64 o.c) := by
  rcases open_slice Try.underlying34 h with ⟨rfl, rfl⟩ | ⟨a, len, cap, m, n, D, Pl, rfl, hb, hl, hm, hmm, rfl, hx⟩
  · exact ⟨none, 0, 0, [], rfl, Nat.le_refl _, by unfold maxLen; omega, fun _ => rfl, rfl, fun j o hj => by simp at hj⟩
  have hlm : len ≤ m := by rw [hmm]; split <;> omega
  obtain ⟨ops, hol, ho⟩ := list_of (α := OpI) (Q := fun j o => o.Ok ∧ R64 o.b ∧ ∃ b f, a = ⟨b, f, none⟩ ∧ b < W.heap.size ∧ W.cell? ⟨b, f + j * 4, none⟩ = some (.int .i64 o.kind) ∧ W.cell? ⟨b, f + j * 4 + 1, none⟩ = some (.int .i64 o.a) ∧ W.cell? ⟨b, f + j * 4 + 2, none⟩ = some (.int .i64 o.b) ∧ W.cell? ⟨b, f + j * 4 + 3, none⟩ = some (.int .i64 o.c)) (min len 65536) fun j hj => by
    have ha : a.spot = none := by
      obtain ⟨cs', h1, _⟩ := hx 0 (by omega)
      rw [Try.opCells] at h1
      obtain ⟨_, hlen, hcell⟩ := World.cells?_some h1
      have c0 := hcell 0 (by omega)
      match cs', hlen with
      | [v0, v1, v2, v3], _ =>
        have c0 : W.cell? a = some v0 := by simpa [Addr.add] using c0
        exact (spot_none c0).1
    obtain ⟨b, o, s⟩ := a
    simp only at ha
    subst ha
    obtain ⟨cs', h1, h2⟩ := hx j (by omega)
    rw [Try.opCells] at h1
    obtain ⟨_, hlen, hcell⟩ := World.cells?_some h1
    match cs', hlen with
    | [v1, v2, v3, v4], _ =>
      obtain ⟨xs, k', _, _, _, hlx, hf⟩ := DataW.trod_struct Try.underlying49 h2
      match xs, hlx with
      | [x0, x1, x2, x3], _ =>
        have f0 : DataW.trod enc Try.prog W 0 sp true k' 3 [v1] = some x0 := by
          have h := hf 0 _ rfl
          change DataW.trod enc Try.prog W 0 sp true k' 3 (List.take (Try.prog.cellsOf 3) (List.drop 0 [v1, v2, v3, v4])) = some x0 at h
          rw [Try.intCells] at h
          exact h
        have f1 : DataW.trod enc Try.prog W 0 sp true k' 2 [v2] = some x1 := by
          have h := hf 1 _ rfl
          change DataW.trod enc Try.prog W 0 sp true k' 2 (List.take (Try.prog.cellsOf 2) (List.drop 1 [v1, v2, v3, v4])) = some x1 at h
          rw [Try.longCells] at h
          exact h
        have f2 : DataW.trod enc Try.prog W 0 sp true k' 2 [v3] = some x2 := by
          have h := hf 2 _ rfl
          change DataW.trod enc Try.prog W 0 sp true k' 2 (List.take (Try.prog.cellsOf 2) (List.drop 2 [v1, v2, v3, v4])) = some x2 at h
          rw [Try.longCells] at h
          exact h
        have f3 : DataW.trod enc Try.prog W 0 sp true k' 2 [v4] = some x3 := by
          have h := hf 3 _ rfl
          change DataW.trod enc Try.prog W 0 sp true k' 2 (List.take (Try.prog.cellsOf 2) (List.drop 3 [v1, v2, v3, v4])) = some x3 at h
          rw [Try.longCells] at h
          exact h
        obtain ⟨n0, g0, _, _⟩ := DataW.trod_int Try.underlying3 f0
        obtain ⟨n1, g1, _, hw1⟩ := DataW.trod_int Try.underlying2 f1
        obtain ⟨n2, g2, _, hw2⟩ := DataW.trod_int Try.underlying2 f2
        obtain ⟨n3, g3, _, _⟩ := DataW.trod_int Try.underlying2 f3
        simp only [List.cons.injEq, and_true] at g0 g1 g2 g3
        subst g0; subst g1; subst g2; subst g3
        have c0 := hcell 0 (by omega)
        have c1 := hcell 1 (by omega)
        have c2 := hcell 2 (by omega)
        have c3 := hcell 3 (by omega)
        have e : ∀ k, ((⟨b, o, none⟩ : Addr).add (j * 4)).add k = ⟨b, o + j * 4 + k, none⟩ := fun k => by
          unfold Addr.add
          by_cases h4 : j * 4 = 0 <;> by_cases hk : k = 0 <;> simp [h4, hk]
        rw [e] at c0 c1 c2 c3
        exact ⟨⟨n0, n1, n2, n3⟩, lit_r64 hw1, lit_r64 hw2, b, o, rfl, (spot_none c1).2, c0, c1, c2, c3⟩
  refine ⟨some a, len, cap, ops, rfl, hl, hm, fun h => (by cases h), hol, fun j o hj => ?_⟩
  obtain ⟨h1, h2, b, f, rfl, h3⟩ := ho j o hj
  exact ⟨h1, h2, b, f, rfl, h3⟩
end
end Go.Proofs.Yteainbnoemkfcaa
namespace Go.Turn
section
variable {P : Program} {ops : Array Oper} {Q : Exit → Act → World → Prop} {S : World → Prop}
theorem game4 {I : Bool → Bool → Bool → Bool → Act → World → Prop} (L : Bool → Bool → Bool → Bool → Array Bool) (x1 x2 x3 x4 fuel : Nat)
    (hl1 : ∀ c d, (L false false c d).setIfInBounds x1 true = L true false c d) (hl2 : ∀ c d, (L true false c d).setIfInBounds x2 true = L true true c d)
    (hl3 : ∀ a b d, (L a b false d).setIfInBounds x3 true = L a b true d) (hl4 : ∀ a b c, (L a b c false).setIfInBounds x4 true = L a b c true)
    (r1 : ∀ c d, Region.ready .any ops (L false false c d) = x1 :: ((if c then [] else [x3]) ++ if d then [] else [x4]))
    (r2 : ∀ c d, Region.ready .any ops (L true false c d) = x2 :: ((if c then [] else [x3]) ++ if d then [] else [x4]))
    (r3 : ∀ d, Region.ready .any ops (L true true false d) = x3 :: if d then [] else [x4]) (r4 : Region.ready .any ops (L true true true false) = [x4])
    (hS : ∀ a b c d y w, I a b c d y w → S w)
    (s1 : ∀ c d y w, I false false c d y w → ∀ K, (∀ y' w', I true false c d y' w' → K y' w') → wpOp P ops Q x1 K y w)
    (s2 : ∀ c d y w, I true false c d y w → ∀ K, (∀ y' w', I true true c d y' w' → K y' w') → wpOp P ops Q x2 K y w)
    (s3 : ∀ a b d y w, I a b false d y w → ∀ K, (∀ y' w', I a b true d y' w' → K y' w') → wpOp P ops Q x3 K y w)
    (s4 : ∀ a b c y w, I a b c false y w → ∀ K, (∀ y' w', I a b c true y' w' → K y' w') → wpOp P ops Q x4 K y w)
    (fin : ∀ y w, I true true true true y w → wpAnyH P .any ops Q S fuel (L true true true true) y w)
    {y : Act} {w : World} (h : I false false false false y w) : wpAnyH P .any ops Q S (fuel + 4) (L false false false false) y w := by
  have g3 : ∀ {a b d} {fu : Nat}, (∀ y w, I a b true d y w → wpAnyH P .any ops Q S fu (L a b true d) y w) → ∀ y w, I a b false d y w → wpOp P ops Q x3 (fun y' w' => S w' ∧ wpAnyH P .any ops Q S fu ((L a b false d).setIfInBounds x3 true) y' w') y w := fun {a b d fu} G y w h => s3 a b d y w h _ fun y' w' h' => ⟨hS _ _ _ _ _ _ h', by rw [hl3]; exact G y' w' h'⟩
  have g4 : ∀ {a b c} {fu : Nat}, (∀ y w, I a b c true y w → wpAnyH P .any ops Q S fu (L a b c true) y w) → ∀ y w, I a b c false y w → wpOp P ops Q x4 (fun y' w' => S w' ∧ wpAnyH P .any ops Q S fu ((L a b c false).setIfInBounds x4 true) y' w') y w := fun {a b c fu} G y w h => s4 a b c y w h _ fun y' w' h' => ⟨hS _ _ _ _ _ _ h', by rw [hl4]; exact G y' w' h'⟩
  have g2 : ∀ {c d} {fu : Nat}, (∀ y w, I true true c d y w → wpAnyH P .any ops Q S fu (L true true c d) y w) → ∀ y w, I true false c d y w → wpOp P ops Q x2 (fun y' w' => S w' ∧ wpAnyH P .any ops Q S fu ((L true false c d).setIfInBounds x2 true) y' w') y w := fun {c d fu} G y w h => s2 c d y w h _ fun y' w' h' => ⟨hS _ _ _ _ _ _ h', by rw [hl2]; exact G y' w' h'⟩
  have g1 : ∀ {c d} {fu : Nat}, (∀ y w, I true false c d y w → wpAnyH P .any ops Q S fu (L true false c d) y w) → ∀ y w, I false false c d y w → wpOp P ops Q x1 (fun y' w' => S w' ∧ wpAnyH P .any ops Q S fu ((L false false c d).setIfInBounds x1 true) y' w') y w := fun {c d fu} G y w h => s1 c d y w h _ fun y' w' h' => ⟨hS _ _ _ _ _ _ h', by rw [hl1]; exact G y' w' h'⟩
  have t4 : ∀ y w, I true true true false y w → wpAnyH P .any ops Q S (fuel + 1) (L true true true false) y w := fun y w h => wpAnyH_all r4 (by simp) fun i hi => by
    simp only [List.mem_singleton] at hi; subst hi; exact g4 fin y w h
  have t3 : ∀ y w, I true true false true y w → wpAnyH P .any ops Q S (fuel + 1) (L true true false true) y w := fun y w h => wpAnyH_all (r3 true) (by simp) fun i hi => by
    simp only [if_true, List.mem_singleton] at hi; subst hi; exact g3 fin y w h
  have t34 : ∀ y w, I true true false false y w → wpAnyH P .any ops Q S (fuel + 2) (L true true false false) y w := fun y w h => wpAnyH_all (r3 false) (by simp) fun i hi => by
    simp at hi
    rcases hi with rfl | rfl
    · exact g3 t4 y w h
    · exact g4 t3 y w h
  have u : ∀ y w, I true false true true y w → wpAnyH P .any ops Q S (fuel + 1) (L true false true true) y w := fun y w h => wpAnyH_all (r2 true true) (by simp) fun i hi => by
    simp at hi; subst hi; exact g2 fin y w h
  have u4 : ∀ y w, I true false true false y w → wpAnyH P .any ops Q S (fuel + 2) (L true false true false) y w := fun y w h => wpAnyH_all (r2 true false) (by simp) fun i hi => by
    simp at hi
    rcases hi with rfl | rfl
    · exact g2 t4 y w h
    · exact g4 u y w h
  have u3 : ∀ y w, I true false false true y w → wpAnyH P .any ops Q S (fuel + 2) (L true false false true) y w := fun y w h => wpAnyH_all (r2 false true) (by simp) fun i hi => by
    simp at hi
    rcases hi with rfl | rfl
    · exact g2 t3 y w h
    · exact g3 u y w h
  have u34 : ∀ y w, I true false false false y w → wpAnyH P .any ops Q S (fuel + 3) (L true false false false) y w := fun y w h => wpAnyH_all (r2 false false) (by simp) fun i hi => by
    simp at hi
    rcases hi with rfl | rfl | rfl
    · exact g2 t34 y w h
    · exact g3 u4 y w h
    · exact g4 u3 y w h
  have v : ∀ y w, I false false true true y w → wpAnyH P .any ops Q S (fuel + 2) (L false false true true) y w := fun y w h => wpAnyH_all (r1 true true) (by simp) fun i hi => by
    simp at hi; subst hi; exact g1 u y w h
  have v4 : ∀ y w, I false false true false y w → wpAnyH P .any ops Q S (fuel + 3) (L false false true false) y w := fun y w h => wpAnyH_all (r1 true false) (by simp) fun i hi => by
    simp at hi
    rcases hi with rfl | rfl
    · exact g1 u4 y w h
    · exact g4 v y w h
  have v3 : ∀ y w, I false false false true y w → wpAnyH P .any ops Q S (fuel + 3) (L false false false true) y w := fun y w h => wpAnyH_all (r1 false true) (by simp) fun i hi => by
    simp at hi
    rcases hi with rfl | rfl
    · exact g1 u3 y w h
    · exact g3 v y w h
  refine wpAnyH_all (r1 false false) (by simp) fun i hi => ?_
  simp at hi
  rcases hi with rfl | rfl | rfl
  · exact g1 u34 y w h
  · exact g3 v4 y w h
  · exact g4 v3 y w h
end
theorem game2 {P : Program} {ops : Array Oper} {Q : Exit → Act → World → Prop} {S : World → Prop} {I : Bool → Bool → Act → World → Prop} (L : Bool → Bool → Array Bool) (x1 x2 fuel : Nat)
    (hl1 : ∀ b, (L false b).setIfInBounds x1 true = L true b) (hl2 : ∀ a, (L a false).setIfInBounds x2 true = L a true)
    (r0 : Region.ready .any ops (L false false) = [x1, x2]) (r1 : Region.ready .any ops (L true false) = [x2]) (r2 : Region.ready .any ops (L false true) = [x1])
    (hS : ∀ a b y w, I a b y w → S w)
    (s1 : ∀ b y w, I false b y w → ∀ K, (∀ y' w', I true b y' w' → K y' w') → wpOp P ops Q x1 K y w)
    (s2 : ∀ a y w, I a false y w → ∀ K, (∀ y' w', I a true y' w' → K y' w') → wpOp P ops Q x2 K y w)
    (fin : ∀ y w, I true true y w → wpAnyH P .any ops Q S fuel (L true true) y w)
    {y : Act} {w : World} (h : I false false y w) : wpAnyH P .any ops Q S (fuel + 2) (L false false) y w := by
  refine wpAnyH_all r0 (by simp) fun i hi => ?_
  simp only [List.mem_cons, List.not_mem_nil, or_false] at hi
  rcases hi with rfl | rfl
  · refine s1 _ y w h _ fun y' w' h' => ⟨hS _ _ _ _ h', ?_⟩
    rw [hl1]
    refine wpAnyH_all r1 (by simp) fun i hi => ?_
    simp only [List.mem_singleton] at hi
    subst hi
    exact s2 _ y' w' h' _ fun y' w' h' => ⟨hS _ _ _ _ h', by rw [hl2]; exact fin y' w' h'⟩
  · refine s2 _ y w h _ fun y' w' h' => ⟨hS _ _ _ _ h', ?_⟩
    rw [hl2]
    refine wpAnyH_all r2 (by simp) fun i hi => ?_
    simp only [List.mem_singleton] at hi
    subst hi
    exact s1 _ y' w' h' _ fun y' w' h' => ⟨hS _ _ _ _ h', by rw [hl1]; exact fin y' w' h'⟩
theorem anyH_tm {P : Program} {md : Region.Mode} {ops : Array Oper} {Q : Exit → Act → World → Prop} {S : World → Prop} {fu : Nat} {l : Array Bool} {w : World} {tm : Array Value} {df : List Deferred} (h : ∀ TM, TM = tm → wpAnyH P md ops Q S fu l ⟨TM, df⟩ w) : wpAnyH P md ops Q S fu l ⟨tm, df⟩ w := h _ rfl
theorem anyH_listed {P : Program} {md : Region.Mode} {ops : Array Oper} {Q : Exit → Act → World → Prop} {S : World → Prop} {fu : Nat} {l : Array Bool} {a : Act} {w : World} (l' : Array Bool) (e : l = l') (h : wpAnyH P md ops Q S fu l' a w) : wpAnyH P md ops Q S fu l a w := e ▸ h
theorem wpOp_call {P : Program} {ops : Array Oper} {Q : Exit → Act → World → Prop} {i d : Nat} {K : Act → World → Prop} {y : Act} {w : World} {o : Oper} {f : FuncId} {args : Array Value} (ho : ops[i]? = some o) (hd : o.dst = some d) (hw : Region.wanted o (yielded ops y.tmps) = true) (he : (execOp y.eval o).run P w = .ok (.enter f args) w)
    (hc : Calls P f args w fun e w' => ∃ v, e = .returned v ∧ K (y.put (some d) v) w') : wpOp P ops Q i K y w := by
  refine wpOp_of ho hw ?_
  unfold Oper.wp
  rw [he, Oper.upon_enter]
  refine hc.mono ?_
  rintro e w' ⟨v, rfl, h⟩
  rw [hd]
  exact h
theorem wpOp_val {P : Program} {ops : Array Oper} {Q : Exit → Act → World → Prop} {i d : Nat} {K : Act → World → Prop} {y : Act} {w w' : World} {o : Oper} {v : Value} (ho : ops[i]? = some o) (hd : o.dst = some d) (hw : Region.wanted o (yielded ops y.tmps) = true) (he : (execOp y.eval o).run P w = .ok (.value v) w')
    (hc : K (y.put (some d) v) w') : wpOp P ops Q i K y w := by
  refine wpOp_of ho hw ?_
  unfold Oper.wp
  rw [he, Oper.upon_value, hd]
  exact hc
theorem wp_strict {P : Program} {c : Code} {Q : Exit → Act → World → Prop} {a : Act} {w : World} (h : c.wp P (fun e a' w' => e = .normal ∧ Q .normal a' w') a w) : c.wp P Q a w := wp_mono h (by rintro e a w ⟨rfl, h⟩; exact h)
theorem era_put {tm : Array Value} {d : Nat} {v : Value} : ∀ {ns : List Nat}, d ∈ ns → era (tm.setIfInBounds d v) ns = era tm ns := by
  intro ns hd
  unfold era
  apply List.ext_getElem?
  intro j
  by_cases hj : j < tm.toList.length
  · rw [era_get _ _ _ (by simpa using hj), era_get _ _ _ hj]
    by_cases hm : j ∈ ns
    · simp [hm]
    · have : d ≠ j := fun e => hm (e ▸ hd)
      simp [hm, this]
  · rw [List.getElem?_eq_none (by rw [era_size]; simpa using hj), List.getElem?_eq_none (by rw [era_size]; omega)]
theorem era_out {tm tm' : Array Value} {ns : List Nat} (h : era tm' ns = era tm ns) {j : Nat} (hj : j ∉ ns) : tm'.getD j undef = tm.getD j undef := by
  unfold era at h
  have hs : tm'.toList.length = tm.toList.length := by have := congrArg List.length h; simpa [era_size] using this
  have := congrArg (·[j]?) h
  by_cases hl : j < tm.toList.length
  · simp only [era_get _ ns j hl, era_get tm'.toList ns j (by omega), if_neg hj] at this
    simp only [Array.getElem?_toList] at this
    simp only [Array.getD_eq_getD_getElem?, this]
  · have h1 : tm.size ≤ j := by simpa using hl
    have h2 : tm'.size ≤ j := by simp at hs; omega
    simp [Array.getD, Nat.not_lt.2 h1, Nat.not_lt.2 h2]
theorem era_len {tm tm' : Array Value} {ns : List Nat} (h : era tm' ns = era tm ns) : tm'.size = tm.size := by
  have := congrArg List.length h
  simpa [era, era_size] using this
theorem put_same {tm : Array Value} {d : Nat} {v : Value} (h : d < tm.size) : (tm.setIfInBounds d v).getD d undef = v := by simp [Array.getD_eq_getD_getElem?, h]
theorem put_other {tm : Array Value} {d j : Nat} {v : Value} (h : d ≠ j) : (tm.setIfInBounds d v).getD j undef = tm.getD j undef := by simp [Array.getD_eq_getD_getElem?, h]
end Go.Turn
namespace Go.Proofs.Yteainbnoemkfcaa
open Go.RowKit Go.Turn
structure Apart (rb1 sb1 rb2 sb2 cb : Nat) (w0 : World) : Prop where
  s12 : sb1 ≠ sb2
  r12 : rb1 ≠ sb2
  r21 : rb2 ≠ sb1
  c1 : cb ≠ sb1
  c2 : cb ≠ sb2
  c3 : cb ≠ rb1
  c4 : cb ≠ rb2
  l1 : sb1 < w0.heap.size
  l2 : sb2 < w0.heap.size
  l3 : cb < w0.heap.size
def AnsV (base : Nat) (a : Ans) (v : Value) (w : World) : Prop := ∃ lv, v = .agg #[.bool a.ok, .int .i64 a.n, lv] ∧ w.ownsRow base 2 1 lv a.ls.length (a.ls.map (Value.int .i64))
structure R14 (rb1 sb1 rb2 sb2 n cb : Nat) (w0 : World) (o : OpI) (s : RSt) (t : Nat) (f1 f2 f3 f4 : Bool) (v12 v13 v92 v100 : Value) (w : World) : Prop where
  r1 : RingAt w rb1 sb1 n (bif f1 then (doL n o s).2.1 else s).1 (bif f1 then (doL n o s).2.1 else s).2
  r2 : RingAt w rb2 sb2 n (bif f2 then (doL n o s).2.1 else s).1 (bif f2 then (doL n o s).2.1 else s).2
  cnt : (counts cb).at_ (bif f2 then t + (doL n o s).2.2 else t) w
  kept : Kept (fun b => b = sb1 ∨ b = sb2 ∨ b = cb) w0 w
  a1 : f1 = true → AnsV w0.heap.size (doL n o s).1 v92 w
  a2 : f2 = true → AnsV w0.heap.size (doL n o s).1 v100 w
  b1 : f3 = true → ∃ b, v12 = .pointer (some ⟨b, 0, none⟩) ∧ w0.heap.size ≤ b ∧ Blk w b 46 #[.bool false, .int .i64 0, .slice none 0 0]
  b2 : f4 = true → ∃ b, v13 = .pointer (some ⟨b, 0, none⟩) ∧ w0.heap.size ≤ b ∧ Blk w b 46 #[.bool false, .int .i64 0, .slice none 0 0]
  ne : f3 = true → f4 = true → v12 ≠ v13
theorem own_ne {w : World} {base : Nat} {e t : TypeId} {sz n b : Nat} {v : Value} {xs : List Value} {cs : Array Value} (h : w.ownsRow base e sz v n xs) (hb : Blk w b t cs) (ht : t ≠ e) : ∀ g, v.ownBlock = some g → g ≠ b := by
  intro g hg hgb
  rcases h.2 with ⟨e1, _⟩ | ⟨g', cap, cur, e1, _, k, _⟩
  · rw [e1] at hg; simp [Value.ownBlock] at hg
  · rw [e1] at hg
    simp only [Value.ownBlock, Option.some.injEq] at hg
    subst hg hgb
    rw [show w.heap[g']? = _ from hb] at k
    simp only [Option.some.injEq, Obj.cells.injEq] at k
    exact ht k.2.1
structure R15 (rb1 sb1 rb2 sb2 n cb : Nat) (w0 : World) (o : OpI) (s : RSt) (t : Nat) (b12 b13 : Nat) (l1A l2A : Option Addr) (l1c l2c : Nat) (w : World) : Prop where
  r1 : RingAt w rb1 sb1 n (doL n o s).2.1.1 (doL n o s).2.1.2
  r2 : RingAt w rb2 sb2 n (doL n o s).2.1.1 (doL n o s).2.1.2
  cnt : (counts cb).at_ (t + (doL n o s).2.2) w
  kept : Kept (fun b => b = sb1 ∨ b = sb2 ∨ b = cb) w0 w
  k1 : Blk w b12 46 #[.bool (doL n o s).1.ok, .int .i64 (doL n o s).1.n, .slice l1A (doL n o s).1.ls.length l1c]
  k2 : Blk w b13 46 #[.bool (doL n o s).1.ok, .int .i64 (doL n o s).1.n, .slice l2A (doL n o s).1.ls.length l2c]
  i1 : IntsAt w (.slice l1A (doL n o s).1.ls.length l1c) (doL n o s).1.ls
  i2 : IntsAt w (.slice l2A (doL n o s).1.ls.length l2c) (doL n o s).1.ls
  lo1 : w0.heap.size ≤ b12
  lo2 : w0.heap.size ≤ b13
section
variable {rb1 sb1 rb2 sb2 n cb : Nat} {w0 w : World} {o : OpI} {s : RSt} {t : Nat} {f1 f2 f3 f4 : Bool} {v12 v13 v92 v100 : Value}
theorem AnsV.kept {base : Nat} {a : Ans} {v : Value} {w w' : World} {Z : Nat → Prop} (h : AnsV base a v w) (hk : Kept Z w w') (hz : ∀ b, base ≤ b → ¬ Z b) : AnsV base a v w' := by
  obtain ⟨lv, e, ho⟩ := h
  exact ⟨lv, e, own_kept ho hk hz⟩
theorem R14.call1 (hs : Apart rb1 sb1 rb2 sb2 cb w0) (ha0 : -9223372036854775808 ≤ o.a) (ha1 : o.a < 9223372036854775808) (hb1 : o.b < 9223372036854775808) (hv : ∀ j, -9223372036854775808 ≤ s.2 j ∧ s.2 j < 9223372036854775808)
    (h : R14 rb1 sb1 rb2 sb2 n cb w0 o s t false false f3 f4 v12 v13 v92 v100 w) :
    Calls Try.prog 15 #[.pointer (some ⟨rb1, 0, none⟩), .nilIface, o.val] w fun e w' => ∃ v, e = .returned v ∧ R14 rb1 sb1 rb2 sb2 n cb w0 o s t true false f3 f4 v12 v13 v v100 w' := by
  refine (call_x Stepper.none slots_step_none 0 rb1 sb1 n s o ha0 ha1 hb1 w h.r1 hv trivial id id).mono ?_
  rintro e w' ⟨lv, rfl, ho, hr, hk, -⟩
  have hk1 : Kept (fun b => b = sb1) w w' := hk.mono fun b _ hb => hb.elim id fun z => z.elim
  have hz := h.kept.size
  refine ⟨_, rfl, hr, h.r2.kept hk1 hs.r21 (fun e => hs.s12 e.symm), (counts cb).keep h.cnt hk1 (fun b hb e => hs.c1 (hb.symm.trans e)), h.kept.trans (hk1.mono fun b _ e => .inl e), fun _ => ⟨lv, rfl, own_down ho hz⟩, (fun e => by cases e), fun e => ?_, fun e => ?_, h.ne⟩
  · obtain ⟨b, e1, e2, e3⟩ := h.b1 e
    exact ⟨b, e1, e2, e3.kept hk1 (fun z => by have := hs.l1; omega)⟩
  · obtain ⟨b, e1, e2, e3⟩ := h.b2 e
    exact ⟨b, e1, e2, e3.kept hk1 (fun z => by have := hs.l1; omega)⟩
theorem R14.call2 (hs : Apart rb1 sb1 rb2 sb2 cb w0) (ha0 : -9223372036854775808 ≤ o.a) (ha1 : o.a < 9223372036854775808) (hb1 : o.b < 9223372036854775808) (hv : ∀ j, -9223372036854775808 ≤ s.2 j ∧ s.2 j < 9223372036854775808)
    (h : R14 rb1 sb1 rb2 sb2 n cb w0 o s t true false f3 f4 v12 v13 v92 v100 w) :
    Calls Try.prog 15 #[.pointer (some ⟨rb2, 0, none⟩), .iface 40 (.pointer (some ⟨cb, 0, none⟩)), o.val] w fun e w' => ∃ v, e = .returned v ∧ R14 rb1 sb1 rb2 sb2 n cb w0 o s t true true f3 f4 v12 v13 v92 v w' := by
  refine (call_x (counts cb) (counts_steps cb) t rb2 sb2 n s o ha0 ha1 hb1 w h.r2 hv h.cnt (fun e => hs.c4 e.symm) (fun e => hs.c2 e.symm)).mono ?_
  rintro e w' ⟨lv, rfl, ho, hr, hk, hc⟩
  have hk1 : Kept (fun b => b = sb2 ∨ b = cb) w w' := hk
  have hz := h.kept.size
  have old : ∀ b, w0.heap.size ≤ b → ¬ (b = sb2 ∨ b = cb) := fun b hb e => by have := hs.l2; have := hs.l3; omega
  refine ⟨_, rfl, h.r1.kept hk1 (fun e => e.elim hs.r12 (fun z => hs.c3 z.symm)) (fun e => e.elim hs.s12 (fun z => hs.c1 z.symm)), hr, hc, h.kept.trans (hk1.mono fun b _ e => .inr e), fun e => (h.a1 e).kept hk1 old, fun _ => ⟨lv, rfl, own_down ho hz⟩, fun e => ?_, fun e => ?_, h.ne⟩
  · obtain ⟨b, e1, e2, e3⟩ := h.b1 e
    exact ⟨b, e1, e2, e3.kept hk1 (old b e2)⟩
  · obtain ⟨b, e1, e2, e3⟩ := h.b2 e
    exact ⟨b, e1, e2, e3.kept hk1 (old b e2)⟩
theorem R14.kept0 {w' : World} (h : R14 rb1 sb1 rb2 sb2 n cb w0 o s t f1 f2 f3 f4 v12 v13 v92 v100 w) (hk : Kept (fun _ => False) w w') : R14 rb1 sb1 rb2 sb2 n cb w0 o s t f1 f2 f3 f4 v12 v13 v92 v100 w' :=
  ⟨h.r1.kept hk id id, h.r2.kept hk id id, (counts cb).keep h.cnt hk (fun _ _ z => z), h.kept.trans (hk.mono fun b _ z => z.elim), fun e => (h.a1 e).kept hk (fun _ _ z => z), fun e => (h.a2 e).kept hk (fun _ _ z => z),
    fun e => by obtain ⟨b, e1, e2, e3⟩ := h.b1 e; exact ⟨b, e1, e2, e3.kept hk id⟩, fun e => by obtain ⟨b, e1, e2, e3⟩ := h.b2 e; exact ⟨b, e1, e2, e3.kept hk id⟩, h.ne⟩
theorem R14.alloc1 (h : R14 rb1 sb1 rb2 sb2 n cb w0 o s t f1 f2 false f4 v12 v13 v92 v100 w) :
    R14 rb1 sb1 rb2 sb2 n cb w0 o s t f1 f2 true f4 (.pointer (some ⟨w.heap.size, 0, none⟩)) v13 v92 v100 (w.alloc (.cells #[.bool false, .int .i64 0, .slice none 0 0] 46)) := by
  have g := h.kept0 (Kept.alloc w (.cells #[.bool false, .int .i64 0, .slice none 0 0] 46))
  refine ⟨g.r1, g.r2, g.cnt, g.kept, g.a1, g.a2, fun _ => ⟨_, rfl, h.kept.size, Blk.new w _ _⟩, g.b2, fun _ e z => ?_⟩
  obtain ⟨b, e1, e2, e3⟩ := h.b2 e
  rw [e1] at z
  simp only [Value.pointer.injEq, Option.some.injEq, Addr.mk.injEq, and_true] at z
  have := e3.lt
  omega
theorem R14.alloc2 (h : R14 rb1 sb1 rb2 sb2 n cb w0 o s t f1 f2 f3 false v12 v13 v92 v100 w) :
    R14 rb1 sb1 rb2 sb2 n cb w0 o s t f1 f2 f3 true v12 (.pointer (some ⟨w.heap.size, 0, none⟩)) v92 v100 (w.alloc (.cells #[.bool false, .int .i64 0, .slice none 0 0] 46)) := by
  have g := h.kept0 (Kept.alloc w (.cells #[.bool false, .int .i64 0, .slice none 0 0] 46))
  refine ⟨g.r1, g.r2, g.cnt, g.kept, g.a1, g.a2, g.b1, fun _ => ⟨_, rfl, h.kept.size, Blk.new w _ _⟩, fun e _ z => ?_⟩
  obtain ⟨b, e1, e2, e3⟩ := h.b1 e
  rw [e1] at z
  simp only [Value.pointer.injEq, Option.some.injEq, Addr.mk.injEq, and_true] at z
  have := e3.lt
  omega
theorem R14.stored {b12 b13 : Nat} {l1A l2A : Option Addr} {l1c l2c : Nat} (hs : Apart rb1 sb1 rb2 sb2 cb w0) (r1 : RingAt w rb1 sb1 n (doL n o s).2.1.1 (doL n o s).2.1.2) (r2 : RingAt w rb2 sb2 n (doL n o s).2.1.1 (doL n o s).2.1.2) (hl1 : rb1 < w0.heap.size) (hl2 : rb2 < w0.heap.size)
    (cnt : (counts cb).at_ (t + (doL n o s).2.2) w) (kept : Kept (fun b => b = sb1 ∨ b = sb2 ∨ b = cb) w0 w) (o1 : w.ownsRow w0.heap.size 2 1 (.slice l1A (doL n o s).1.ls.length l1c) (doL n o s).1.ls.length ((doL n o s).1.ls.map (Value.int .i64))) (o2 : w.ownsRow w0.heap.size 2 1 (.slice l2A (doL n o s).1.ls.length l2c) (doL n o s).1.ls.length ((doL n o s).1.ls.map (Value.int .i64)))
    (hb1 : w0.heap.size ≤ b12) (hb2 : w0.heap.size ≤ b13) (B1 : Blk w b12 46 #[.bool false, .int .i64 0, .slice none 0 0]) (B2 : Blk w b13 46 #[.bool false, .int .i64 0, .slice none 0 0]) {w' : World} (hk : Kept (fun b => b = b12 ∨ b = b13) w w')
    (k1 : Blk w' b12 46 #[.bool (doL n o s).1.ok, .int .i64 (doL n o s).1.n, .slice l1A (doL n o s).1.ls.length l1c]) (k2 : Blk w' b13 46 #[.bool (doL n o s).1.ok, .int .i64 (doL n o s).1.n, .slice l2A (doL n o s).1.ls.length l2c]) :
    R15 rb1 sb1 rb2 sb2 n cb w0 o s t b12 b13 l1A l2A l1c l2c w' := by
  have far : ∀ {v : Value} {xs : List Value} {m : Nat}, w.ownsRow w0.heap.size 2 1 v m xs → w'.ownsRow w0.heap.size 2 1 v m xs := fun h => own_same h fun g hg => hk.block g (h.lt g hg).2 (fun z => z.elim (own_ne h B1 (by decide) g hg) (own_ne h B2 (by decide) g hg))
  refine ⟨r1.kept hk (by omega) (by have := hs.l1; omega), r2.kept hk (by omega) (by have := hs.l2; omega), (counts cb).keep cnt hk (fun b hb z => ?_), kept.later hk (fun b z => by omega), k1, k2, IntsAt.of_own (far o1), IntsAt.of_own (far o2), hb1, hb2⟩
  have h3 := hs.l3
  have h4 : b = cb := hb
  omega
end
theorem doL_r64 {n : Nat} {o : OpI} {s : RSt} (hb0 : -9223372036854775808 ≤ o.b) (hb1 : o.b < 9223372036854775808) (hv : ∀ k, -9223372036854775808 ≤ s.2 k ∧ s.2 k < 9223372036854775808) : ∀ k, -9223372036854775808 ≤ (doL n o s).2.1.2 k ∧ (doL n o s).2.1.2 k < 9223372036854775808 := by
  unfold doL
  repeat' split
  all_goals first | exact hv | skip
  unfold putA
  split
  · intro k
    show -9223372036854775808 ≤ upd s.2 _ o.b k ∧ upd s.2 _ o.b k < 9223372036854775808
    unfold upd
    split
    · exact ⟨hb0, hb1⟩
    · exact hv k
  · exact hv
end Go.Proofs.Yteainbnoemkfcaa
namespace Go.Proofs.Yteainbnoemkfcaa
open Go.RowKit Go.Turn Go.Tame Go.Conc
def OpsW (B : Nat) (A : Option Addr) (ops : List OpI) (w : World) : Prop := ∀ j o, ops[j]? = some o → ∃ b f, A = some ⟨b, f, none⟩ ∧ b < B ∧ w.cell? ⟨b, f + j * 4, none⟩ = some (.int .i64 o.kind) ∧ w.cell? ⟨b, f + j * 4 + 1, none⟩ = some (.int .i64 o.a) ∧ w.cell? ⟨b, f + j * 4 + 2, none⟩ = some (.int .i64 o.b) ∧ w.cell? ⟨b, f + j * 4 + 3, none⟩ = some (.int .i64 o.c)
theorem OpsW.keep {B : Nat} {A : Option Addr} {ops : List OpI} {w w' : World} (h : OpsW B A ops w) (hk : ∀ b o v, b < B → w.cell? ⟨b, o, none⟩ = some v → w'.cell? ⟨b, o, none⟩ = some v) : OpsW B A ops w' := fun j o ho => by
  obtain ⟨b, f, h1, h2, h3, h4, h5, h6⟩ := h j o ho
  exact ⟨b, f, h1, h2, hk _ _ _ h2 h3, hk _ _ _ h2 h4, hk _ _ _ h2 h5, hk _ _ _ h2 h6⟩
theorem OpsW.old {B : Nat} {A : Option Addr} {ops : List OpI} {w w' : World} (h : OpsW B A ops w) (hk : Old B w w') : OpsW B A ops w' := h.keep fun b o v hb hc => (World.cell?_of_block (w := w) (a := ⟨b, o, none⟩) (hk.block b hb)).trans hc
structure TwoR (W : World) (A : Option Addr) (ops : List OpI) (rb1 sb1 rb2 sb2 n : Nat) (s : RSt) (w : World) : Prop where
  r1 : RingAt w rb1 sb1 n s.1 s.2
  r2 : RingAt w rb2 sb2 n s.1 s.2
  lo1 : W.heap.size ≤ sb1
  lo2 : W.heap.size ≤ sb2
  ne : sb1 ≠ sb2
  ne1 : rb1 ≠ sb2
  ne2 : rb2 ≠ sb1
  ops : OpsW W.heap.size A ops w
  io : w.os = W.os ∧ w.output = W.output
  size : W.heap.size ≤ w.heap.size
theorem TwoR.kept {W : World} {A : Option Addr} {ops : List OpI} {rb1 sb1 rb2 sb2 n : Nat} {s : RSt} {w w' : World} (h : TwoR W A ops rb1 sb1 rb2 sb2 n s w) (hk : Kept (fun _ => False) w w') : TwoR W A ops rb1 sb1 rb2 sb2 n s w' :=
  ⟨h.r1.kept hk id id, h.r2.kept hk id id, h.lo1, h.lo2, h.ne, h.ne1, h.ne2, h.ops.keep fun b o v hb hc => (World.cell?_of_block (w := w) (a := ⟨b, o, none⟩) (hk.block b (by have := h.size; omega) id)).trans hc, ⟨hk.os.trans h.io.1, hk.output.trans h.io.2⟩, Nat.le_trans h.size hk.size⟩
structure Want (w : World) (Aa : Option Addr) (ans : List Ans) (tv : Value) (sta : List Int) : Prop where
  row : ∃ b o rA rc, Aa = some ⟨b, o, none⟩ ∧ w.cell? ⟨b, o, none⟩ = some (.slice rA ans.length rc) ∧ ans.length ≤ maxLen ∧ ∀ i (h : i < ans.length), ∃ b2 o2 lv, rA = some ⟨b2, o2, none⟩ ∧ w.cell? ⟨b2, o2 + i * 3, none⟩ = some (.bool ans[i].ok) ∧ w.cell? ⟨b2, o2 + i * 3 + 1, none⟩ = some (.int .i64 ans[i].n) ∧ w.cell? ⟨b2, o2 + i * 3 + 2, none⟩ = some lv ∧ IntsAt w lv ans[i].ls ∧ ans[i].ls.length ≤ maxLen
  sta : IntsAt w tv sta ∧ sta.length ≤ maxLen
theorem want_of {w : World} {ans : Nat → List Ans} {ord sta : List Int} {Aa : Option Addr} {c : Nat} {ov tv : Value} (h : TraceAt w 1 ans ord sta Aa c ov tv) : Want w Aa (ans 0) tv sta := by
  obtain ⟨b, o, row, h1, h2, ⟨A, c, rfl, h3⟩, h4⟩ := h.row 0 (by omega)
  exact ⟨⟨b, o, A, c, h1, h2, h4, h3⟩, h.sta⟩
set_option maxRecDepth 100000 in
theorem ref_one (n : Nat) (hn : RightI (n : Int)) (A : Option Addr) (len cap : Nat) (ops : List OpI) (hl : len ≤ cap) (hc : cap ≤ maxLen) (hnil : A = none → cap = 0) (hol : ops.length = min len 65536) (hok : ∀ o ∈ ops, o.Ok ∧ R64 o.b) (w : World) (hop : OpsW w.heap.size A ops w) :
    Calls Try.prog 11 #[.slice (some ⟨w.heap.size, 0, none⟩) 1 1, .slice (some ⟨w.heap.size + 1, 0, none⟩) 1 1, .slice none 0 0, .int .i64 1048576] ((w.alloc (.cells #[.int .i64 (n : Int)] 2)).alloc (.cells #[.slice A len cap] 34)) fun e w' => ∃ Aa ca oA ol oc sA sl sc st, e = .returned (.agg #[.slice Aa 1 ca, .slice oA ol oc, .slice sA sl sc, .bool st]) ∧ Below (w.heap.size + 2) ((w.alloc (.cells #[.int .i64 (n : Int)] 2)).alloc (.cells #[.slice A len cap] 34)) w' ∧
      (1048576 < (runL n ops (begS n [] 0)).2.2 → st = true) ∧
      ((runL n ops (begS n [] 0)).2.2 ≤ 1048576 → st = false ∧ ol = (runL n ops (begS n [] 0)).2.2 ∧ sl = n + n ∧ n + n ≤ sc ∧
        ∀ wz : World, (∀ b, w.heap.size + 2 ≤ b → b < w'.heap.size → wz.heap[b]? = w'.heap[b]?) → Want wz Aa (runL n ops (begS n [] 0)).1 (.slice sA sl sc) (rowN (runL n ops (begS n [] 0)).2.1.1 n ++ rowN (runL n ops (begS n [] 0)).2.1.2 n)) := by
  have hB1 : Kept (fun _ => False) w ((w.alloc (.cells #[.int .i64 (n : Int)] 2)).alloc (.cells #[.slice A len cap] 34)) := (Kept.alloc _ _).trans (Kept.alloc _ _)
  have hsz : ((w.alloc (.cells #[.int .i64 (n : Int)] 2)).alloc (.cells #[.slice A len cap] 34)).heap.size = w.heap.size + 2 := by simp
  have hc0 : ((w.alloc (.cells #[.int .i64 (n : Int)] 2)).alloc (.cells #[.slice A len cap] 34)).cell? ⟨w.heap.size, 0, none⟩ = some (.int .i64 (n : Int)) := ((Blk.new w 2 #[.int .i64 (n : Int)]).alloc _).cell 0
  have hc1 : ((w.alloc (.cells #[.int .i64 (n : Int)] 2)).alloc (.cells #[.slice A len cap] 34)).cell? ⟨w.heap.size + 1, 0, none⟩ = some (.slice A len cap) := by
    have := (Blk.new (w.alloc (.cells #[.int .i64 (n : Int)] 2)) 34 #[.slice A len cap]).cell 0
    rw [World.size_alloc] at this
    exact this
  have hop2 : OpsW w.heap.size A ops ((w.alloc (.cells #[.int .i64 (n : Int)] 2)).alloc (.cells #[.slice A len cap] 34)) := hop.keep fun b o v hb h => (World.cell?_of_block (w := w) (a := ⟨b, o, none⟩) (hB1.block b hb id)).trans h
  generalize (w.alloc (.cells #[.int .i64 (n : Int)] 2)).alloc (.cells #[.slice A len cap] 34) = wp at hsz hc0 hc1 hop2 ⊢
  have hrun : RunIn wp (fun i => .slice A (min len 65536) cap) (fun _ => ops) 1 (some ⟨w.heap.size + 1, 0, none⟩) (w.heap.size + 1) 0 (fun _ => A) (fun _ => len) (fun _ => cap) none 0 [] :=
    ⟨by unfold maxLen; omega, fun _ => rfl, ⟨fun i hi => by have : i = 0 := by omega
                                                            subst this; exact hc1, fun _ _ => hl, fun _ _ => hc, fun _ _ => hnil⟩, fun _ _ => rfl,
      ⟨fun i hi => ⟨A, cap, by rw [hol]⟩, fun i hi j o ho => by
        obtain ⟨b, f, h1, h2, h3⟩ := hop2 j o ho
        exact ⟨b, f, cap, by rw [h1, hol], by omega, h3⟩⟩, fun _ _ => hol, fun i hi o ho => (hok o ho).1, fun i hi => by simp at hi, by unfold maxLen; simp⟩
  have hnums : NumsIn wp (some ⟨w.heap.size, 0, none⟩) 1 [(n : Int)] := ⟨by simp, by unfold maxLen; omega, fun i hi => by
    have : i = 0 := by simpa using hi
    subst this
    exact ⟨_, _, rfl, hc0⟩⟩
  have hr : ∀ x ∈ [(n : Int)], R64 x := fun x hx => by
    simp only [List.mem_singleton] at hx
    subst hx
    have := hn.2.1
    unfold R64; omega
  have key := refplay_new wp (fun i => .slice A (min len 65536) cap) [(n : Int)] (some ⟨w.heap.size, 0, none⟩) 1 hnums hr (by simp) 1 (some ⟨w.heap.size + 1, 0, none⟩) 1 (w.heap.size + 1) 0 none 0 [] 1048576 hrun (fun i hi o ho => (hok o ho).2)
  have hsole := sole_play n hn (fun _ => ops)
  have e1 : rnOf [(n : Int)] = n := (if_pos hn).trans (by simp)
  rw [e1] at key
  rw [show min 1 64 = 1 from rfl] at key
  generalize playS [(n : Int)] (fun _ => ops) 1 [] 1048576 = M at key hsole
  refine key.mono ?_
  rintro e w' ⟨Aa, ca, ov, tv, rfl, htr, hbel, hcap⟩
  rw [hsz] at htr hbel
  have h0 := htr w' fun _ _ _ => rfl
  obtain ⟨oA, oc, hov, -⟩ := h0.ord.1
  obtain ⟨sA, sc, hsv, -⟩ := h0.sta.1
  subst hov hsv
  refine ⟨Aa, ca, oA, _, oc, sA, _, sc, _, rfl, hbel, fun hN => by simpa using hsole.2 hN, fun hN => ?_⟩
  obtain ⟨s1, s2, s3, s4⟩ := hsole.1 hN
  refine ⟨by simp [s4], by rw [s3]; simp, by simp [rowN], by have := hcap _ _ _ rfl; simpa [rowN] using this, fun wz hz => ?_⟩
  have := want_of (htr wz hz)
  rw [s2] at this
  rw [← s1]
  exact this
theorem rd {P : Program} {ops : Array Oper} {md : Region.Mode} {Q : Exit → Act → World → Prop} {S : World → Prop} {listed : Array Bool} {a : Act} {w : World} (i fuel : Nat) (d : Tmp)
    (h : ∃ o, ops[i]? = some o ∧ o.dst = some d ∧ Region.noSelect ops = true ∧ Region.free md ops listed i = true ∧ (Region.ready md ops listed).contains i = true ∧ (∀ c a w, ¬ Q (.panic c) a w) ∧ Region.wanted o (yielded ops a.tmps) = true ∧ S w ∧
      ∃ v, (∀ wq, S wq → (execOp a.eval o).run P wq = .ok (.value v) wq) ∧ wpAnyH P md ops Q S fuel (listed.setIfInBounds i true) (a.put (some d) v) w) : wpAnyH P md ops Q S (fuel + 1) listed a w := by
  obtain ⟨o, h1, h2, h3, h4, h5, h6, h7, h8, h9⟩ := h
  exact wpAnyH_read (some d) h1 h2 h3 h4 h5 h6 h7 h8 h9
theorem kept_cell {w w' : World} (hk : Kept (fun _ => False) w w') {b o : Nat} {v : Value} (h : w.cell? ⟨b, o, none⟩ = some v) : w'.cell? ⟨b, o, none⟩ = some v := (World.cell?_of_block (w := w) (a := ⟨b, o, none⟩) (hk.block b (lt_of_cell h) id)).trans h
structure LoopS (W : World) (A : Option Addr) (ops : List OpI) (rb1 sb1 rb2 sb2 n cb : Nat) (w5 : World) (j : Nat) (s : RSt) (t : Nat) (w : World) : Prop where
  ans : (runL n (ops.drop j) s).1 = (runL n ops (begS n [] 0)).1.drop j
  end_ : (runL n (ops.drop j) s).2.1 = (runL n ops (begS n [] 0)).2.1
  num : t + (runL n (ops.drop j) s).2.2 = (runL n ops (begS n [] 0)).2.2
  r64 : ∀ k, -9223372036854775808 ≤ s.2 k ∧ s.2 k < 9223372036854775808
  two : TwoR W A ops rb1 sb1 rb2 sb2 n s w
  cnt : (counts cb).at_ t w
  kept : Kept (fun b => b = sb1 ∨ b = sb2 ∨ b = cb) w5 w
theorem LoopS.kept0 {W : World} {A : Option Addr} {ops : List OpI} {rb1 sb1 rb2 sb2 n cb : Nat} {w5 : World} {j : Nat} {s : RSt} {t : Nat} {w w' : World} (h : LoopS W A ops rb1 sb1 rb2 sb2 n cb w5 j s t w) (hk : Kept (fun _ => False) w w') : LoopS W A ops rb1 sb1 rb2 sb2 n cb w5 j s t w' :=
  ⟨h.ans, h.end_, h.num, h.r64, h.two.kept hk, (counts cb).keep h.cnt hk (fun _ _ z => z), h.kept.trans (hk.mono fun _ _ z => z.elim)⟩
theorem ints_take {w : World} {b o c n : Nat} {xs ys : List Int} (hx : xs.length = n) (h : IntsAt w (.slice (some ⟨b, o, none⟩) (n + n) c) (xs ++ ys)) : IntsAt w (.slice (some ⟨b, o, none⟩) n c) xs := by
  obtain ⟨A, c', e, hc⟩ := h
  simp only [Value.slice.injEq] at e
  obtain ⟨rfl, -, -⟩ := e
  refine ⟨_, c, by rw [hx], fun i hi => ?_⟩
  obtain ⟨b', o', e, h1, h2⟩ := hc i (by simp; omega)
  refine ⟨b', o', e, h1, h2.trans ?_⟩
  simp [List.getD_eq_getElem?_getD, List.getElem?_append_left hi]
theorem ints_drop {w : World} {b o c n : Nat} {xs ys : List Int} (hx : xs.length = n) (hy : ys.length = n) (h : IntsAt w (.slice (some ⟨b, o, none⟩) (n + n) c) (xs ++ ys)) (c2 : Nat) : IntsAt w (.slice (some ⟨b, o + n, none⟩) n c2) ys := by
  obtain ⟨A, c', e, hc⟩ := h
  simp only [Value.slice.injEq] at e
  obtain ⟨rfl, -, -⟩ := e
  refine ⟨_, c2, by rw [hy], fun i hi => ?_⟩
  obtain ⟨b', o', e, h1, h2⟩ := hc (n + i) (by simp; omega)
  cases e
  refine ⟨_, _, rfl, h1, ?_⟩
  rw [Nat.add_assoc, h2]
  simp [List.getD_eq_getElem?_getD, List.getElem?_append_right (show xs.length ≤ n + i by omega), hx]
theorem ans_two (w : World) (x : Ans) (v1 v2 : Value) (h1 : IntsAt w v1 x.ls) (h2 : IntsAt w v2 x.ls) (hm : x.ls.length ≤ maxLen) (t : TypeId) : AnsAt (w.alloc (.cells #[.bool x.ok, .int .i64 x.n, v1, .bool x.ok, .int .i64 x.n, v2] t)) (.slice (some ⟨w.heap.size, 0, none⟩) 2 2) [x, x] := by
  have B := Blk.new w t #[.bool x.ok, .int .i64 x.n, v1, .bool x.ok, .int .i64 x.n, v2]
  have K : Kept (fun _ => False) w (w.alloc (.cells #[.bool x.ok, .int .i64 x.n, v1, .bool x.ok, .int .i64 x.n, v2] t)) := Kept.alloc _ _
  refine ⟨some ⟨w.heap.size, 0, none⟩, 2, rfl, fun i hi => ?_⟩
  have hi' : i = 0 ∨ i = 1 := by simp at hi; omega
  rcases hi' with rfl | rfl
  · exact ⟨_, 0, v1, rfl, B.cell 0, B.cell 1, B.cell 2, h1.kept K (fun _ _ _ _ h => h), hm⟩
  · exact ⟨_, 0, v2, rfl, B.cell 3, B.cell 4, B.cell 5, h2.kept K (fun _ _ _ _ h => h), hm⟩
theorem runL_len (n : Nat) : ∀ (l : List OpI) (s : RSt), (runL n l s).1.length = l.length
  | [], s => rfl
  | o :: l, s => by simp [runL, runL_len n l]
set_option maxHeartbeats 1000000 in
set_option maxRecDepth 100000 in
theorem calls_true (W : World) (size : Int) (hs0 : -9223372036854775808 ≤ size) (A : Option Addr) (len cap : Nat) (ops : List OpI) (hl : len ≤ cap) (hc : cap ≤ maxLen) (hnil : A = none → cap = 0) (hol : ops.length = min len 65536) (hok : ∀ o ∈ ops, o.Ok ∧ R64 o.b) (hop : OpsW W.heap.size A ops W) :
    (lgA Try.tame (PostT (.bool true) W) W).T () (Frame.enter Try.prog 4 #[.int .i64 size, .slice A len cap] .normal) [] (seen0 W) := by
  have hop0 : OpsW W.heap.size A ops (seen0 W) := hop.keep fun b o v _ h => by rw [seen0_cell]; exact h
  have hs : ¬ (lgA Try.tame (PostT (.bool true) W) W).strict := fun h => h
  have hsz : (seen0 W).heap.size = W.heap.size := seen0_size W
  have hio : (seen0 W).os = W.os ∧ (seen0 W).output = W.output := seen0_io W
  clear hop
  generalize seen0 W = x at hop0 hsz hio ⊢
  rw [show Frame.enter Try.prog 4 #[.int .i64 size, .slice A len cap] .normal = Frame.at { (default : Frame) with fn := 4, kind := .normal } ⟨#[.int .i64 size, .slice A len cap] ++ Array.replicate (Try.f4.ntmps - 2) undef, []⟩ [.code (Try.f4.body.getD .skip)] from by simp [Frame.enter, Frame.at, Try.func4]; rfl]
  simp only [Try.f4, Option.getD_some, Nat.reduceSub, Array.replicate_succ, Array.replicate_zero, List.push_toArray, List.append_toArray, List.nil_append, List.cons_append]
  refine Lg.move _ (fun _ _ => step_seq) (fun h => h) ?_
  refine Lg.code fun K hK y τ n' hy => ?_
  subst hy
  go_wp2
  refine hK _ _ (fun h => absurd h hs) ?_
  clear hK K
  have hop1 : OpsW W.heap.size A ops y := hop0
  have hsz : y.heap.size = W.heap.size := hsz
  have hio : y.os = W.os ∧ y.output = W.output := hio
  clear hop0
  refine Lg.move _ (fun _ _ => step_seq) (fun h => h) ?_
  refine Lg.move _ (fun _ _ => step_seq) (fun h => h) ?_
  refine Lg.move _ (fun _ _ => step_region) (fun h => h) ?_
  refine Lg.call (i := 0) (rest := [1]) (f := 8) (args := #[]) rfl rfl (fun y => by go_simp) (fixed_true Try.tame (PostT (.bool true) W) W y (by omega)) ?_
  rintro vv t' w1 ⟨rfl, hk⟩
  have hop2 : OpsW W.heap.size A ops w1 := hop1.keep fun b o v hb hcc => kpt_cell hk hb hcc
  have hio2 : w1.os = W.os ∧ w1.output = W.output := ⟨hk.io.1.trans hio.1, hk.io.2.trans hio.2⟩
  have hsz2 : W.heap.size ≤ w1.heap.size := by have := hk.size; omega
  clear hop1 hk hio
  rw [Frame.finish_at]
  walk_nrm
  refine (show (lgA Try.tame (PostT (.bool true) W) W).T _ (Frame.at _ ⟨_, []⟩ (.inRegion _ (List.range' 1 (1 + 0)) :: _)) [] w1 from ?_)
  refine Lg.pre 1 1 0 (by simp) fun K hK q τ n' hq => ?_
  subst hq
  simp only [List.drop_succ_cons, List.drop_zero, List.take_succ_cons, List.take_zero]
  go_wp2
  refine hK _ _ (fun h => absurd h hs) ?_
  clear hK K
  have hop3 : OpsW W.heap.size A ops q := hop2
  have hio3 : q.os = W.os ∧ q.output = W.output := hio2
  have hsz3 : W.heap.size ≤ q.heap.size := hsz2
  clear hop2 hio2 hsz2
  refine Lg.move _ (fun _ _ => step_region_end) (fun h => h) ?_
  refine Lg.move _ (fun _ _ => step_cond (t := false) rfl) (fun h => h) ?_
  refine Lg.move _ (fun _ _ => step_skip) (fun h => h) ?_
  refine lgA_rest Try.tame rfl Try.func4 (by kernel_rfl) (fun tm w v h w' => ?_) fun u τ2 n2 hu => ?_
  · simp [results, Try.f4] at h ⊢
    exact h
  subst hu
  have hop4 : OpsW W.heap.size A ops u := hop3
  have hio4 : u.os = W.os ∧ u.output = W.output := hio3
  have hsz4 : W.heap.size ≤ u.heap.size := hsz3
  clear hop3 hio3 hsz3 hsz
  have HO := Lib.hid hop4
  have HI := Lib.hid hio4
  have HZ := Lib.hid hsz4
  have HK := Lib.hid hok
  have HL := Lib.hid hol
  have HN := Lib.hid hnil
  clear hop4 hio4 hsz4 hok hol hnil
  by_cases hR : RightI size
  · obtain ⟨n, rfl⟩ : ∃ n : Nat, size = n := ⟨size.toNat, by have := hR.1; omega⟩
    have hR' := hR
    obtain ⟨q1, q2, q3⟩ := hR'
    have hn0 : 0 < n := by omega
    have hn2 : n ≤ 65536 := by omega
    have HR := Lib.hid hR
    have HQ := Lib.hid q3
    clear hR q3 q1 q2
    have hd : decide (RightI (n : Int)) = true := decide_eq_true HR.out
    go_wp2_with fail
    refine (new_ok n u hn0 hn2 HQ.out).mono ?_
    rintro e w2 ⟨rfl, R1, B1, Z1⟩
    have HS1 := Lib.hid (And.intro R1 (And.intro B1 Z1))
    clear R1 B1 Z1
    go_wp2_with fail
    refine (new_ok n w2 hn0 hn2 HQ.out).mono ?_
    rintro e w3 ⟨rfl, R2, B2, Z2⟩
    obtain ⟨R1, B1, Z1⟩ := HS1.out
    have hop5 : OpsW W.heap.size A ops w3 := HO.out.keep fun b o v hb hcc => (World.cell?_of_block (w := w2) (a := ⟨b, o, none⟩) (B2.block b (by have := HZ.out; omega))).trans ((World.cell?_of_block (w := u) (a := ⟨b, o, none⟩) (B1.block b (by have := HZ.out; omega))).trans hcc)
    have ht3 : TwoR W A ops (u.heap.size + 1) u.heap.size (w2.heap.size + 1) w2.heap.size n (begS n [] 0) w3 := ⟨R1.kept (Kept.of_below (S := fun _ => False) B2) id id, R2, HZ.out, by have := HZ.out; omega, by omega, by omega, by omega, hop5, ⟨B2.os.trans (B1.os.trans HI.out.1), B2.output.trans (B1.output.trans HI.out.2)⟩, by have := HZ.out; omega⟩
    have HT := Lib.hid ht3
    clear ht3 hop5 R1 B1 Z1 R2 B2 Z2 HS1 HO HI HZ
    generalize u.heap.size + 1 = rb1 at *
    generalize u.heap.size = sb1 at *
    generalize w2.heap.size + 1 = rb2 at *
    generalize w2.heap.size = sb2 at *
    clear w2 u
    go_wp2_with (go_at_call 13; refine (refright_ok (n : Int) _ hs0).mono ?_; rintro e w' ⟨rfl, rfl⟩; rw [hd])
    have hone := ref_one n HR.out A len cap ops hl hc HN.out HL.out HK.out w3 (fun j o ho => by
      obtain ⟨b, f, h1, h2, h3⟩ := HT.out.ops j o ho
      exact ⟨b, f, h1, Nat.lt_of_lt_of_le h2 HT.out.size, h3⟩)
    have HONE := Lib.hid hone
    clear hone
    refine HONE.out.mono ?_
    rintro e w4 ⟨Aa, ca, oA, ol, oc, sA, sl, sc, st, rfl, hbel, hst, hgood⟩
    have hB1 : Kept (fun _ => False) w3 ((w3.alloc (.cells #[.int .i64 (n : Int)] 2)).alloc (.cells #[.slice A len cap] 34)) := (Kept.alloc _ _).trans (Kept.alloc _ _)
    have hB2 : Kept (fun _ => False) ((w3.alloc (.cells #[.int .i64 (n : Int)] 2)).alloc (.cells #[.slice A len cap] 34)) w4 := Kept.of_below (hbel.mono (by simp))
    have HT4 := Lib.hid (HT.out.kept (hB1.trans hB2))
    have hz4 : w3.heap.size + 2 ≤ w4.heap.size := by have := hbel.size; simp at this; omega
    have hlo : rb1 < w3.heap.size + 2 ∧ sb1 < w3.heap.size + 2 ∧ rb2 < w3.heap.size + 2 ∧ sb2 < w3.heap.size + 2 := ⟨by have := HT.out.r1.rlt; omega, by have := HT.out.r1.glt; omega, by have := HT.out.r2.rlt; omega, by have := HT.out.r2.glt; omega⟩
    obtain ⟨B, hBB⟩ : ∃ B, B = w3.heap.size + 2 := ⟨_, rfl⟩
    rw [← hBB] at hz4 hlo hgood
    have HLO := Lib.hid (And.intro hz4 hlo)
    clear hB1 hB2 hbel HT HONE hz4 hlo hBB
    by_cases hN : (runL n ops (begS n [] 0)).2.2 ≤ 1048576
    · obtain ⟨rfl, rfl, rfl, hsc, hw⟩ := hgood hN
      have HW := Lib.hid hw
      have HNN := Lib.hid hN
      clear hw hgood hst hN
      have hbx : Blk ((w4.alloc (.cells #[.slice Aa 1 ca, .slice oA (runL n ops (begS n [] 0)).2.2 oc, .slice sA (n + n) sc, .bool false] 31)).alloc (.cells #[.int .i64 0] 42)) w4.heap.size 31 #[.slice Aa 1 ca, .slice oA (runL n ops (begS n [] 0)).2.2 oc, .slice sA (n + n) sc, .bool false] := (Blk.new w4 31 _).alloc _
      have hcb : Blk ((w4.alloc (.cells #[.slice Aa 1 ca, .slice oA (runL n ops (begS n [] 0)).2.2 oc, .slice sA (n + n) sc, .bool false] 31)).alloc (.cells #[.int .i64 0] 42)) (w4.heap.size + 1) 42 #[.int .i64 0] := by
        have := Blk.new (w4.alloc (.cells #[.slice Aa 1 ca, .slice oA (runL n ops (begS n [] 0)).2.2 oc, .slice sA (n + n) sc, .bool false] 31)) 42 #[.int .i64 0]
        rw [World.size_alloc] at this
        exact this
      have hk5 : Kept (fun _ => False) w4 ((w4.alloc (.cells #[.slice Aa 1 ca, .slice oA (runL n ops (begS n [] 0)).2.2 oc, .slice sA (n + n) sc, .bool false] 31)).alloc (.cells #[.int .i64 0] 42)) := (Kept.alloc _ _).trans (Kept.alloc _ _)
      have HT5 := Lib.hid (HT4.out.kept hk5)
      have HB := Lib.hid (And.intro hbx hcb)
      have HKK := Lib.hid hk5
      clear hbx hcb hk5 HT4
      go_wp2_with fail
      have hlo9 : B ≤ w4.heap.size := HLO.out.1
      have HLO9 := Lib.hid hlo9
      clear hlo9
      have HWW := Lib.hid (fun (wz : World) (hz : Kept (fun b => b < B ∨ w4.heap.size ≤ b) ((w4.alloc (.cells #[.slice Aa 1 ca, .slice oA (runL n ops (begS n [] 0)).2.2 oc, .slice sA (n + n) sc, .bool false] 31)).alloc (.cells #[.int .i64 0] 42)) wz) => HW.out wz fun b hb1 hb2 => (hz.block b (Nat.lt_of_lt_of_le hb2 HKK.out.size) (by omega)).trans (HKK.out.block b hb2 id))
      clear HW HKK
      generalize (w4.alloc (.cells #[.slice Aa 1 ca, .slice oA (runL n ops (begS n [] 0)).2.2 oc, .slice sA (n + n) sc, .bool false] 31)).alloc (.cells #[.int .i64 0] 42) = w5 at *
      obtain ⟨cb, hcb⟩ : ∃ cb, w4.heap.size + 1 = cb := ⟨_, rfl⟩
      rw [hcb] at HB ⊢
      have HCB := Lib.hid hcb
      clear hcb
      generalize w4.heap.size = b9 at *
      clear w4
      have hr5 := HT5.out.r1.ring
      have hb3 := HB.out.1.cell 3
      simp at hb3
      go_wp2_with (go_at_call 14; refine (size_ring _ _ n _ _ hr5).mono ?_; rintro e w' ⟨rfl, rfl⟩)
      obtain ⟨⟨bA, oo, rA0, rc0, hAa, -⟩, -⟩ := HWW.out w5 (Kept.refl _ _)
      subst hAa
      obtain ⟨k, hk⟩ : ∃ k, ops.length = k := ⟨_, rfl⟩
      have hk2 : k ≤ 65536 := by have := HL.out; omega
      have HKL := Lib.hid hk
      clear hk hr5 hb3
      go_loopw [11] (fun i wr => ∃ (j : Nat) (s : RSt) (t : Nat), j ≤ k ∧ i = .int .i64 j ∧ LoopS W A ops rb1 sb1 rb2 sb2 n cb w5 j s t wr) (fun i _ => k - (intOf i).toNat)
      case atStart => exact ⟨0, begS n [] 0, 0, Nat.zero_le _, rfl, ⟨rfl, rfl, by simp, fun k => by simp [begS], HT5.out, HB.out.2, Kept.refl _ _⟩⟩
      case round =>
        obtain ⟨j, s, t, hj, rfl, hL⟩ := hrel
        have hwant := HWW.out wr (hL.kept.mono fun b _ hb => by
          have h1 := HLO.out
          have h2 := HCB.out
          rcases hb with rfl | rfl | rfl
          · exact .inl h1.2.2.1
          · exact .inl h1.2.2.2.2
          · exact .inr (by omega))
        obtain ⟨⟨b', o', rA, rc, e, hrow, -, hcells⟩, hsta⟩ := hwant
        cases e
        rw [runL_len, HKL.out] at hrow
        have hbox := HB.out.1.kept hL.kept (fun z => by
          have h1 := HLO.out
          have h2 := HCB.out
          have h3 := HLO9.out
          omega)
        have hb0 := hbox.cell 0
        simp at hb0
        have HLL := Lib.hid hL
        have HCC := Lib.hid (And.intro hcells (And.intro hsta hbox))
        clear hL hcells hsta hbox
        by_cases hlt : j < k
        · obtain ⟨o, ho⟩ : ∃ o, ops[j]? = some o := ⟨_, List.getElem?_eq_getElem (by have := HKL.out; omega)⟩
          obtain ⟨b, f, hA, hbW, c0, c1, c2, c3⟩ := HLL.out.two.ops j o ho
          subst hA
          have hjl : j < len := by have := HL.out; have := HKL.out; omega
          have HOO := Lib.hid (And.intro ho (And.intro hbW (And.intro c0 (And.intro c1 (And.intro c2 c3)))))
          clear ho hbW c0 c1 c2 c3
          go_wp2_with fail
          rename_i K0 hK0
          refine wp_strict ?_
          refine wp_region_held (S := fun wq => wq.cell? ⟨b, f + j * 4, none⟩ = some (.int .i64 o.kind) ∧ wq.cell? ⟨b, f + j * 4 + 1, none⟩ = some (.int .i64 o.a) ∧ wq.cell? ⟨b, f + j * 4 + 2, none⟩ = some (.int .i64 o.b) ∧ wq.cell? ⟨b, f + j * 4 + 3, none⟩ = some (.int .i64 o.c)) (by kernel_rfl) ?_
          have hS0 : (fun wq : World => wq.cell? ⟨b, f + j * 4, none⟩ = some (.int .i64 o.kind) ∧ wq.cell? ⟨b, f + j * 4 + 1, none⟩ = some (.int .i64 o.a) ∧ wq.cell? ⟨b, f + j * 4 + 2, none⟩ = some (.int .i64 o.b) ∧ wq.cell? ⟨b, f + j * 4 + 3, none⟩ = some (.int .i64 o.c)) { wr with drawn := wr.drawn + 1 } := HOO.out.2.2
          have HS0 := Lib.hid hS0
          clear hS0
          simp only [List.size_toArray, List.length_cons, List.length_nil, Nat.reduceAdd]
          iterate 12
            first
            | refine rd 0 17 87 ?_
            | refine rd 1 16 88 ?_
            | refine rd 2 15 89 ?_
            | refine rd 3 14 90 ?_
            | refine rd 4 13 91 ?_
            | refine rd 6 12 93 ?_
            | refine rd 7 11 94 ?_
            | refine rd 8 10 95 ?_
            | refine rd 9 9 96 ?_
            | refine rd 10 8 97 ?_
            | refine rd 11 7 98 ?_
            | refine rd 12 6 99 ?_
            refine ⟨_, rfl, rfl, by kernel_rfl, by kernel_rfl, by kernel_rfl, (fun c a w h => by cases h.1), rfl, HS0.out, ?_⟩
            apply Exists.intro
            refine ⟨fun wq hw => ?_, ?_⟩
            · obtain ⟨hw1, hw2, hw3, hw4⟩ := hw
              go_simp
              try rw [if_pos hjl]
              rfl
            simp only [Act.put, List.setIfInBounds_toArray, List.set_cons_zero, List.set_cons_succ]
          refine anyH_tm fun TM hTM => ?_
          refine anyH_listed #[true, true, true, true, true, false, true, true, true, true, true, true, true, false, false, false, false, false] (by kernel_rfl) ?_
          have t87 : TM.getD 87 undef = .pointer (some ⟨rb1, 0, none⟩) := by rw [hTM]; rfl
          have t91 : TM.getD 91 undef = .agg #[.int .i64 o.kind, .int .i64 o.a, .int .i64 o.b, .int .i64 o.c] := by rw [hTM]; rfl
          have t93 : TM.getD 93 undef = .pointer (some ⟨rb2, 0, none⟩) := by rw [hTM]; rfl
          have t95 : TM.getD 95 undef = .iface 40 (.pointer (some ⟨cb, 0, none⟩)) := by rw [hTM]; rfl
          have t99 : TM.getD 99 undef = .agg #[.int .i64 o.kind, .int .i64 o.a, .int .i64 o.b, .int .i64 o.c] := by rw [hTM]; rfl
          have tsz : TM.size = 196 := by rw [hTM]; rfl
          have HTM := Lib.hid hTM
          clear hTM
          have hok1 := HK.out o (List.mem_iff_getElem?.2 ⟨j, HOO.out.1⟩)
          have hap : Apart rb1 sb1 rb2 sb2 cb wr := by
            have h1 := HLO.out
            have h2 := HCB.out
            have h3 := HLO9.out
            have h4 := HLL.out.two
            have h5 := HLL.out.cnt
            have h6 : cb < wr.heap.size := Blk.lt h5
            exact ⟨h4.ne, h4.ne1, h4.ne2, by omega, by omega, by omega, by omega, h4.r1.glt, h4.r2.glt, h6⟩
          have h0 : R14 rb1 sb1 rb2 sb2 n cb wr o s t false false false false undef undef undef undef { wr with drawn := wr.drawn + 1 } :=
            ⟨HLL.out.two.r1.kept (Kept.drew (S := fun _ => False) wr) id id, HLL.out.two.r2.kept (Kept.drew (S := fun _ => False) wr) id id, (counts cb).keep HLL.out.cnt (Kept.drew (S := fun _ => False) wr) (fun _ _ z => z), Kept.drew wr, fun e => (by cases e), fun e => (by cases e), fun e => (by cases e), fun e => (by cases e), fun e => (by cases e)⟩
          have h0' : ∀ a b c d, R14 rb1 sb1 rb2 sb2 n cb wr o s t false false false false a b c d { wr with drawn := wr.drawn + 1 } := fun a b c d => ⟨h0.r1, h0.r2, h0.cnt, h0.kept, fun e => (by cases e), fun e => (by cases e), fun e => (by cases e), fun e => (by cases e), fun e => (by cases e)⟩
          have HAP := Lib.hid hap
          have H0 := Lib.hid h0'
          have HOK := Lib.hid hok1
          clear hap h0 h0' hok1 HS0
          have hz3 : ∀ bb, (bb = sb1 ∨ bb = sb2 ∨ bb = cb) → W.heap.size ≤ bb := fun bb z => by
            have h1 := HLL.out.two.lo1
            have h2 := HLL.out.two.lo2
            have h3 := HLO9.out
            have h4 := HLO.out
            have h5 := HCB.out
            omega
          have hsa : ∀ wq, Kept (fun bb => W.heap.size ≤ bb) wr wq → wq.cell? ⟨b, f + j * 4, none⟩ = some (.int .i64 o.kind) ∧ wq.cell? ⟨b, f + j * 4 + 1, none⟩ = some (.int .i64 o.a) ∧ wq.cell? ⟨b, f + j * 4 + 2, none⟩ = some (.int .i64 o.b) ∧ wq.cell? ⟨b, f + j * 4 + 3, none⟩ = some (.int .i64 o.c) := fun wq hk => by
            have old : ∀ (bb oo : Nat) v, bb < W.heap.size → wr.cell? ⟨bb, oo, none⟩ = some v → wq.cell? ⟨bb, oo, none⟩ = some v := fun bb oo v hb hc => (World.cell?_of_block (w := wr) (a := ⟨bb, oo, none⟩) (hk.block bb (Nat.lt_of_lt_of_le hb HLL.out.two.size) (by omega))).trans hc
            obtain ⟨-, hbW, c0, c1, c2, c3⟩ := HOO.out
            exact ⟨old _ _ _ hbW c0, old _ _ _ hbW c1, old _ _ _ hbW c2, old _ _ _ hbW c3⟩
          have HZ3 := Lib.hid hz3
          have HSA := Lib.hid hsa
          clear hz3 hsa
          refine game4 (fuel := 2) (x1 := 5) (x2 := 13) (x3 := 14) (x4 := 15) (L := fun a b c d => #[true, true, true, true, true, a, true, true, true, true, true, true, true, b, c, d, false, false])
            (I := fun f1 f2 f3 f4 y w => y.defers = [] ∧ era y.tmps [12, 13, 92, 100] = era TM [12, 13, 92, 100] ∧ R14 rb1 sb1 rb2 sb2 n cb wr o s t f1 f2 f3 f4 (y.tmps.getD 12 undef) (y.tmps.getD 13 undef) (y.tmps.getD 92 undef) (y.tmps.getD 100 undef) w)
            (fun _ _ => rfl) (fun _ _ => rfl) (fun _ _ _ => rfl) (fun _ _ _ => rfl) ?_ ?_ ?_ ?_ ?_ ?_ ?_ ?_ ?_ ?_ ⟨rfl, rfl, H0.out _ _ _ _⟩
          · intro c d; cases c <;> cases d <;> kernel_rfl
          · intro c d; cases c <;> cases d <;> kernel_rfl
          · intro d; cases d <;> kernel_rfl
          · kernel_rfl
          · rintro _ _ _ _ y w ⟨-, -, hr⟩
            exact HSA.out w (hr.kept.mono fun bb _ hb => HZ3.out bb hb)
          · rintro c d ⟨tm, df⟩ w ⟨hd, he, hr⟩ K hK
            dsimp only at hd he hr hK
            have e87 : tm.getD 87 undef = _ := (era_out he (by decide)).trans t87
            have e91 : tm.getD 91 undef = _ := (era_out he (by decide)).trans t91
            refine wpOp_call (f := 15) (args := #[.pointer (some ⟨rb1, 0, none⟩), .nilIface, .agg #[.int .i64 o.kind, .int .i64 o.a, .int .i64 o.b, .int .i64 o.c]]) rfl rfl rfl ?_ ?_
            · go_simp
            · refine (hr.call1 HAP.out HOK.out.1.1 HOK.out.1.2 HOK.out.2.2 HLL.out.r64).mono ?_
              rintro e w' ⟨v, rfl, hr'⟩
              refine ⟨v, rfl, hK _ _ ⟨hd, (era_put (by decide)).trans he, ?_⟩⟩
              have hsz := era_len he
              rw [tsz] at hsz
              show R14 _ _ _ _ _ _ _ _ _ _ _ _ _ _ ((tm.setIfInBounds 92 v).getD 12 undef) ((tm.setIfInBounds 92 v).getD 13 undef) ((tm.setIfInBounds 92 v).getD 92 undef) ((tm.setIfInBounds 92 v).getD 100 undef) w'
              rw [put_same (by omega), put_other (by decide), put_other (by decide), put_other (by decide)]
              exact hr'
          · rintro c d ⟨tm, df⟩ w ⟨hd, he, hr⟩ K hK
            dsimp only at hd he hr hK
            have e93 : tm.getD 93 undef = _ := (era_out he (by decide)).trans t93
            have e95 : tm.getD 95 undef = _ := (era_out he (by decide)).trans t95
            have e99 : tm.getD 99 undef = _ := (era_out he (by decide)).trans t99
            refine wpOp_call (f := 15) (args := #[.pointer (some ⟨rb2, 0, none⟩), .iface 40 (.pointer (some ⟨cb, 0, none⟩)), .agg #[.int .i64 o.kind, .int .i64 o.a, .int .i64 o.b, .int .i64 o.c]]) rfl rfl rfl ?_ ?_
            · go_simp
            · refine (hr.call2 HAP.out HOK.out.1.1 HOK.out.1.2 HOK.out.2.2 HLL.out.r64).mono ?_
              rintro e w' ⟨v, rfl, hr'⟩
              refine ⟨v, rfl, hK _ _ ⟨hd, (era_put (by decide)).trans he, ?_⟩⟩
              have hsz := era_len he
              rw [tsz] at hsz
              show R14 _ _ _ _ _ _ _ _ _ _ _ _ _ _ ((tm.setIfInBounds 100 v).getD 12 undef) ((tm.setIfInBounds 100 v).getD 13 undef) ((tm.setIfInBounds 100 v).getD 92 undef) ((tm.setIfInBounds 100 v).getD 100 undef) w'
              rw [put_same (by omega), put_other (by decide), put_other (by decide), put_other (by decide)]
              exact hr'
          · rintro c1 c2 d ⟨tm, df⟩ w ⟨hd, he, hr⟩ K hK
            dsimp only at hd he hr hK
            refine wpOp_val (v := .pointer (some ⟨w.heap.size, 0, none⟩)) (w' := w.alloc (.cells #[.bool false, .int .i64 0, .slice none 0 0] 46)) rfl rfl rfl (by go_simp) ?_
            refine hK _ _ ⟨hd, (era_put (by decide)).trans he, ?_⟩
            have hsz := era_len he
            rw [tsz] at hsz
            show R14 _ _ _ _ _ _ _ _ _ _ _ _ _ _ ((tm.setIfInBounds 12 _).getD 12 undef) ((tm.setIfInBounds 12 _).getD 13 undef) ((tm.setIfInBounds 12 _).getD 92 undef) ((tm.setIfInBounds 12 _).getD 100 undef) _
            rw [put_same (by omega), put_other (by decide), put_other (by decide), put_other (by decide)]
            exact hr.alloc1
          · rintro c1 c2 d ⟨tm, df⟩ w ⟨hd, he, hr⟩ K hK
            dsimp only at hd he hr hK
            refine wpOp_val (v := .pointer (some ⟨w.heap.size, 0, none⟩)) (w' := w.alloc (.cells #[.bool false, .int .i64 0, .slice none 0 0] 46)) rfl rfl rfl (by go_simp) ?_
            refine hK _ _ ⟨hd, (era_put (by decide)).trans he, ?_⟩
            have hsz := era_len he
            rw [tsz] at hsz
            show R14 _ _ _ _ _ _ _ _ _ _ _ _ _ _ ((tm.setIfInBounds 13 _).getD 12 undef) ((tm.setIfInBounds 13 _).getD 13 undef) ((tm.setIfInBounds 13 _).getD 92 undef) ((tm.setIfInBounds 13 _).getD 100 undef) _
            rw [put_same (by omega), put_other (by decide), put_other (by decide), put_other (by decide)]
            exact hr.alloc2
          · rintro ⟨tm, df⟩ w ⟨hd, he, hr⟩
            dsimp only at hd he hr
            obtain ⟨lv1, e92, ho1⟩ := hr.a1 rfl
            obtain ⟨lv2, e100, ho2⟩ := hr.a2 rfl
            obtain ⟨b12, e12, hb12, B12⟩ := hr.b1 rfl
            obtain ⟨b13, e13, hb13, B13⟩ := hr.b2 rfl
            have hne : b12 ≠ b13 := fun z => hr.ne rfl rfl (by rw [e12, e13, z])
            obtain ⟨l1A, l1c, rfl⟩ := own_slice ho1
            obtain ⟨l2A, l2c, rfl⟩ := own_slice ho2
            have htm := fill_era he
            simp only [fill, fillL] at htm
            rw [e92, e100, e12, e13, HTM.out] at htm
            simp only [List.set_cons_zero, List.set_cons_succ] at htm
            subst hd htm
            have HR := Lib.hid (And.intro hr.r1 (And.intro hr.r2 (And.intro hr.cnt (And.intro hr.kept (And.intro ho1 (And.intro ho2 (And.intro hb12 (And.intro hb13 (And.intro B12 (And.intro B13 hne))))))))))
            clear hr he ho1 ho2 hb12 hb13 B12 B13 hne e92 e100 e12 e13
            refine wpAnyH_one (i := 16) (fuel := 1) (by kernel_rfl) rfl rfl fun K hK' => ?_
            obtain ⟨-, -, -, hkp, -, -, hb12, hb13, B12, B13, hne⟩ := HR.out
            have hk1 : Kept (fun bb => bb = b12) w (((w.setCell ⟨b12, 0, none⟩ (.bool (doL n o s).1.ok)).setCell ⟨b12, 1, none⟩ (.int .i64 (doL n o s).1.n)).setCell ⟨b12, 2, none⟩ (.slice l1A (doL n o s).1.ls.length l1c)) := ((Kept.setCell _ (by rfl) _).trans (Kept.setCell _ (by rfl) _)).trans (Kept.setCell _ (by rfl) _)
            have B12' := ((B12.set_ 0 (.bool (doL n o s).1.ok)).set_ 1 (.int .i64 (doL n o s).1.n)).set_ 2 (.slice l1A (doL n o s).1.ls.length l1c)
            simp only [List.setIfInBounds_toArray, List.set_cons_zero, List.set_cons_succ] at B12'
            have B13' := B13.kept hk1 (fun z => hne z.symm)
            have c0 := B12.cell 0
            have c1 := B12.cell 1
            have c2 := B12.cell 2
            have z0 := B12.frozen 0
            have z1 := B12.frozen 1
            have z2 := B12.frozen 2
            simp at c0 c1 c2
            have HX := Lib.hid (And.intro hk1 (And.intro B12' B13'))
            clear hk1 B12' B13' hkp hb12 hb13 B12 B13 hne
            unfold Oper.wp
            go_simp
            refine hK' _ _ (HSA.out _ ?_) ?_
            · obtain ⟨-, -, -, hkp, -, -, hb12, hb13, -⟩ := HR.out
              exact (hkp.mono fun bb _ hb => HZ3.out bb hb).trans (HX.out.1.mono fun bb _ hb => by have := HLL.out.two.size; omega)
            clear hK' K c0 c1 c2 z0 z1 z2
            refine wpAnyH_one (i := 17) (fuel := 0) (by kernel_rfl) rfl rfl fun K hK' => ?_
            obtain ⟨hk1, B12', B13'⟩ := HX.out
            obtain ⟨-, -, -, -, -, -, -, -, -, -, hne⟩ := HR.out
            generalize hw1 : ((w.setCell ⟨b12, 0, none⟩ (.bool (doL n o s).1.ok)).setCell ⟨b12, 1, none⟩ (.int .i64 (doL n o s).1.n)).setCell ⟨b12, 2, none⟩ (.slice l1A (doL n o s).1.ls.length l1c) = w1 at hk1 B12' B13' ⊢
            have hk2 : Kept (fun bb => bb = b13) w1 (((w1.setCell ⟨b13, 0, none⟩ (.bool (doL n o s).1.ok)).setCell ⟨b13, 1, none⟩ (.int .i64 (doL n o s).1.n)).setCell ⟨b13, 2, none⟩ (.slice l2A (doL n o s).1.ls.length l2c)) := ((Kept.setCell _ (by rfl) _).trans (Kept.setCell _ (by rfl) _)).trans (Kept.setCell _ (by rfl) _)
            have B13'' := ((B13'.set_ 0 (.bool (doL n o s).1.ok)).set_ 1 (.int .i64 (doL n o s).1.n)).set_ 2 (.slice l2A (doL n o s).1.ls.length l2c)
            simp only [List.setIfInBounds_toArray, List.set_cons_zero, List.set_cons_succ] at B13''
            have B12'' := B12'.kept hk2 hne
            have c0 := B13'.cell 0
            have c1 := B13'.cell 1
            have c2 := B13'.cell 2
            have z0 := B13'.frozen 0
            have z1 := B13'.frozen 1
            have z2 := B13'.frozen 2
            simp at c0 c1 c2
            have hfin : R15 rb1 sb1 rb2 sb2 n cb wr o s t b12 b13 l1A l2A l1c l2c (((w1.setCell ⟨b13, 0, none⟩ (.bool (doL n o s).1.ok)).setCell ⟨b13, 1, none⟩ (.int .i64 (doL n o s).1.n)).setCell ⟨b13, 2, none⟩ (.slice l2A (doL n o s).1.ls.length l2c)) := by
              obtain ⟨g1, g2, g3, g4, g5, g6, g7, g8, g9, g10, -⟩ := HR.out
              exact R14.stored HAP.out g1 g2 HLL.out.two.r1.rlt HLL.out.two.r2.rlt g3 g4 g5 g6 g7 g8 g9 g10 ((hk1.mono fun _ _ e => .inl e).trans (hk2.mono fun _ _ e => .inr e)) B12'' B13''
            have hsaf := HSA.out _ (hfin.kept.mono fun bb _ hb => HZ3.out bb hb)
            have HF := Lib.hid (And.intro hfin hsaf)
            clear hk1 hk2 B12' B13' B13'' B12'' hne hfin hw1 hsaf HX HR
            unfold Oper.wp
            go_simp
            refine hK' _ _ HF.out.2 ?_
            clear hK' K c0 c1 c2 z0 z1 z2
            have HF := Lib.hid HF.out.1
            generalize World.setCell _ _ _ = w2 at HF ⊢
            refine wpAnyH_done (by kernel_rfl) ⟨rfl, ?_⟩ _
            refine hK0 _ _ ?_
            clear hK0 K0 HTM t87 t91 t93 t95 t99 tsz HSA HZ3 TM
            have hdrop : ops.drop j = o :: ops.drop (j + 1) := by
              obtain ⟨hlt', he'⟩ := List.getElem?_eq_some_iff.1 HOO.out.1
              rw [List.drop_eq_getElem_cons hlt', he']
            have hansj : (runL n ops (begS n [] 0)).1[j]? = some (doL n o s).1 := by
              have h1 := HLL.out.ans
              rw [hdrop] at h1
              have h2 := congrArg (·[0]?) h1
              simp only [runL, List.getElem?_cons_zero, List.getElem?_drop, Nat.add_zero] at h2
              exact h2.symm
            have hk2 : Kept (fun bb => bb = sb1 ∨ bb = sb2 ∨ bb = cb) w5 w2 := HLL.out.kept.trans HF.out.kept
            obtain ⟨⟨b', o', rA2, rc2, e, hrow2, -, hcells2⟩, -⟩ := HWW.out w2 (hk2.mono fun b _ hb => by
              have h1 := HLO.out
              have h2 := HCB.out
              rcases hb with rfl | rfl | rfl
              · exact .inl h1.2.2.1
              · exact .inl h1.2.2.2.2
              · exact .inr (by omega))
            cases e
            rw [runL_len, HKL.out] at hrow2
            obtain ⟨hjl2, hje⟩ := List.getElem?_eq_some_iff.1 hansj
            obtain ⟨b2, o2, lv3, e3, d0, d1, d2, d3, d4⟩ := hcells2 j hjl2
            rw [hje] at d0 d1 d3 d4
            subst e3
            obtain ⟨l3A, l3c, e3, hI3⟩ := d3
            subst e3
            have hbox2 := HB.out.1.kept hk2 (fun z => by
              have h1 := HLO.out
              have h2 := HCB.out
              have h3 := HLO9.out
              omega)
            have hb02 := hbox2.cell 0
            simp at hb02
            have a0 := HF.out.k1.cell 0
            have a1 := HF.out.k1.cell 1
            have a2 := HF.out.k1.cell 2
            have a3 := HF.out.k2.cell 0
            have a4 := HF.out.k2.cell 1
            have a5 := HF.out.k2.cell 2
            simp at a0 a1 a2 a3 a4 a5
            have HS := Lib.hid (And.intro hb02 (And.intro hrow2 (And.intro d0 (And.intro d1 (And.intro d2 (And.intro a0 (And.intro a1 (And.intro a2 (And.intro a3 (And.intro a4 a5))))))))))
            have HI3 := Lib.hid (show IntsAt w2 _ _ from ⟨l3A, l3c, rfl, hI3⟩)
            have HM3 := Lib.hid d4
            clear hb02 hrow2 d0 d1 d2 a0 a1 a2 a3 a4 a5 hbox2 hcells2 hI3 d4 hk2 hje hjl2 hansj hdrop
            go_wp2_with fail
            rename_i K0 hK0
            refine wp_strict ?_
            refine wp_region_held (S := Kept (fun _ => False) w2) (by kernel_rfl) ?_
            simp only [List.size_toArray, List.length_cons, List.length_nil, Nat.reduceAdd]
            iterate 16
              first
              | refine rd 0 19 101 ?_
              | refine rd 1 18 102 ?_
              | refine rd 3 17 104 ?_
              | refine rd 4 16 105 ?_
              | refine rd 5 15 106 ?_
              | refine rd 6 14 107 ?_
              | refine rd 7 13 108 ?_
              | refine rd 8 12 109 ?_
              | refine rd 9 11 110 ?_
              | refine rd 10 10 111 ?_
              | refine rd 11 9 112 ?_
              | refine rd 12 8 113 ?_
              | refine rd 13 7 114 ?_
              | refine rd 14 6 115 ?_
              | refine rd 15 5 116 ?_
              | refine rd 16 4 117 ?_
              refine ⟨_, rfl, rfl, by kernel_rfl, by kernel_rfl, by kernel_rfl, (fun c a w h => by cases h.1), rfl, (Kept.drew w2), ?_⟩
              apply Exists.intro
              refine ⟨fun wq hw => ?_, ?_⟩
              · obtain ⟨h1, h2, h3, h4, h5, h6, h7, h8, h9, h10, h11⟩ := HS.out
                have h1 := kept_cell hw h1
                have h2 := kept_cell hw h2
                have h3 := kept_cell hw h3
                have h4 := kept_cell hw h4
                have h5 := kept_cell hw h5
                have h6 := kept_cell hw h6
                have h7 := kept_cell hw h7
                have h8 := kept_cell hw h8
                have h9 := kept_cell hw h9
                have h10 := kept_cell hw h10
                have h11 := kept_cell hw h11
                go_simp
                try rw [if_pos hlt]
                rfl
              simp only [Act.put, List.setIfInBounds_toArray, List.set_cons_zero, List.set_cons_succ]
            refine anyH_tm fun TM hTM => ?_
            refine anyH_listed #[true, true, false, true, true, true, true, true, true, true, true, true, true, true, true, true, true, false, false, false] (by kernel_rfl) ?_
            have t101 : TM.getD 101 undef = .agg #[.bool (doL n o s).1.ok, .int .i64 (doL n o s).1.n, .slice l1A (doL n o s).1.ls.length l1c] := by rw [hTM]; rfl
            have t102 : TM.getD 102 undef = .agg #[.bool (doL n o s).1.ok, .int .i64 (doL n o s).1.n, .slice l2A (doL n o s).1.ls.length l2c] := by rw [hTM]; rfl
            have t110 : TM.getD 110 undef = .agg #[.bool (doL n o s).1.ok, .int .i64 (doL n o s).1.n, .slice l3A (doL n o s).1.ls.length l3c] := by rw [hTM]; rfl
            have t117 : TM.getD 117 undef = .agg #[.bool (doL n o s).1.ok, .int .i64 (doL n o s).1.n, .slice l3A (doL n o s).1.ls.length l3c] := by rw [hTM]; rfl
            have tsz : TM.size = 196 := by rw [hTM]; rfl
            have HTM := Lib.hid hTM
            clear hTM
            refine game2 (fuel := 2) (x1 := 2) (x2 := 17) (L := fun a b => #[true, true, a, true, true, true, true, true, true, true, true, true, true, true, true, true, true, b, false, false])
              (I := fun f1 f2 y w => y.defers = [] ∧ era y.tmps [103, 118] = era TM [103, 118] ∧ Kept (fun _ => False) w2 w ∧ (f1 = true → AnsAt w (y.tmps.getD 103 undef) [(doL n o s).1, (doL n o s).1]) ∧ (f2 = true → AnsAt w (y.tmps.getD 118 undef) [(doL n o s).1, (doL n o s).1]))
              (fun _ => rfl) (fun _ => rfl) (by kernel_rfl) (by kernel_rfl) (by kernel_rfl) (fun _ _ _ _ h => h.2.2.1) ?_ ?_ ?_ ⟨rfl, rfl, Kept.drew w2, (fun e => by cases e), (fun e => by cases e)⟩
            · rintro c ⟨tm, df⟩ w ⟨hd, he, hk, -, h2⟩ K hK
              dsimp only at hd he hK h2
              have e101 : tm[101]?.getD undef = _ := (Array.getD_eq_getD_getElem? ..).symm.trans ((era_out he (by decide)).trans t101)
              have e102 : tm[102]?.getD undef = _ := (Array.getD_eq_getD_getElem? ..).symm.trans ((era_out he (by decide)).trans t102)
              refine wpOp_val (v := .slice (some ⟨w.heap.size, 0, none⟩) 2 2) (w' := w.alloc (.cells #[.bool (doL n o s).1.ok, .int .i64 (doL n o s).1.n, .slice l1A (doL n o s).1.ls.length l1c, .bool (doL n o s).1.ok, .int .i64 (doL n o s).1.n, .slice l2A (doL n o s).1.ls.length l2c] 46)) rfl rfl rfl (by go_simp) ?_
              have hkA : Kept (fun _ => False) w _ := Kept.alloc w (.cells #[.bool (doL n o s).1.ok, .int .i64 (doL n o s).1.n, .slice l1A (doL n o s).1.ls.length l1c, .bool (doL n o s).1.ok, .int .i64 (doL n o s).1.n, .slice l2A (doL n o s).1.ls.length l2c] 46)
              refine hK _ _ ⟨hd, (era_put (by decide)).trans he, hk.trans hkA, fun _ => ?_, fun e => ?_⟩
              · have hsz := era_len he
                rw [tsz] at hsz
                show AnsAt _ ((tm.setIfInBounds 103 _).getD 103 undef) _
                rw [put_same (by omega)]
                exact ans_two w _ _ _ (HF.out.i1.kept hk (fun _ _ _ _ h => h)) (HF.out.i2.kept hk (fun _ _ _ _ h => h)) HM3.out _
              · show AnsAt _ ((tm.setIfInBounds 103 _).getD 118 undef) _
                rw [put_other (by decide)]
                exact (h2 e).below (hkA.to_below (fun _ z => z.elim) (Nat.le_refl _))
            · rintro c ⟨tm, df⟩ w ⟨hd, he, hk, h1, -⟩ K hK
              dsimp only at hd he hK h1
              have e110 : tm[110]?.getD undef = _ := (Array.getD_eq_getD_getElem? ..).symm.trans ((era_out he (by decide)).trans t110)
              have e117 : tm[117]?.getD undef = _ := (Array.getD_eq_getD_getElem? ..).symm.trans ((era_out he (by decide)).trans t117)
              refine wpOp_val (v := .slice (some ⟨w.heap.size, 0, none⟩) 2 2) (w' := w.alloc (.cells #[.bool (doL n o s).1.ok, .int .i64 (doL n o s).1.n, .slice l3A (doL n o s).1.ls.length l3c, .bool (doL n o s).1.ok, .int .i64 (doL n o s).1.n, .slice l3A (doL n o s).1.ls.length l3c] 46)) rfl rfl rfl (by go_simp) ?_
              have hkA : Kept (fun _ => False) w _ := Kept.alloc w (.cells #[.bool (doL n o s).1.ok, .int .i64 (doL n o s).1.n, .slice l3A (doL n o s).1.ls.length l3c, .bool (doL n o s).1.ok, .int .i64 (doL n o s).1.n, .slice l3A (doL n o s).1.ls.length l3c] 46)
              refine hK _ _ ⟨hd, (era_put (by decide)).trans he, hk.trans hkA, fun e => ?_, fun _ => ?_⟩
              · show AnsAt _ ((tm.setIfInBounds 118 _).getD 103 undef) _
                rw [put_other (by decide)]
                exact (h1 e).below (hkA.to_below (fun _ z => z.elim) (Nat.le_refl _))
              · have hsz := era_len he
                rw [tsz] at hsz
                show AnsAt _ ((tm.setIfInBounds 118 _).getD 118 undef) _
                rw [put_same (by omega)]
                exact ans_two w _ _ _ (HI3.out.kept hk (fun _ _ _ _ h => h)) (HI3.out.kept hk (fun _ _ _ _ h => h)) HM3.out _
            · rintro ⟨tm, df⟩ w ⟨hd, he, hk, h1, h2⟩
              dsimp only at hd he h1 h2
              have g1 := h1 rfl
              have g2 := h2 rfl
              clear h1 h2
              obtain ⟨v103, hv3⟩ : ∃ v, tm.getD 103 undef = v := ⟨_, rfl⟩
              obtain ⟨v118, hv8⟩ : ∃ v, tm.getD 118 undef = v := ⟨_, rfl⟩
              have htm := fill_era he
              simp only [fill, fillL] at htm
              rw [hv3, hv8, HTM.out] at htm
              rw [hv3] at g1
              rw [hv8] at g2
              simp only [List.set_cons_zero, List.set_cons_succ] at htm
              subst hd htm
              have HA := Lib.hid (And.intro hk (And.intro g1 g2))
              clear hk g1 g2 hv3 hv8 he
              refine wpAnyH_one (i := 18) (fuel := 1) (by kernel_rfl) rfl rfl fun K hK' => ?_
              unfold Oper.wp
              go_simp
              refine (answers_eq v103 v118 [(doL n o s).1, (doL n o s).1] w HA.out.2.1 HA.out.2.2 (by unfold maxLen; simp)).mono ?_
              rintro e w' ⟨rfl, kd, rfl⟩
              dsimp only
              refine hK' _ _ (HA.out.1.trans (Kept.drewN _ w kd)) ?_
              clear hK' K
              simp only [List.setIfInBounds_toArray, List.set_cons_zero, List.set_cons_succ]
              refine wpAnyH_one (i := 19) (fuel := 0) (by kernel_rfl) rfl rfl fun K hK' => ?_
              unfold Oper.wp
              go_simp
              refine hK' _ _ (HA.out.1.trans (Kept.drewN _ w kd)) ?_
              clear hK' K
              refine wpAnyH_done (by kernel_rfl) ⟨rfl, ?_⟩ _
              refine hK0 _ _ ?_
              clear hK0 K0 HTM t101 t102 t110 t117 tsz TM HS HI3 HM3
              have HA := Lib.hid (HA.out.1.trans (Kept.drewN _ w kd))
              generalize w.drewN kd = w6 at HA ⊢
              have hkw : Kept (fun bb => bb = sb1 ∨ bb = sb2 ∨ bb = cb) wr w6 := HF.out.kept.trans (HA.out.mono fun _ _ z => z.elim)
              have hrr1 := HF.out.r1.kept HA.out id id
              have hrr2 := HF.out.r2.kept HA.out id id
              have hcc6 := (counts cb).keep HF.out.cnt HA.out (fun _ _ z => z)
              have two6 : TwoR W (some ⟨b, f, none⟩) ops rb1 sb1 rb2 sb2 n (doL n o s).2.1 w6 := by
                have T := HLL.out.two
                refine ⟨hrr1, hrr2, T.lo1, T.lo2, T.ne, T.ne1, T.ne2, T.ops.keep fun bb oo v hb hc => (World.cell?_of_block (w := wr) (a := ⟨bb, oo, none⟩) (hkw.block bb (Nat.lt_of_lt_of_le hb T.size) (fun z => ?_))).trans hc, ⟨hkw.os.trans T.io.1, hkw.output.trans T.io.2⟩, Nat.le_trans T.size hkw.size⟩
                have h1 := T.lo1
                have h2 := T.lo2
                have h3 := HLO9.out
                have h4 := HLO.out
                have h5 := HCB.out
                have h6 : W.heap.size ≤ sb1 := h1
                omega
              have hdrop : ops.drop j = o :: ops.drop (j + 1) := by
                obtain ⟨hlt', he'⟩ := List.getElem?_eq_some_iff.1 HOO.out.1
                rw [List.drop_eq_getElem_cons hlt', he']
              have hokk := HK.out o (List.mem_iff_getElem?.2 ⟨j, HOO.out.1⟩)
              have hnext : LoopS W (some ⟨b, f, none⟩) ops rb1 sb1 rb2 sb2 n cb w5 (j + 1) (doL n o s).2.1 (t + (doL n o s).2.2) w6 := by
                have L := HLL.out
                have L1 := L.ans
                have L2 := L.end_
                have L3 := L.num
                rw [hdrop] at L1 L2 L3
                simp only [runL] at L1 L2 L3
                refine ⟨?_, L2, by omega, doL_r64 hokk.2.1 hokk.2.2 L.r64, two6, hcc6, L.kept.trans hkw⟩
                have := congrArg List.tail L1
                simpa [List.tail_drop] using this
              have HNX := Lib.hid hnext
              obtain ⟨b', f', e, -, -, c1, -, -⟩ := two6.ops j o HOO.out.1
              cases e
              have hrg := hrr1.ring
              have HOB := Lib.hid hokk
              clear hkw hrr1 hrr2 hcc6 two6 hdrop hokk hnext HA HF
              by_cases hG : GoodI o.a
              · have hd1 : decide (GoodI o.a) = true := decide_eq_true hG
                obtain ⟨g0, g1⟩ := hG
                go_wp2_with (go_at_call 17; refine (refgood_ok o.a _).mono ?_; rintro e w' ⟨rfl, rfl⟩; rw [hd1])
                go_quiet (fail)
                have hnx7 := HNX.out.kept0 (Kept.drewN _ w6 nq)
                have HNX7 := Lib.hid hnx7
                have c17 : (w6.drewN nq).cell? ⟨b, f + j * 4 + 1, none⟩ = _ := c1
                have hrg7 : (w6.drewN nq).cell? ⟨rb1, 0, none⟩ = _ := hrg
                clear hnx7 HNX c1 hrg
                generalize w6.drewN nq = w7 at HNX7 c17 hrg7 ⊢
                go_wp2_with (first | (go_at_call 18; refine (slot_yes _ _ n _ o.a _ hrg7 hn0 hn2 g0 g1).mono ?_; rintro e w' ⟨rfl, rfl⟩) | (go_at_call 19; refine (lap_yes _ _ n _ o.a _ hrg7 hn0 hn2 g0 g1).mono ?_; rintro e w' ⟨rfl, rfl⟩))
                go_roundw
                case rel => exact ⟨j + 1, _, _, by omega, by go_num, HNX7.out⟩
                case measure => simp [intOf]; omega
              · have hd1 : decide (GoodI o.a) = false := decide_eq_false hG
                have hbad : BadAt (some ⟨rb1, 0, none⟩) o.a w6 := bad_at ⟨rb1, 0, none⟩ _ _ _ o.a w6 hrg hG
                have HBD := Lib.hid hbad
                clear hbad hG
                go_wp2_with (first | (go_at_call 17; refine (refgood_ok o.a _).mono ?_; rintro e w' ⟨rfl, rfl⟩; rw [hd1]) | (go_at_call 18; refine (slot_bad HBD.out).mono ?_; rintro e w' ⟨rfl, rfl⟩) | (go_at_call 19; refine (lap_bad HBD.out).mono ?_; rintro e w' ⟨rfl, rfl⟩))
                go_roundw
                case rel => exact ⟨j + 1, _, _, by omega, by go_num, HNX.out⟩
                case measure => simp [intOf]; omega
        · have ej : j = k := by omega
          subst ej
          have hdr : ops.drop j = [] := List.drop_eq_nil_of_le (by rw [HKL.out]; exact Nat.le_refl _)
          have L := HLL.out
          have L2 := L.end_
          have L3 := L.num
          rw [hdr] at L2 L3
          simp only [runL, Nat.add_zero] at L2 L3
          have HEND := Lib.hid (And.intro L2 L3)
          clear L L2 L3 hdr
          go_wp2_with fail
          rename_i K0 hK0
          have hN := HNN.out
          have hbx := HCC.out.2.2
          have o1 := hbx.cell 1
          have o2 := hbx.cell 2
          simp at o1 o2
          obtain ⟨st1, st2⟩ := HCC.out.2.1
          have hsl : (rowN (runL n ops (begS n [] 0)).2.1.1 n ++ rowN (runL n ops (begS n [] 0)).2.1.2 n).length = n + n := by simp [rowN]
          obtain ⟨bS, oS, hsA⟩ : ∃ bS oS, sA = some ⟨bS, oS, none⟩ := by
            obtain ⟨A', c', e, hc'⟩ := st1
            obtain ⟨b', o', e', -, -⟩ := hc' 0 (by omega)
            simp only [Value.slice.injEq] at e
            exact ⟨b', o', e.1.trans e'⟩
          subst hsA
          have hct : Blk wr cb 42 #[.int .i64 (IntKind.wrap .i64 t)] := HLL.out.cnt
          have o3 := hct.cell 0
          simp only [List.getElem?_toArray, List.getElem?_cons_zero] at o3
          rw [HEND.out.2] at o3
          rw [show IntKind.wrap .i64 (((runL n ops (begS n [] 0)).2.2 : Nat) : Int) = ((runL n ops (begS n [] 0)).2.2 : Nat) from by rw [IntKind.wrap_i64]; omega] at o3
          have R1 := HLL.out.two.r1
          have R2 := HLL.out.two.r2
          have hio := HLL.out.two.io
          have hends := HEND.out.1
          rw [← hends] at st1
          clear hends
          generalize (runL n ops (begS n [] 0)).2.2 = NN at o1 o3 hN
          have HS := Lib.hid (And.intro o1 (And.intro o2 o3))
          have HRR := Lib.hid (And.intro R1 (And.intro R2 hio))
          have HST := Lib.hid st1
          clear o1 o2 o3 R1 R2 hio st1 st2 hbx hct hN hb0 hrow hsl
          refine wp_strict ?_
          refine wp_region_held (S := Kept (fun _ => False) wr) (by kernel_rfl) ?_
          simp only [List.size_toArray, List.length_cons, List.length_nil, Nat.reduceAdd]
          have hq1 : n ≤ sc := by omega
          have hq2 : n + n ≤ sc := hsc
          have hq3 : ¬ sc = n := by omega
          have hq4 : n ≤ n + n := by omega
          have hq5 : (n : Int) ≤ (n : Int) + (n : Int) := by omega
          have HW1 := Lib.hid (Kept.drew (S := fun _ => False) wr)
          have HW1 : Hid (Kept (fun _ => False) wr { wr with drawn := wr.drawn + 1 }) := HW1
          iterate 5
            first
            | refine rd 0 35 161 ?_
            | refine rd 2 34 163 ?_
            | refine rd 3 33 164 ?_
            | refine rd 4 32 165 ?_
            | refine rd 5 31 166 ?_
            refine ⟨_, rfl, rfl, by kernel_rfl, by kernel_rfl, by kernel_rfl, (fun c a w h => by cases h.1), rfl, HW1.out, ?_⟩
            apply Exists.intro
            refine ⟨fun wq hw => ?_, ?_⟩
            · obtain ⟨h1, h2, h3⟩ := HS.out
              have h1 := kept_cell hw h1
              have h2 := kept_cell hw h2
              have h3 := kept_cell hw h3
              go_simp
              try simp only [hq1, hq2, hq3, hq4, hq5, if_true, if_false]
              rfl
            simp only [Act.put, List.setIfInBounds_toArray, List.set_cons_zero, List.set_cons_succ]
          refine wpAnyH_one (i := 1) (fuel := 30) (by kernel_rfl) rfl rfl fun K hK' => ?_
          unfold Oper.wp
          go_simp
          refine (stamps_ok _ _ _ n s.1 s.2 (HRR.out.1.kept HW1.out id id)).mono ?_
          rintro e wn1 ⟨v1, rfl, ho, hB⟩
          have HV := Lib.hid (IntsAt.of_own ho)
          have HW2 : Hid (Kept (fun _ => False) wr wn1) := Lib.hid (HW1.out.trans (Kept.of_below hB))
          dsimp only
          refine hK' _ _ HW2.out ?_
          clear hK' K ho hB HW1
          have HW1 := HW2
          clear HW2
          try simp only [Act.put, List.setIfInBounds_toArray, List.set_cons_zero, List.set_cons_succ]
          refine wpAnyH_one (i := 6) (fuel := 29) (by kernel_rfl) rfl rfl fun K hK' => ?_
          unfold Oper.wp
          go_simp
          refine (numbers_eq _ _ (rowN s.1 n) _ HV.out (ints_take (rowN_len _ _) (HST.out.kept HW1.out (fun _ _ _ _ h => h))) (by unfold maxLen; rw [rowN_len]; omega)).mono ?_
          rintro e wn2 ⟨rfl, kd2, hkd2⟩
          have HW2 : Hid (Kept (fun _ => False) wr wn2) := Lib.hid (hkd2 ▸ HW1.out.trans (Kept.drewN _ _ kd2))
          dsimp only
          refine hK' _ _ HW2.out ?_
          clear hK' K hkd2 HW1 HV
          have HW1 := HW2
          clear HW2
          try simp only [Act.put, List.setIfInBounds_toArray, List.set_cons_zero, List.set_cons_succ]
          iterate 6
            first
            | refine rd 7 28 168 ?_
            | refine rd 8 27 169 ?_
            | refine rd 10 26 171 ?_
            | refine rd 11 25 172 ?_
            | refine rd 12 24 173 ?_
            | refine rd 13 23 174 ?_
            refine ⟨_, rfl, rfl, by kernel_rfl, by kernel_rfl, by kernel_rfl, (fun c a w h => by cases h.1), rfl, HW1.out, ?_⟩
            apply Exists.intro
            refine ⟨fun wq hw => ?_, ?_⟩
            · obtain ⟨h1, h2, h3⟩ := HS.out
              have h1 := kept_cell hw h1
              have h2 := kept_cell hw h2
              have h3 := kept_cell hw h3
              go_simp
              try simp only [hq1, hq2, hq3, hq4, hq5, if_true, if_false]
              rfl
            simp only [Act.put, List.setIfInBounds_toArray, List.set_cons_zero, List.set_cons_succ]
          refine wpAnyH_one (i := 9) (fuel := 22) (by kernel_rfl) rfl rfl fun K hK' => ?_
          unfold Oper.wp
          go_simp
          refine (values_ok _ _ _ n s.1 s.2 (HRR.out.1.kept HW1.out id id)).mono ?_
          rintro e wn3 ⟨v3, rfl, ho, hB⟩
          have HV := Lib.hid (IntsAt.of_own ho)
          have HW2 : Hid (Kept (fun _ => False) wr wn3) := Lib.hid (HW1.out.trans (Kept.of_below hB))
          dsimp only
          refine hK' _ _ HW2.out ?_
          clear hK' K ho hB HW1
          have HW1 := HW2
          clear HW2
          try simp only [Act.put, List.setIfInBounds_toArray, List.set_cons_zero, List.set_cons_succ]
          refine wpAnyH_one (i := 14) (fuel := 21) (by kernel_rfl) rfl rfl fun K hK' => ?_
          unfold Oper.wp
          go_simp
          refine (numbers_eq _ _ (rowN s.2 n) _ HV.out (ints_drop (rowN_len _ _) (rowN_len _ _) (HST.out.kept HW1.out (fun _ _ _ _ h => h)) _) (by unfold maxLen; rw [rowN_len]; omega)).mono ?_
          rintro e wn4 ⟨rfl, kd4, hkd4⟩
          have HW2 : Hid (Kept (fun _ => False) wr wn4) := Lib.hid (hkd4 ▸ HW1.out.trans (Kept.drewN _ _ kd4))
          dsimp only
          refine hK' _ _ HW2.out ?_
          clear hK' K hkd4 HW1 HV
          have HW1 := HW2
          clear HW2
          try simp only [Act.put, List.setIfInBounds_toArray, List.set_cons_zero, List.set_cons_succ]
          iterate 7
            first
            | refine rd 15 20 176 ?_
            | refine rd 16 19 177 ?_
            | refine rd 17 18 178 ?_
            | refine rd 19 17 180 ?_
            | refine rd 20 16 181 ?_
            | refine rd 21 15 182 ?_
            | refine rd 22 14 183 ?_
            refine ⟨_, rfl, rfl, by kernel_rfl, by kernel_rfl, by kernel_rfl, (fun c a w h => by cases h.1), rfl, HW1.out, ?_⟩
            apply Exists.intro
            refine ⟨fun wq hw => ?_, ?_⟩
            · obtain ⟨h1, h2, h3⟩ := HS.out
              have h1 := kept_cell hw h1
              have h2 := kept_cell hw h2
              have h3 := kept_cell hw h3
              go_simp
              try simp only [hq1, hq2, hq3, hq4, hq5, if_true, if_false]
              rfl
            simp only [Act.put, List.setIfInBounds_toArray, List.set_cons_zero, List.set_cons_succ]
          refine wpAnyH_one (i := 18) (fuel := 13) (by kernel_rfl) rfl rfl fun K hK' => ?_
          unfold Oper.wp
          go_simp
          refine (stamps_ok _ _ _ n s.1 s.2 (HRR.out.2.1.kept HW1.out id id)).mono ?_
          rintro e wn5 ⟨v5, rfl, ho, hB⟩
          have HV := Lib.hid (IntsAt.of_own ho)
          have HW2 : Hid (Kept (fun _ => False) wr wn5) := Lib.hid (HW1.out.trans (Kept.of_below hB))
          dsimp only
          refine hK' _ _ HW2.out ?_
          clear hK' K ho hB HW1
          have HW1 := HW2
          clear HW2
          try simp only [Act.put, List.setIfInBounds_toArray, List.set_cons_zero, List.set_cons_succ]
          refine wpAnyH_one (i := 23) (fuel := 12) (by kernel_rfl) rfl rfl fun K hK' => ?_
          unfold Oper.wp
          go_simp
          refine (numbers_eq _ _ (rowN s.1 n) _ HV.out (ints_take (rowN_len _ _) (HST.out.kept HW1.out (fun _ _ _ _ h => h))) (by unfold maxLen; rw [rowN_len]; omega)).mono ?_
          rintro e wn6 ⟨rfl, kd6, hkd6⟩
          have HW2 : Hid (Kept (fun _ => False) wr wn6) := Lib.hid (hkd6 ▸ HW1.out.trans (Kept.drewN _ _ kd6))
          dsimp only
          refine hK' _ _ HW2.out ?_
          clear hK' K hkd6 HW1 HV
          have HW1 := HW2
          clear HW2
          try simp only [Act.put, List.setIfInBounds_toArray, List.set_cons_zero, List.set_cons_succ]
          iterate 11
            first
            | refine rd 24 11 185 ?_
            | refine rd 25 10 186 ?_
            | refine rd 26 9 187 ?_
            | refine rd 27 8 188 ?_
            | refine rd 28 7 189 ?_
            | refine rd 29 6 190 ?_
            | refine rd 30 5 191 ?_
            | refine rd 31 4 192 ?_
            | refine rd 32 3 193 ?_
            | refine rd 33 2 194 ?_
            | refine rd 34 1 195 ?_
            refine ⟨_, rfl, rfl, by kernel_rfl, by kernel_rfl, by kernel_rfl, (fun c a w h => by cases h.1), rfl, HW1.out, ?_⟩
            apply Exists.intro
            refine ⟨fun wq hw => ?_, ?_⟩
            · obtain ⟨h1, h2, h3⟩ := HS.out
              have h1 := kept_cell hw h1
              have h2 := kept_cell hw h2
              have h3 := kept_cell hw h3
              go_simp
              try simp only [hq1, hq2, hq3, hq4, hq5, if_true, if_false]
              rfl
            simp only [Act.put, List.setIfInBounds_toArray, List.set_cons_zero, List.set_cons_succ]
          refine wpAnyH_one (i := 35) (fuel := 0) (by kernel_rfl) rfl rfl fun K hK' => ?_
          unfold Oper.wp
          go_simp
          refine hK' _ _ HW1.out ?_
          clear hK' K
          refine wpAnyH_done (by kernel_rfl) ⟨rfl, ?_⟩ _
          refine hK0 _ _ ?_
          clear hK0 K0
          go_wp2
          go_ret
          exact ⟨rfl, HW1.out.os.trans HRR.out.2.2.1, HW1.out.output.trans HRR.out.2.2.2⟩
    · obtain rfl := hst (by omega)
      have hk5 : Kept (fun _ => False) w4 ((w4.alloc (.cells #[.slice Aa 1 ca, .slice oA ol oc, .slice sA sl sc, .bool true] 31)).alloc (.cells #[.int .i64 0] 42)) := (Kept.alloc _ _).trans (Kept.alloc _ _)
      have HT5 := Lib.hid (HT4.out.kept hk5)
      have hr4 := HT5.out.r1.ring
      clear hN hgood hk5
      go_wp2_with (go_at_call 14; refine (size_ring _ _ n _ _ hr4).mono ?_; rintro e w' ⟨rfl, rfl⟩)
      go_ret
      exact ⟨rfl, HT5.out.io⟩
  · have HR := Lib.hid hR
    clear hR
    have hd : decide (RightI size) = false := decide_eq_false HR.out
    go_wp2_with (first | (go_at_call 12; refine (new_bad size _ HR.out hs0).mono ?_; rintro e w' ⟨rfl, rfl⟩) | (go_at_call 13; refine (refright_ok size _ hs0).mono ?_; rintro e w' ⟨rfl, rfl⟩; rw [hd]))
    go_ret
    exact ⟨rfl, HI.out⟩
end Go.Proofs.Yteainbnoemkfcaa
namespace Go.Proofs.Yteainbnoemkfcaa.slotsCalls
open Go.ChangeShapes Go.WideShapes Go.ChangeAt Go.RowKit Go.Deep Go.Turn
theorem own : ownKnob Try.prog.godebug = none := by kernel_rfl
theorem laidOut : laidOutB Try.prog = true := by kernel_rfl
set_option maxRecDepth 100000 in
theorem lifted (os : Os) (started : os.Started) (H : Type) (enc : TypeId × Value → H) :
    ReturnsInLeavingWide {} Try.checked os 4 .any (Rows.slotsCallsSpec.pre6 enc Try.prog Try.f4 Rows.slotsCallsRow.domain false) (Rows.slotsCallsSpec.post enc Try.prog Try.f4 false true false false) := by
  refine returnsInLeavingWide_of_change_sized (C := Try.checked) own started Try.func4
    (ChangeSpec.witness6 (enc := enc) (C := Try.checked) false ⟨#[], #[.int .i64 0, .slice none 0 0], []⟩ 8 (by kernel_rfl) (by kernel_rfl) (by kernel_rfl) (by kernel_rfl)) ?_
  intro W base args ds gs before hval0 hW _ _ _
  have hval : ∀ (j : Nat) t v, Try.f4.params[j]? = some t → args[j]? = some v → Value.okWide Try.prog W .any base t v := hval0
  have hW' := hW
  obtain ⟨p, q, hA0, hV, rfl, hfz, hnd⟩ := hW
  have hA : DataW.TrodAll enc Try.prog W 0 (fun _ => true) true Try.f4.params.toList args.toList ds p := hA0
  rw [Try.params4] at hA hval
  obtain ⟨v0, vs0, d0, ds0, p0, q0, hargs, rfl, rfl, h0, r0⟩ := trodAll_cons hA
  obtain ⟨v1, vs1, d1, ds1, p1, q1, rfl, rfl, rfl, h1, r1⟩ := trodAll_cons r0
  obtain ⟨rfl, rfl, rfl⟩ := trodAll_nil r1
  obtain rfl : args = #[v0, v1] := by cases args; simp_all
  obtain ⟨rfl, rfl⟩ := trodVars_none hV
  obtain ⟨a0, rfl, rfl, rfl, w0⟩ := open_int Try.underlying3 (hval 0 3 v0 rfl rfl) h0
  obtain ⟨B, n, cap, rfl⟩ := okWide_slice Try.underlying34 (hval 1 34 v1 rfl rfl)
  have h1k := h1
  have hlt : ∀ x ∈ p1, x.block < W.heap.size := fun x hx => by simpa using hW'.lt x (by simpa using hx)
  obtain ⟨fuel, h1⟩ := h1
  obtain ⟨A, len, cap', ops, hcs, hle, hmax, hnil, hol, hops⟩ := open_ops2 h1
  simp only [Value.cells, List.cons.injEq, and_true, Value.slice.injEq] at hcs
  obtain ⟨rfl, rfl, rfl⟩ := hcs
  simp only [List.append_nil] at hW'
  have b0 : -9223372036854775808 ≤ a0 := by
    have h := w0
    simp [Lit.wf, IntKind.min, IntKind.max, IntKind.signed, IntKind.bits] at h; omega
  obtain ⟨M, last, o, w', t', r1, r2, r3, r4⟩ := run_good Try.tame (calls_true W a0 b0 B n cap ops hle hmax hnil hol (fun o ho => by
    obtain ⟨j, hj⟩ := List.mem_iff_getElem?.1 ho
    obtain ⟨z1, z2, _⟩ := hops j o hj
    exact ⟨z1, z2⟩) (fun j o ho => (hops j o ho).2.2))
  refine ⟨M, last, o, w', t', r1, r2, r3, r4.mono fun v hF => ?_⟩
  have hb : Below W.heap.size W { w' with tape := W.tape } := ⟨hF.os, rfl, hF.output, hF.size, hF.old⟩
  obtain rfl := hF.val
  exact ⟨_, _, _, [], _, [], hW', trodAll_cons_mk (shut_bool Try.underlying4 _) trodAll_mk0,
    trodAll_cons_mk (shut_int Try.underlying3 w0) (trodAll_cons_mk ((Below.trod laidOut (by kernel_rfl) (of_decide_eq_true (by kernel_rfl)) h1k hb hlt).of_heap (by rfl)) trodAll_mk0), rfl, hF.frame _, fun h => by cases h⟩
theorem over : Rows.slotsCallsRow.holds Try.pinned (OpenSpec.ofChange Rows.slotsCallsSpec) :=
  OpenClaim.holds_of_wide_leaving 4 Try.f4 rfl rfl rfl rfl rfl rfl rfl ⟨rfl, rfl, rfl, rfl, rfl⟩ rfl rfl rfl rfl rfl (by kernel_rfl) Try.func4 (by kernel_rfl)
    (of_decide_eq_true (by kernel_rfl)) (by unfold Func.isWrapper; first | (rw [if_pos (by decide +kernel)]; kernel_rfl) | (rw [if_neg (by decide +kernel)]; exact ⟨rfl, rfl⟩))
    (fun os started H enc _ => lifted os started H enc)
theorem proved : Rows.SlotsCallsSaid := over
end Go.Proofs.Yteainbnoemkfcaa.slotsCalls
