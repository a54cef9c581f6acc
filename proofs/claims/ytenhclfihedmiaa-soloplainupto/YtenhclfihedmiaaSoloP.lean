/- DERIVED. What a Solo's state says of what was written and how far each reader is: kept by Write and Batch. Plain: no walk here. -/
import Derived.Test.YtenhclfihedmiaaSoloC
import Derived.Lib.SmallJoins
namespace Go.Proofs.Ytenhclfihedmiaa
open Go.RowKit

theorem leastN_le (f : Nat → Int) (k : Nat) {j : Nat} (h : j < k) : leastN f k ≤ f j := by
  induction k with
  | zero => omega
  | succ k ih =>
    simp only [leastN]
    by_cases e : j = k
    · subst e; split <;> omega
    · have := ih (by omega); split <;> omega
theorem leastN_is (f : Nat → Int) (k : Nat) : leastN f k = 4611686018427387904 ∨ ∃ j, j < k ∧ leastN f k = f j := by
  induction k with
  | zero => exact .inl rfl
  | succ k ih =>
    simp only [leastN]
    split
    · exact .inr ⟨k, by omega, rfl⟩
    · rcases ih with h | ⟨j, hj, h⟩
      · exact .inl h
      · exact .inr ⟨j, by omega, h⟩
/-- 'all' was written, in order; reader j has read the first 'rd j' of it. -/
structure Inv (I : Ids) (S : SoloSt) (all : List Int) (rd : Nat → Nat) : Prop where
  pos : 0 < I.n
  low : -1 ≤ S.cached
  next : S.next = all.length
  pub : S.published = (all.length : Int) - 1
  cur : S.cursor = (all.length : Int) - 1
  num : ∀ j, j < I.k → S.num j = (rd j : Int) - 1
  place : ∀ j, j < I.k → S.place j = (rd j : Int) - 1
  le : ∀ j, j < I.k → rd j ≤ all.length
  win : ∀ j, j < I.k → all.length ≤ rd j + I.n
  cached : ∀ j, j < I.k → S.cached ≤ (rd j : Int) - 1
  slot : ∀ q, q < all.length → all.length ≤ q + I.n → S.st (q % I.n) = 2 * ((q / I.n : Nat) : Int) ∧ S.va (q % I.n) = all.getD q 0
def fullB (I : Ids) (all : List Int) (rd : Nat → Nat) (c : Nat) : Prop := ∃ j, j < I.k ∧ rd j + I.n < all.length + c
theorem inv_zero {I : Ids} (h : 0 < I.n) : Inv I soloZero [] (fun _ => 0) := by
  refine ⟨h, Int.le_refl _, rfl, rfl, rfl, fun _ _ => rfl, fun _ _ => rfl, fun _ _ => Nat.le_refl _, fun _ _ => Nat.zero_le _, fun _ _ => Int.le_refl _, fun q hq => ?_⟩
  simp at hq
theorem Inv.full {I : Ids} {S : SoloSt} {all : List Int} {rd : Nat → Nat} (H : Inv I S all rd) {c : Nat} (h4 : (all.length : Int) + c ≤ 4611686018427387904) :
    (cach I S c < S.next + c - 1 - I.n ↔ fullB I all rd c) := by
  have hn := H.next
  have hpos := H.pos
  unfold cach fullB
  constructor
  · intro h
    split at h
    · rcases leastN_is S.num I.k with e | ⟨j, hj, e⟩
      · omega
      · exact ⟨j, hj, by have := H.num j hj; omega⟩
    · omega
  · rintro ⟨j, hj, h⟩
    have h1 := H.cached j hj
    have h2 := H.num j hj
    have h3 := leastN_le S.num I.k hj
    split <;> omega
theorem Inv.claimed {I : Ids} {S : SoloSt} {all : List Int} {rd : Nat → Nat} (H : Inv I S all rd) (c : Nat) : Inv I (claimS I S c) all rd := by
  refine ⟨H.pos, ?_, H.next, H.pub, H.cur, H.num, H.place, H.le, H.win, fun j hj => ?_, H.slot⟩
  · show -1 ≤ cach I S c
    unfold cach
    split
    · rcases leastN_is S.num I.k with e | ⟨j, hj, e⟩
      · omega
      · have := H.num j hj; omega
    · exact H.low
  show cach I S c ≤ _
  unfold cach
  split
  · have := leastN_le S.num I.k hj; have := H.num j hj; omega
  · exact H.cached j hj
theorem putN_slot (I : Ids) (S : SoloSt) (q : Nat) (v : Nat → Int) (c : Nat) (hc : c ≤ I.n) :
    (∀ i, i < c → (putN I S q v c).st ((q + i) % I.n) = 2 * (((q + i) / I.n : Nat) : Int) ∧ (putN I S q v c).va ((q + i) % I.n) = v i) ∧
    (∀ s, (∀ i, i < c → s ≠ (q + i) % I.n) → (putN I S q v c).st s = S.st s ∧ (putN I S q v c).va s = S.va s) := by
  induction c with
  | zero => exact ⟨fun i hi => by omega, fun s _ => ⟨rfl, rfl⟩⟩
  | succ c ih =>
    obtain ⟨h1, h2⟩ := ih (by omega)
    have em : (((q : Int) + (c : Nat)) % (I.n : Int)).toNat = (q + c) % I.n := by
      rw [show (q : Int) + (c : Nat) = ((q + c : Nat) : Int) from by omega, ← Int.natCast_emod]; rfl
    have ed : ((q : Int) + (c : Nat)) / (I.n : Int) = (((q + c) / I.n : Nat) : Int) := by
      rw [show (q : Int) + (c : Nat) = ((q + c : Nat) : Int) from by omega, ← Int.natCast_ediv]
    constructor
    · intro i hi
      simp only [putN, putS, em, ed]
      by_cases e : i = c
      · subst e; rw [upd_same, upd_same]; exact ⟨rfl, rfl⟩
      · have hne : (q + i) % I.n ≠ (q + c) % I.n := by
          intro e'
          have h1 := Nat.div_add_mod (q + i) I.n
          have h2 := Nat.div_add_mod (q + c) I.n
          rw [e'] at h1
          have h3 : I.n * ((q + c) / I.n) - I.n * ((q + i) / I.n) = c - i := by omega
          have h4 : I.n * ((q + c) / I.n - (q + i) / I.n) = c - i := by rw [Nat.mul_sub]; exact h3
          rcases Nat.eq_zero_or_pos ((q + c) / I.n - (q + i) / I.n) with h5 | h5
          · rw [h5] at h4; omega
          · have := Nat.mul_le_mul_left I.n h5; omega
        rw [upd_ne _ _ hne, upd_ne _ _ hne]
        exact h1 i (by omega)
    · intro s hs
      simp only [putN, putS, em, ed]
      rw [upd_ne _ _ (hs c (by omega)), upd_ne _ _ (hs c (by omega))]
      exact h2 s (fun i hi => hs i (by omega))
theorem mod_ne {n a b : Nat} (h1 : a < b) (h2 : b < a + n) : a % n ≠ b % n := by
  intro e
  have h3 := Nat.div_add_mod a n
  have h4 := Nat.div_add_mod b n
  rw [e] at h3
  have h5 : n * (b / n - a / n) = b - a := by rw [Nat.mul_sub]; omega
  rcases Nat.eq_zero_or_pos (b / n - a / n) with h6 | h6
  · rw [h6] at h5; omega
  · have := Nat.mul_le_mul_left n h6; omega
theorem Inv.written {I : Ids} {S : SoloSt} {all vs : List Int} {rd : Nat → Nat} (H : Inv I S all rd) {v : Nat → Int} (hv : ∀ i, i < vs.length → v i = vs.getD i 0) (h1 : 0 < vs.length) (h2 : vs.length ≤ I.n) (hf : ¬ fullB I all rd vs.length) : Inv I (writeS I S v vs.length) (all ++ vs) rd := by
  have hpos := H.pos
  have hn := H.next
  have hcl := (H.claimed vs.length).cached
  have pn := putN_next I { claimS I S vs.length with next := S.next + vs.length } S.next v vs.length
  have ps := putN_slot I { claimS I S vs.length with next := S.next + vs.length } all.length v vs.length h2
  rw [← hn] at ps
  have hw : ∀ j, j < I.k → all.length + vs.length ≤ rd j + I.n := fun j hj => by
    rcases Nat.lt_or_ge (rd j + I.n) (all.length + vs.length) with h | h
    · exact absurd ⟨j, hj, h⟩ hf
    · exact h
  refine ⟨hpos, ?_, ?_, ?_, ?_, fun j hj => ?_, fun j hj => ?_, fun j hj => ?_, fun j hj => ?_, fun j hj => ?_, fun q hq hq2 => ?_⟩
  · show -1 ≤ (putN I _ S.next v vs.length).cached
    rw [pn.2.2.1]; exact (H.claimed vs.length).low
  · show (putN I _ S.next v vs.length).next = _
    rw [pn.1, List.length_append]
    show S.next + (vs.length : Int) = _
    omega
  · show S.next + (vs.length : Int) - 1 = _
    rw [List.length_append]; omega
  · show S.next + (vs.length : Int) - 1 = _
    rw [List.length_append]; omega
  · show (putN I _ S.next v vs.length).num j = _
    rw [pn.2.2.2.2.1]; exact H.num j hj
  · show (putN I _ S.next v vs.length).place j = _
    rw [pn.2.2.2.2.2]; exact H.place j hj
  · have := H.le j hj; rw [List.length_append]; omega
  · have := hw j hj; rw [List.length_append]; omega
  · show (putN I _ S.next v vs.length).cached ≤ _
    rw [pn.2.2.1]; exact hcl j hj
  · rw [List.length_append] at hq hq2
    show (putN I _ S.next v vs.length).st _ = _ ∧ (putN I _ S.next v vs.length).va _ = _
    by_cases hlt : q < all.length
    · have := ps.2 (q % I.n) (fun i hi => by
        exact mod_ne (by omega) (by omega))
      rw [this.1, this.2]
      have h3 := H.slot q hlt (by omega)
      rw [List.getD_eq_getElem?_getD, List.getElem?_append_left hlt, ← List.getD_eq_getElem?_getD]
      exact h3
    · obtain ⟨i, rfl⟩ : ∃ i, q = all.length + i := ⟨q - all.length, by omega⟩
      have h3 := ps.1 i (by omega)
      rw [h3.1, h3.2, hv i (by omega)]
      refine ⟨rfl, ?_⟩
      rw [List.getD_eq_getElem?_getD, List.getD_eq_getElem?_getD, List.getElem?_append_right (by omega)]
      congr 2; omega
def bump (rd : Nat → Nat) (j m : Nat) : Nat → Nat := fun i => if i = j then rd j + m else rd i
theorem Inv.read {I : Ids} {S : SoloSt} {all : List Int} {rd : Nat → Nat} (H : Inv I S all rd) {j m : Nat} (hj : j < I.k) (hm : rd j + m ≤ all.length) : Inv I (readS S j m) all (bump rd j m) := by
  have hp := H.place j hj
  refine ⟨H.pos, H.low, H.next, H.pub, H.cur, fun i hi => ?_, fun i hi => ?_, fun i hi => ?_, fun i hi => ?_, fun i hi => ?_, H.slot⟩
  · show upd S.num j (S.place j + m) i = _
    unfold upd bump
    split
    · omega
    · exact H.num i hi
  · show upd S.place j (S.place j + m) i = _
    unfold upd bump
    split
    · omega
    · exact H.place i hi
  · have := H.le i hi; unfold bump; split <;> omega
  · have := H.win i hi; have := H.win j hj; unfold bump; split <;> omega
  · have := H.cached i hi; have := H.cached j hj; show S.cached ≤ _; unfold bump; split <;> omega
theorem Inv.vals {I : Ids} {S : SoloSt} {all : List Int} {rd : Nat → Nat} (H : Inv I S all rd) {j m : Nat} (hj : j < I.k) (hm : rd j + m ≤ all.length) :
    (∀ i, i < m → S.st ((S.place j + 1 + i) % I.n).toNat = 2 * ((S.place j + 1 + i) / I.n)) ∧ valsN S I.n (S.place j) m = (((all.drop (rd j)).take m).map (Value.int .i64)) := by
  have hp := H.place j hj
  have hw := H.win j hj
  have em : ∀ i : Nat, ((S.place j + 1 + i) % (I.n : Int)).toNat = (rd j + i) % I.n := fun i => by
    rw [show S.place j + 1 + (i : Int) = ((rd j + i : Nat) : Int) from by omega, ← Int.natCast_emod]; rfl
  have ed : ∀ i : Nat, (S.place j + 1 + (i : Int)) / (I.n : Int) = (((rd j + i) / I.n : Nat) : Int) := fun i => by
    rw [show S.place j + 1 + (i : Int) = ((rd j + i : Nat) : Int) from by omega, ← Int.natCast_ediv]
  refine ⟨fun i hi => ?_, ?_⟩
  · rw [em, ed]; exact (H.slot (rd j + i) (by omega) (by omega)).1
  · apply List.ext_getElem
    · simp [valsN]; omega
    · intro i h1 h2
      simp [valsN] at h1
      simp only [valsN, List.getElem_map, List.getElem_range, List.getElem_take, List.getElem_drop, em]
      rw [(H.slot (rd j + i) (by omega) (by omega)).2, List.getD_eq_getElem?_getD, List.getElem?_eq_getElem (by omega)]
      rfl

/-- A Solo that holds what was written, and how far each reader is. -/
def SoloIs (w : World) (I : Ids) (all : List Int) (rd : Nat → Nat) : Prop := ∃ S, SoloAt w I S ∧ Inv I S all rd
theorem SoloIs.kept {w w' : World} {I : Ids} {all : List Int} {rd : Nat → Nat} {Z : Nat → Prop} (H : SoloIs w I all rd) (hk : Kept Z w w') (h1 : ¬ Z I.so) (h2 : ¬ Z I.rb) (h3 : ¬ Z I.gb) (h4 : ¬ Z I.nb) (h5 : ¬ Z I.pb) : SoloIs w' I all rd :=
  let ⟨S, a, b⟩ := H; ⟨S, a.kept hk h1 h2 h3 h4 h5, b⟩
def WriteIs (X : Stepper) (t : Nat) (w : World) (I : Ids) (all vs : List Int) (rd : Nat → Nat) (e : Ending) (w' : World) : Prop :=
  (fullB I all rd vs.length ∧ e = .returned (.tuple #[.int .i64 0, .int .i64 3]) ∧ SoloIs w' I all rd ∧ (∃ l, l ≤ I.k ∧ X.at_ (t + l) w') ∨
   ¬ fullB I all rd vs.length ∧ e = .returned (.tuple #[.int .i64 (all.length : Int), .int .i64 0]) ∧ SoloIs w' I (all ++ vs) rd ∧ (∃ l, l ≤ I.k ∧ (all.length + vs.length ≤ I.n → l = 0) ∧ X.at_ (t + l + 3 * vs.length + 1) w')) ∧
  Kept (fun b => b = I.so ∨ b = I.gb ∨ X.own b) w w' ∧ w'.heap.size = w.heap.size
theorem write_is (X : Stepper) (t : Nat) (w : World) (I : Ids) (W : Walks X I) (all vs : List Int) (rd : Nat → Nat) (H : SoloIs w I all rd) (A : X.at_ t w) (v : Value) (hv : IntsAt w v vs) (h1 : 0 < vs.length) (h2 : vs.length ≤ I.n) (h4 : (all.length : Int) + vs.length ≤ 4611686018427387904)
    (hd : ∀ a n c, v = .slice (some a) n c → a.block ≠ I.so ∧ a.block ≠ I.gb ∧ ¬ X.own a.block) :
    Calls Try.prog 9 #[.pointer (some ⟨I.so, 0, none⟩), X.v, v] w (WriteIs X t w I all vs rd) := by
  obtain ⟨S, HS, HI⟩ := H
  obtain ⟨A', c, rfl, hcell⟩ := hv
  obtain ⟨b, o, rfl, hb, _⟩ := hcell 0 h1
  obtain ⟨d1, d2, d3⟩ := hd _ _ _ rfl
  have hn := HI.next
  have hp := HI.pub
  refine (solo_write X t w I S W HS A b o c vs.length (fun i => vs.getD i 0) h1 h2 (by omega) (by omega) (by omega) (fun i hi => ?_) d1 d2 d3 hb).mono ?_
  · obtain ⟨b', o', e, _, h⟩ := hcell i hi
    injection e with e; injection e with e1 e2; subst e1; subst e2
    exact h
  · have HF := HI.full h4
    have hl : looks I S vs.length ≤ I.k := by unfold looks; split <;> omega
    have hl0 : all.length + vs.length ≤ I.n → S.cached < S.next + vs.length - 1 - I.n → False := fun h h' => by have := HI.low; omega
    rintro e w' ⟨⟨t1, rfl, H1, a1⟩ | ⟨t1, rfl, H1, a1⟩, hk, hz⟩
    · exact ⟨.inl ⟨HF.1 t1, rfl, ⟨_, H1, HI.claimed _⟩, ⟨_, hl, a1⟩⟩, hk, hz⟩
    · refine ⟨.inr ⟨fun h => t1 (HF.2 h), by rw [hn], ⟨_, H1, HI.written (fun _ _ => rfl) h1 h2 (fun h => t1 (HF.2 h))⟩, ⟨_, hl, ?_, a1⟩⟩, hk, hz⟩
      intro h
      exact if_neg (fun h' => hl0 h h')
def BatchIs (X : Stepper) (t : Nat) (w : World) (I : Ids) (all : List Int) (rd : Nat → Nat) (j m : Nat) (e : Ending) (w' : World) : Prop :=
  ∃ v, e = .returned (.tuple #[v, .int .i64 0]) ∧ w'.ownsRow w.heap.size 2 1 v m (((all.drop (rd j)).take m).map (Value.int .i64)) ∧ SoloIs w' I all (bump rd j m) ∧ Kept (fun b => b = I.nb ∨ b = I.pb ∨ X.own b) w w' ∧ X.at_ (t + 3 * m + 2) w'
theorem batch_is (X : Stepper) (t : Nat) (w : World) (I : Ids) (W : Walks X I) (all : List Int) (rd : Nat → Nat) (H : SoloIs w I all rd) (A : X.at_ t w) (j m : Nat) (mo : Int) (hj : j < I.k) (hm : 0 < m) (h2 : rd j + m ≤ all.length) (h3 : (all.length : Int) ≤ 4611686018427387904)
    (hmo : m ≤ max mo 1) (hend : rd j + m = all.length ∨ max mo 1 = m) :
    Calls Try.prog 10 #[.pointer (some ⟨I.so, 0, none⟩), X.v, .int .i64 j, .int .i64 mo] w (BatchIs X t w I all rd j m) := by
  obtain ⟨S, HS, HI⟩ := H
  have hp := HI.place j hj
  have hc := HI.cur
  have hw := HI.win j hj
  have hv := HI.vals hj h2
  refine (solo_batch X t w I S W HS A j m mo hj hm (by omega) (by omega) (by omega) (by omega) hmo (hend.elim (fun e => .inl (by omega)) .inr) hv.1).mono ?_
  rintro e w' ⟨v, rfl, ho, hs, hk, ha⟩
  exact ⟨v, rfl, by rw [← hv.2]; exact ho, ⟨_, hs, HI.read hj h2⟩, hk, ha⟩
theorem batch_none (X : Stepper) (t : Nat) (w : World) (I : Ids) (W : Walks X I) (all : List Int) (rd : Nat → Nat) (H : SoloIs w I all rd) (A : X.at_ t w) (j : Nat) (mo : Int) (hj : j < I.k) (h2 : rd j = all.length) :
    Calls Try.prog 10 #[.pointer (some ⟨I.so, 0, none⟩), X.v, .int .i64 j, .int .i64 mo] w fun e w' => e = .returned (.tuple #[.slice none 0 0, .int .i64 4]) ∧ Kept X.own w w' ∧ SoloIs w' I all rd ∧ X.at_ (t + 1) w' := by
  obtain ⟨S, HS, HI⟩ := H
  have hp := HI.place j hj
  have hc := HI.cur
  refine (solo_batch_empty X t w I S W HS A j mo hj (by omega)).mono ?_
  rintro e w' ⟨rfl, hk, _, ha⟩
  exact ⟨rfl, hk, ⟨S, HS.stepped W hk, HI⟩, ha⟩
def StateIs (w : World) (I : Ids) (all : List Int) (rd : Nat → Nat) (e : Ending) (w' : World) : Prop :=
  ∃ v, e = .returned (.tuple #[.int .i64 (all.length : Int), .int .i64 ((all.length : Int) - 1), v]) ∧ w'.ownsRow w.heap.size 2 1 v I.k ((listN (fun j => (rd j : Int) - 1) I.k).map (Value.int .i64)) ∧ Below w.heap.size w w'
theorem state_is (w : World) (I : Ids) (all : List Int) (rd : Nat → Nat) (H : SoloIs w I all rd) : Calls Try.prog 12 #[.pointer (some ⟨I.so, 0, none⟩)] w (StateIs w I all rd) := by
  obtain ⟨S, HS, HI⟩ := H
  refine (solo_state w I S HS).mono ?_
  rintro e w' ⟨v, rfl, ho, hb⟩
  refine ⟨v, by rw [HI.next, HI.cur], ?_, hb⟩
  have : listN S.num I.k = listN (fun j => (rd j : Int) - 1) I.k := by
    apply List.map_congr_left
    intro j hj
    exact HI.num j (by simpa using hj)
  rw [← this]; exact ho
theorem read_is (X : Stepper) (t : Nat) (w : World) (I : Ids) (W : Walks X I) (all : List Int) (rd : Nat → Nat) (H : SoloIs w I all rd) (A : X.at_ t w) (j : Nat) (hj : j < I.k) (h2 : rd j + 1 ≤ all.length) (h3 : (all.length : Int) ≤ 4611686018427387904) :
    Calls Try.prog 15 #[.pointer (some ⟨I.so, 0, none⟩), X.v, .int .i64 j] w fun e w' => e = .returned (.tuple #[.int .i64 (all.getD (rd j) 0), .int .i64 0]) ∧ SoloIs w' I all (bump rd j 1) ∧ Kept (fun b => b = I.nb ∨ b = I.pb ∨ X.own b) w w' ∧ X.at_ (t + 5) w' := by
  have HH := Lib.hid H
  have HA := Lib.hid A
  clear H A
  go_enter Try.func15, Try.ntmps15
  go_wp2_with fail
  refine (batch_is X t w I W all rd HH.out HA.out j 1 1 hj (by omega) h2 h3 (by simp) (.inr (by simp))).mono ?_
  rintro e w' ⟨v, rfl, ho, hs, hk, ha⟩
  have he : (all.drop (rd j)).take 1 = [all.getD (rd j) 0] := by
    rw [List.drop_eq_getElem_cons (by omega), List.take_succ_cons, List.take_zero, List.getD_eq_getElem?_getD, List.getElem?_eq_getElem (by omega)]
    rfl
  rw [he] at ho
  obtain ⟨g, cap, rfl⟩ := Joins.ownsRow_form ho (by omega)
  have hc := ho.cellAt 0 (by omega)
  have HX := Lib.hid (And.intro hs (And.intro hk ha))
  simp only [List.map_cons, List.map_nil, List.getElem?_cons_zero] at hc
  clear ho he hs hk ha
  go_wp2
  go_ret2
  exact ⟨rfl, HX.out.1, HX.out.2.1, HX.out.2.2⟩
end Go.Proofs.Ytenhclfihedmiaa
