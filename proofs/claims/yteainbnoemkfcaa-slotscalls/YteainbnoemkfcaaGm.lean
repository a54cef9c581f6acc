/- DERIVED. The document's machine of layer 11, walked: a thread goes on to its next operation's first step; has a thread not ended. -/
import Derived.Test.YteainbnoemkfcaaGk
set_option linter.unusedVariables false
set_option linter.unusedSectionVars false
set_option linter.unusedSimpArgs false
namespace Go.Proofs.Yteainbnoemkfcaa
open Go.RowKit Go.Turn
open Go.ConcN (upd upd_ne upd_same)
namespace RM
def hire (m : RM) (l : List OpI) : RM := { m with n := m.n + 1, ops := upd m.ops m.n l, ans := upd m.ans m.n [], at_ := upd m.at_ m.n 0, pc := upd m.pc m.n 0, q := upd m.q m.n 0, x := upd m.x m.n 0, v := upd m.v m.n 0, seen := upd m.seen m.n [] }
def born (m : RM) (ops : Nat → List OpI) : Nat → RM
  | 0 => m
  | k + 1 => ((m.born ops k).hire (ops k)).settled (m.born ops k).n
theorem Ok.hire {m : RM} (h : m.Ok) {l : List OpI} (hn : m.n < 64) (hl : l.length ≤ 65536) (ho : ∀ o ∈ l, o.Ok) : (m.hire l).Ok where
  n := by show m.n + 1 ≤ 64; omega
  size := h.size
  len i hi := by
    by_cases e : i = m.n
    · subst e; show (upd m.ops _ l _).length ≤ _; rw [upd_same]; exact hl
    · show (upd m.ops _ l i).length ≤ _
      rw [upd_ne _ _ e]; exact h.len i (by have : i < m.n + 1 := hi; omega)
  at_ i hi := by
    by_cases e : i = m.n
    · subst e; show upd m.at_ _ 0 _ ≤ _; rw [upd_same]; exact Nat.zero_le _
    · show upd m.at_ _ 0 i ≤ (upd m.ops _ l i).length
      rw [upd_ne _ _ e, upd_ne _ _ e]; exact h.at_ i (by have : i < m.n + 1 := hi; omega)
  ans i hi := by
    by_cases e : i = m.n
    · subst e; show (upd m.ans _ [] _).length = upd m.at_ _ 0 _; rw [upd_same, upd_same]; rfl
    · show (upd m.ans _ [] i).length = upd m.at_ _ 0 i
      rw [upd_ne _ _ e, upd_ne _ _ e]; exact h.ans i (by have : i < m.n + 1 := hi; omega)
  op i hi := by
    by_cases e : i = m.n
    · subst e; show ∀ o ∈ upd m.ops _ l _, o.Ok; rw [upd_same]; exact ho
    · show ∀ o ∈ upd m.ops _ l i, o.Ok
      rw [upd_ne _ _ e]; exact h.op i (by have : i < m.n + 1 := hi; omega)
  live i hi hp := by
    by_cases e : i = m.n
    · subst e; exact absurd (show upd m.pc _ 0 _ = 0 from upd_same ..) hp
    · have hp' : m.pc i ≠ 0 := by rw [← upd_ne m.pc 0 e]; exact hp
      obtain ⟨o, h1, h2⟩ := h.live i (by have : i < m.n + 1 := hi; omega) hp'
      refine ⟨o, ?_, ?_⟩
      · show (upd m.ops _ l i)[upd m.at_ _ 0 i]? = some o
        rw [upd_ne _ _ e, upd_ne _ _ e]; exact h1
      · show GoodI o.a ∧ 1 ≤ o.kind ∧ o.kind ≤ 5 ∧ 0 < m.size ∧ GoodI (upd m.q _ 0 i) ∧ upd m.pc _ 0 i ≤ 3 ∧ (upd m.seen _ [] i).length < m.size
        rw [upd_ne _ _ e, upd_ne _ _ e, upd_ne _ _ e]; exact h2
theorem same_settled (m : RM) (i : Nat) : Same i m (m.settled i) := same_settle i _ m
theorem born_n (m : RM) (ops : Nat → List OpI) : ∀ k, (m.born ops k).n = m.n + k
  | 0 => rfl
  | k + 1 => by
    have := (same_settled ((m.born ops k).hire (ops k)) (m.born ops k).n).n
    show (((m.born ops k).hire (ops k)).settled (m.born ops k).n).n = _
    rw [this]
    show (m.born ops k).n + 1 = _
    rw [born_n m ops k]; omega
theorem born_size (m : RM) (ops : Nat → List OpI) : ∀ k, (m.born ops k).size = m.size
  | 0 => rfl
  | k + 1 => ((same_settled ((m.born ops k).hire (ops k)) (m.born ops k).n).size).trans (born_size m ops k)
theorem born_X (m : RM) (ops : Nat → List OpI) : ∀ k, (m.born ops k).X = m.X
  | 0 => rfl
  | k + 1 => ((same_settled ((m.born ops k).hire (ops k)) (m.born ops k).n).X).trans (born_X m ops k)
theorem born_ops {m : RM} (hm : m.n = 0) (ops : Nat → List OpI) : ∀ k i, i < k → (m.born ops k).ops i = ops i
  | 0, i, h => by omega
  | k + 1, i, h => by
    have e := (same_settled ((m.born ops k).hire (ops k)) (m.born ops k).n).ops
    show (((m.born ops k).hire (ops k)).settled (m.born ops k).n).ops i = _
    rw [e]
    show upd (m.born ops k).ops (m.born ops k).n (ops k) i = _
    rw [born_n, hm, Nat.zero_add]
    by_cases hi : i = k
    · subst hi; exact upd_same ..
    · rw [upd_ne _ _ hi]; exact born_ops hm ops k i (by omega)
theorem Ok.born {m : RM} (h : m.Ok) (hm : m.n = 0) {ops : Nat → List OpI} {n : Nat} (hn : n ≤ 64) (hl : ∀ i, i < n → (ops i).length ≤ 65536) (ho : ∀ i, i < n → ∀ o ∈ ops i, o.Ok) : ∀ k, k ≤ n → (m.born ops k).Ok
  | 0, _ => h
  | k + 1, hk => by
    have h1 : ((m.born ops k).hire (ops k)).Ok := Ok.hire (Ok.born h hm hn hl ho k (by omega)) (by rw [born_n]; omega) (hl k (by omega)) (ho k (by omega))
    exact Ok.settle _ h1 (by show (m.born ops k).n < (m.born ops k).n + 1; omega)
theorem same_does (m : RM) (i : Nat) : Same i m (m.does i) := by
  unfold RM.does
  split
  · exact (same_step _ _ _).trans (same_settled _ _)
  · exact Same.refl _ _
theorem Ok.does {m : RM} {i : Nat} (h : m.Ok) (hi : i < m.n) (hpc : m.pc i ≠ 0) : (m.does i).Ok := by
  unfold RM.does
  split
  · rename_i o ho
    exact Ok.settle _ (h.step hi hpc ho) (by rw [(same_step m i o).n]; exact hi)
  · exact h
end RM
structure RRun where
  m : RM
  order : List Int
namespace RRun
def may (c : RRun) (most : Nat) (i : Int) : Prop := 0 ≤ i ∧ i < c.m.n ∧ c.m.pc i.toNat ≠ 0 ∧ c.order.length < most
instance (c : RRun) (most : Nat) (i : Int) : Decidable (c.may most i) := by unfold may; infer_instance
def turn (most : Nat) (c : RRun) (i : Int) : RRun := if c.may most i then ⟨c.m.does i.toNat, c.order ++ [i]⟩ else c
def turns (most : Nat) (c : RRun) (l : List Int) : RRun := l.foldl (turn most) c
def all (n : Nat) : List Int := (List.range n).map (fun (i : Nat) => (i : Int))
def rounds (most : Nat) : Nat → RRun → RRun
  | 0, c => c
  | f + 1, c => if c.m.left = true ∧ c.order.length < most then rounds most f (c.turns most (all c.m.n)) else c
theorem turns_snoc (most : Nat) (c : RRun) (l : List Int) (i : Int) : c.turns most (l ++ [i]) = (c.turns most l).turn most i := by simp [turns]
theorem turn_yes {most : Nat} {c : RRun} {i : Int} (h : c.may most i) : c.turn most i = ⟨c.m.does i.toNat, c.order ++ [i]⟩ := if_pos h
theorem turn_no {most : Nat} {c : RRun} {i : Int} (h : ¬ c.may most i) : c.turn most i = c := if_neg h
theorem turns_full {most : Nat} {c : RRun} (h : most ≤ c.order.length) : ∀ l, c.turns most l = c
  | [] => rfl
  | i :: l => by
    show (c.turn most i).turns most l = c
    rw [turn_no (fun z => by have := z.2.2.2; omega)]
    exact turns_full h l
theorem turns_len (most : Nat) : ∀ (l : List Int) (c : RRun), c.order.length ≤ (c.turns most l).order.length ∧ ((c.turns most l).order.length = c.order.length → ∀ i ∈ l, ¬ c.may most i)
  | [], c => ⟨Nat.le_refl _, fun _ i hi => by cases hi⟩
  | i :: l, c => by
    obtain ⟨h1, h2⟩ := turns_len most l (c.turn most i)
    show c.order.length ≤ ((c.turn most i).turns most l).order.length ∧ (((c.turn most i).turns most l).order.length = c.order.length → _)
    by_cases hm : c.may most i
    · have e : (c.turn most i).order.length = c.order.length + 1 := by rw [turn_yes hm]; simp
      exact ⟨by omega, fun z => by omega⟩
    · rw [turn_no hm] at h1 h2 ⊢
      refine ⟨h1, fun z j hj => ?_⟩
      rcases List.mem_cons.1 hj with rfl | hj
      · exact hm
      · exact h2 z j hj
theorem left_some {m : RM} (h : m.left = true) : ∃ i, i < m.n ∧ m.pc i ≠ 0 := by
  unfold RM.left at h
  obtain ⟨i, hi, hp⟩ := List.any_eq_true.1 h
  exact ⟨i, List.mem_range.1 hi, of_decide_eq_true hp⟩
theorem round_goes {most : Nat} {c : RRun} (h : c.m.left = true) (hl : c.order.length < most) : c.order.length < (c.turns most (all c.m.n)).order.length := by
  obtain ⟨h1, h2⟩ := turns_len most (all c.m.n) c
  rcases Nat.lt_or_eq_of_le h1 with h3 | h3
  · exact h3
  · obtain ⟨i, hi, hp⟩ := left_some h
    exact absurd ⟨by omega, by omega, by simpa using hp, hl⟩ (h2 h3.symm (i : Int) (List.mem_map.2 ⟨i, List.mem_range.2 hi, rfl⟩))
theorem turn_most {most : Nat} {c : RRun} (h : c.order.length ≤ most) (i : Int) : (c.turn most i).order.length ≤ most := by
  by_cases hm : c.may most i
  · rw [turn_yes hm]; simp; exact hm.2.2.2
  · rw [turn_no hm]; exact h
theorem turn_ok {most : Nat} {c : RRun} (h : c.m.Ok) (i : Int) : (c.turn most i).m.Ok ∧ (c.turn most i).m.n = c.m.n ∧ (c.turn most i).m.ops = c.m.ops ∧ (c.turn most i).m.X = c.m.X ∧ (c.turn most i).m.size = c.m.size := by
  by_cases hm : c.may most i
  · rw [turn_yes hm]
    have hi : i.toNat < c.m.n := by have := hm.1; have := hm.2.1; omega
    have hs := RM.same_does c.m i.toNat
    exact ⟨h.does hi hm.2.2.1, hs.n, hs.ops, hs.X, hs.size⟩
  · rw [turn_no hm]; exact ⟨h, rfl, rfl, rfl, rfl⟩
theorem rounds_stop {most f : Nat} {c : RRun} (h : ¬ (c.m.left = true ∧ c.order.length < most)) : rounds most f c = c := by
  cases f with
  | zero => rfl
  | succ f => simp only [rounds, if_neg h]
theorem rounds_go {most f : Nat} {c : RRun} (h : c.m.left = true ∧ c.order.length < most) : rounds most (f + 1) c = rounds most f (c.turns most (all c.m.n)) := by
  simp only [rounds, if_pos h]
end RRun
def refRun (m : RM) (ops : Nat → List OpI) (n most : Nat) (xs : List Int) : RRun := RRun.rounds most most ((⟨m.born ops n, []⟩ : RRun).turns most xs)
end Go.Proofs.Yteainbnoemkfcaa
namespace Go.Proofs.Yteainbnoemkfcaa
open Go.RowKit Go.Turn
open Go.ConcN (upd upd_ne upd_same)
def cellNat (w : World) (a : Addr) : Nat := match w.cell? a with | some (.int _ n) => n.toNat | _ => 0
theorem cellNat_eq {w : World} {a : Addr} {k : IntKind} {n : Int} (h : w.cell? a = some (.int k n)) : cellNat w a = n.toNat := by unfold cellNat; rw [h]
def remOf (w : World) (mb i : Nat) : Nat := match w.cell? ⟨mb, 3, none⟩ with | some (.slice (some a) _ _) => 2 * (70000 - cellNat w ⟨a.block, i * 9 + 3, none⟩) + (if cellNat w ⟨a.block, i * 9 + 4, none⟩ = 0 then 1 else 0) | _ => 0
section
variable {B mb : Nat} {oV : Nat → Value} {st : RM}
theorem remOf_eq {w : World} (h : RMem B mb oV st w) {i : Nat} (hi : i < st.n) : remOf w mb i = 2 * (70000 - st.at_ i) + if st.pc i = 0 then 1 else 0 := by
  obtain ⟨V, h⟩ := h
  obtain ⟨tb, tc, hT, _, _⟩ := tb_of h (by omega)
  have c3 := bcell h 3 (by omega)
  simp only [boxF, hT] at c3
  have e3 := cellNat_eq (tcell h hT hi 3 (by omega))
  have e4 := cellNat_eq (tcell h hT hi 4 (by omega))
  unfold remOf
  rw [c3]
  simp only [e3, e4, Int.toNat_natCast]
set_option maxHeartbeats 4000000 in
set_option maxRecDepth 100000 in
theorem refsettle_ok (w : World) (hB : B ≤ w.heap.size) (h : RMem B mb oV st w) (hO : OpsL B oV st.ops st.n w) (hok : st.Ok) {i : Nat} (hi : i < st.n) :
    Calls Try.prog 46 #[.pointer (some ⟨mb, 0, none⟩), .int .i64 i] w fun e w' => e = .returned (.tuple #[]) ∧ RMem B mb oV (st.settled i) w' ∧ Below B w w' := by
  have H := Lib.hid h
  have HO := Lib.hid hO
  have HOK := Lib.hid hok
  have hn := hok.n
  clear h hO hok
  go_enter Try.func46, Try.ntmps46
  go_wp2
  go_loopw [] (fun wr => ∃ st' : RM, RMem B mb oV st' wr ∧ st'.Ok ∧ RM.Same i st st' ∧ st.settled i = st'.settled i ∧ Below B w wr) (fun wr => remOf wr mb i)
  case atStart => exact ⟨st, H.out, HOK.out, RM.Same.refl _ _, rfl, Below.refl _ _⟩
  case round =>
    obtain ⟨s, ⟨V, h⟩, hok, hs, he, hb⟩ := hrel
    have hi' : i < s.n := by rw [hs.n]; exact hi
    have hO := HO.out.below hb
    rw [← hs.n, ← hs.ops] at hO
    obtain ⟨tb, tc, hT, htc, htm⟩ := tb_of h (by omega)
    obtain ⟨A0, cA, hA⟩ := hO.row i hi'
    have c3 : wr.cell? ⟨mb, 3, none⟩ = some (.slice (some ⟨tb, 0, none⟩) s.n tc) := by have := bcell h 3 (by omega); rw [this]; exact congrArg some hT
    have t0 : wr.cell? ⟨tb, i * 9, none⟩ = some (.slice A0 (s.ops i).length cA) := by have := tcell h hT hi' 0 (by omega); rw [Nat.add_zero] at this; rw [this]; exact congrArg some hA
    have t3 : wr.cell? ⟨tb, i * 9 + 3, none⟩ = some (.int .i64 (s.at_ i)) := tcell h hT hi' 3 (by omega)
    have t4 : wr.cell? ⟨tb, i * 9 + 4, none⟩ = some (.int .i64 (s.pc i)) := tcell h hT hi' 4 (by omega)
    have hl := hok.len i hi'
    have ha := hok.at_ i hi'
    have hBr := Nat.le_trans hB hb.size
    have HM := Lib.hid h
    have HT := Lib.hid hT
    have HA := Lib.hid hA
    have HOK2 := Lib.hid hok
    have HS2 := Lib.hid hs
    have HE := Lib.hid he
    have HB2 := Lib.hid hb
    have HO2 := Lib.hid hO
    clear h hT hA hok hs he hb hO
    by_cases hp : s.pc i = 0
    · have fp : ((s.pc i : Int) == 0) = true := by simp [hp]
      by_cases hl2 : s.at_ i < (s.ops i).length
      · have fl : decide ((s.at_ i : Int) < ((s.ops i).length : Int)) = true := decide_eq_true (by omega)
        obtain ⟨o, ho⟩ : ∃ o, (s.ops i)[s.at_ i]? = some o := ⟨_, List.getElem?_eq_getElem hl2⟩
        obtain ⟨ob, oo, oc, hoV, hob, q0, q1, q2, q3⟩ := HO2.out.cells i hi' _ _ ho
        rw [HA.out] at hoV
        obtain ⟨rfl, rfl⟩ : A0 = some ⟨ob, oo, none⟩ ∧ cA = oc := by cases hoV; exact ⟨rfl, rfl⟩
        have HH := Lib.hid (And.intro ho hp)
        clear ho hp hoV
        refine wp_cut fun K hK => ?_
        refine wp_cut fun K2 hK2 => ?_
        go_quiet (fail)
        refine hK2.out _ _ ?_
        clear hK2 K2
        go_wp2
        refine hK.out _ _ ?_
        clear hK K
        have HM2 := Lib.hid (HM.out.drewN nq)
        have HB3 := Lib.hid (Below.drewN HB2.out nq)
        have HRM := Lib.hid (remOf_eq (w := wr.drewN nq) (i := i) ⟨V, HM.out.drewN nq⟩ hi')
        have HRW : Hid (remOf wr mb i = _) := Lib.hid (remOf_eq (i := i) ⟨V, HM.out⟩ hi')
        have c3 : (wr.drewN nq).cell? ⟨mb, 3, none⟩ = some (.slice (some ⟨tb, 0, none⟩) s.n tc) := c3
        have t0 : (wr.drewN nq).cell? ⟨tb, i * 9, none⟩ = some (.slice (some ⟨ob, oo, none⟩) (s.ops i).length cA) := t0
        have t3 : (wr.drewN nq).cell? ⟨tb, i * 9 + 3, none⟩ = some (.int .i64 (s.at_ i)) := t3
        have q0 : (wr.drewN nq).cell? ⟨ob, oo + s.at_ i * 4, none⟩ = some (.int .i64 o.kind) := q0
        have q1 : (wr.drewN nq).cell? ⟨ob, oo + s.at_ i * 4 + 1, none⟩ = some (.int .i64 o.a) := q1
        have q2 : (wr.drewN nq).cell? ⟨ob, oo + s.at_ i * 4 + 2, none⟩ = some (.int .i64 o.b) := q2
        have q3 : (wr.drewN nq).cell? ⟨ob, oo + s.at_ i * 4 + 3, none⟩ = some (.int .i64 o.c) := q3
        have hBz : B ≤ (wr.drewN nq).heap.size := hBr
        clear HM HB2 t4 hBr
        generalize World.drewN wr nq = z at *
        go_wp2_with fail
        refine wp_region_lastR (S := fun w' => w'.cell? ⟨mb, 3, none⟩ = some (.slice (some ⟨tb, 0, none⟩) s.n tc) ∧ w'.cell? ⟨tb, i * 9, none⟩ = some (.slice (some ⟨ob, oo, none⟩) (s.ops i).length cA) ∧ w'.cell? ⟨tb, i * 9 + 3, none⟩ = some (.int .i64 (s.at_ i)) ∧ w'.cell? ⟨ob, oo + s.at_ i * 4, none⟩ = some (.int .i64 o.kind) ∧ w'.cell? ⟨ob, oo + s.at_ i * 4 + 1, none⟩ = some (.int .i64 o.a) ∧ w'.cell? ⟨ob, oo + s.at_ i * 4 + 2, none⟩ = some (.int .i64 o.b) ∧ w'.cell? ⟨ob, oo + s.at_ i * 4 + 3, none⟩ = some (.int .i64 o.c)) 20 (by kernel_rfl) (by kernel_rfl) (by kernel_rfl) ?_
        simp only [idle, List.modify_toArray, List.modify_succ_cons, List.modify_zero_cons, List.size_toArray, List.length_cons, List.length_nil, Nat.reduceAdd]
        have HS : z.drew.cell? ⟨mb, 3, none⟩ = some (.slice (some ⟨tb, 0, none⟩) s.n tc) ∧ z.drew.cell? ⟨tb, i * 9, none⟩ = some (.slice (some ⟨ob, oo, none⟩) (s.ops i).length cA) ∧ z.drew.cell? ⟨tb, i * 9 + 3, none⟩ = some (.int .i64 (s.at_ i)) ∧ z.drew.cell? ⟨ob, oo + s.at_ i * 4, none⟩ = some (.int .i64 o.kind) ∧ z.drew.cell? ⟨ob, oo + s.at_ i * 4 + 1, none⟩ = some (.int .i64 o.a) ∧ z.drew.cell? ⟨ob, oo + s.at_ i * 4 + 2, none⟩ = some (.int .i64 o.b) ∧ z.drew.cell? ⟨ob, oo + s.at_ i * 4 + 3, none⟩ = some (.int .i64 o.c) := ⟨c3, t0, t3, q0, q1, q2, q3⟩
        refine wpAnyH_read (i := 0) (some 33) rfl rfl (by kernel_rfl) (by kernel_rfl) (by kernel_rfl) (fun _ _ _ h => h) rfl HS ?_
        apply Exists.intro
        refine ⟨fun wq hw => ?_, ?_⟩
        · obtain ⟨hw1, hw2, hw3, hw4, hw5, hw6, hw7⟩ := hw
          go_simp
          rfl
        simp only [Act.put, List.setIfInBounds_toArray, List.set_cons_zero, List.set_cons_succ]
        refine wpAnyH_read (i := 1) (some 34) rfl rfl (by kernel_rfl) (by kernel_rfl) (by kernel_rfl) (fun _ _ _ h => h) rfl HS ?_
        apply Exists.intro
        refine ⟨fun wq hw => ?_, ?_⟩
        · obtain ⟨hw1, hw2, hw3, hw4, hw5, hw6, hw7⟩ := hw
          go_simp
          rfl
        simp only [Act.put, List.setIfInBounds_toArray, List.set_cons_zero, List.set_cons_succ]
        refine wpAnyH_read (i := 2) (some 35) rfl rfl (by kernel_rfl) (by kernel_rfl) (by kernel_rfl) (fun _ _ _ h => h) rfl HS ?_
        apply Exists.intro
        refine ⟨fun wq hw => ?_, ?_⟩
        · obtain ⟨hw1, hw2, hw3, hw4, hw5, hw6, hw7⟩ := hw
          go_simp
          rfl
        simp only [Act.put, List.setIfInBounds_toArray, List.set_cons_zero, List.set_cons_succ]
        refine wpAnyH_read (i := 3) (some 36) rfl rfl (by kernel_rfl) (by kernel_rfl) (by kernel_rfl) (fun _ _ _ h => h) rfl HS ?_
        apply Exists.intro
        refine ⟨fun wq hw => ?_, ?_⟩
        · obtain ⟨hw1, hw2, hw3, hw4, hw5, hw6, hw7⟩ := hw
          go_simp
          rfl
        simp only [Act.put, List.setIfInBounds_toArray, List.set_cons_zero, List.set_cons_succ]
        refine wpAnyH_read (i := 4) (some 37) rfl rfl (by kernel_rfl) (by kernel_rfl) (by kernel_rfl) (fun _ _ _ h => h) rfl HS ?_
        apply Exists.intro
        refine ⟨fun wq hw => ?_, ?_⟩
        · obtain ⟨hw1, hw2, hw3, hw4, hw5, hw6, hw7⟩ := hw
          go_simp
          rfl
        simp only [Act.put, List.setIfInBounds_toArray, List.set_cons_zero, List.set_cons_succ]
        refine wpAnyH_read (i := 5) (some 38) rfl rfl (by kernel_rfl) (by kernel_rfl) (by kernel_rfl) (fun _ _ _ h => h) rfl HS ?_
        apply Exists.intro
        refine ⟨fun wq hw => ?_, ?_⟩
        · obtain ⟨hw1, hw2, hw3, hw4, hw5, hw6, hw7⟩ := hw
          go_simp
          rfl
        simp only [Act.put, List.setIfInBounds_toArray, List.set_cons_zero, List.set_cons_succ]
        refine wpAnyH_read (i := 6) (some 39) rfl rfl (by kernel_rfl) (by kernel_rfl) (by kernel_rfl) (fun _ _ _ h => h) rfl HS ?_
        apply Exists.intro
        refine ⟨fun wq hw => ?_, ?_⟩
        · obtain ⟨hw1, hw2, hw3, hw4, hw5, hw6, hw7⟩ := hw
          go_simp
          rfl
        simp only [Act.put, List.setIfInBounds_toArray, List.set_cons_zero, List.set_cons_succ]
        refine wpAnyH_read (i := 7) (some 40) rfl rfl (by kernel_rfl) (by kernel_rfl) (by kernel_rfl) (fun _ _ _ h => h) rfl HS ?_
        apply Exists.intro
        refine ⟨fun wq hw => ?_, ?_⟩
        · obtain ⟨hw1, hw2, hw3, hw4, hw5, hw6, hw7⟩ := hw
          go_simp
          rfl
        simp only [Act.put, List.setIfInBounds_toArray, List.set_cons_zero, List.set_cons_succ]
        refine wpAnyH_read (i := 8) (some 41) rfl rfl (by kernel_rfl) (by kernel_rfl) (by kernel_rfl) (fun _ _ _ h => h) rfl HS ?_
        apply Exists.intro
        refine ⟨fun wq hw => ?_, ?_⟩
        · obtain ⟨hw1, hw2, hw3, hw4, hw5, hw6, hw7⟩ := hw
          go_simp
          rfl
        simp only [Act.put, List.setIfInBounds_toArray, List.set_cons_zero, List.set_cons_succ]
        refine wpAnyH_read (i := 9) (some 42) rfl rfl (by kernel_rfl) (by kernel_rfl) (by kernel_rfl) (fun _ _ _ h => h) rfl HS ?_
        apply Exists.intro
        refine ⟨fun wq hw => ?_, ?_⟩
        · obtain ⟨hw1, hw2, hw3, hw4, hw5, hw6, hw7⟩ := hw
          go_simp
          rfl
        simp only [Act.put, List.setIfInBounds_toArray, List.set_cons_zero, List.set_cons_succ]
        refine wpAnyH_read (i := 10) (some 43) rfl rfl (by kernel_rfl) (by kernel_rfl) (by kernel_rfl) (fun _ _ _ h => h) rfl HS ?_
        apply Exists.intro
        refine ⟨fun wq hw => ?_, ?_⟩
        · obtain ⟨hw1, hw2, hw3, hw4, hw5, hw6, hw7⟩ := hw
          go_simp
          rfl
        simp only [Act.put, List.setIfInBounds_toArray, List.set_cons_zero, List.set_cons_succ]
        refine wpAnyH_read (i := 11) (some 44) rfl rfl (by kernel_rfl) (by kernel_rfl) (by kernel_rfl) (fun _ _ _ h => h) rfl HS ?_
        apply Exists.intro
        refine ⟨fun wq hw => ?_, ?_⟩
        · obtain ⟨hw1, hw2, hw3, hw4, hw5, hw6, hw7⟩ := hw
          go_simp
          rfl
        simp only [Act.put, List.setIfInBounds_toArray, List.set_cons_zero, List.set_cons_succ]
        refine wpAnyH_read (i := 12) (some 45) rfl rfl (by kernel_rfl) (by kernel_rfl) (by kernel_rfl) (fun _ _ _ h => h) rfl HS ?_
        apply Exists.intro
        refine ⟨fun wq hw => ?_, ?_⟩
        · obtain ⟨hw1, hw2, hw3, hw4, hw5, hw6, hw7⟩ := hw
          go_simp
          rfl
        simp only [Act.put, List.setIfInBounds_toArray, List.set_cons_zero, List.set_cons_succ]
        refine wpAnyH_read (i := 13) (some 46) rfl rfl (by kernel_rfl) (by kernel_rfl) (by kernel_rfl) (fun _ _ _ h => h) rfl HS ?_
        apply Exists.intro
        refine ⟨fun wq hw => ?_, ?_⟩
        · obtain ⟨hw1, hw2, hw3, hw4, hw5, hw6, hw7⟩ := hw
          go_simp
          rfl
        simp only [Act.put, List.setIfInBounds_toArray, List.set_cons_zero, List.set_cons_succ]
        refine wpAnyH_read (i := 14) (some 47) rfl rfl (by kernel_rfl) (by kernel_rfl) (by kernel_rfl) (fun _ _ _ h => h) rfl HS ?_
        apply Exists.intro
        refine ⟨fun wq hw => ?_, ?_⟩
        · obtain ⟨hw1, hw2, hw3, hw4, hw5, hw6, hw7⟩ := hw
          go_simp
          rfl
        simp only [Act.put, List.setIfInBounds_toArray, List.set_cons_zero, List.set_cons_succ]
        refine wpAnyH_read (i := 15) (some 48) rfl rfl (by kernel_rfl) (by kernel_rfl) (by kernel_rfl) (fun _ _ _ h => h) rfl HS ?_
        apply Exists.intro
        refine ⟨fun wq hw => ?_, ?_⟩
        · obtain ⟨hw1, hw2, hw3, hw4, hw5, hw6, hw7⟩ := hw
          go_simp
          rfl
        simp only [Act.put, List.setIfInBounds_toArray, List.set_cons_zero, List.set_cons_succ]
        refine wpAnyH_read (i := 16) (some 49) rfl rfl (by kernel_rfl) (by kernel_rfl) (by kernel_rfl) (fun _ _ _ h => h) rfl HS ?_
        apply Exists.intro
        refine ⟨fun wq hw => ?_, ?_⟩
        · obtain ⟨hw1, hw2, hw3, hw4, hw5, hw6, hw7⟩ := hw
          go_simp
          rfl
        simp only [Act.put, List.setIfInBounds_toArray, List.set_cons_zero, List.set_cons_succ]
        refine wpAnyH_read (i := 17) (some 50) rfl rfl (by kernel_rfl) (by kernel_rfl) (by kernel_rfl) (fun _ _ _ h => h) rfl HS ?_
        apply Exists.intro
        refine ⟨fun wq hw => ?_, ?_⟩
        · obtain ⟨hw1, hw2, hw3, hw4, hw5, hw6, hw7⟩ := hw
          go_simp
          rfl
        simp only [Act.put, List.setIfInBounds_toArray, List.set_cons_zero, List.set_cons_succ]
        refine wpAnyH_read (i := 18) (some 51) rfl rfl (by kernel_rfl) (by kernel_rfl) (by kernel_rfl) (fun _ _ _ h => h) rfl HS ?_
        apply Exists.intro
        refine ⟨fun wq hw => ?_, ?_⟩
        · obtain ⟨hw1, hw2, hw3, hw4, hw5, hw6, hw7⟩ := hw
          go_simp
          rfl
        simp only [Act.put, List.setIfInBounds_toArray, List.set_cons_zero, List.set_cons_succ]
        refine wpAnyH_read (i := 19) (some 52) rfl rfl (by kernel_rfl) (by kernel_rfl) (by kernel_rfl) (fun _ _ _ h => h) rfl HS ?_
        apply Exists.intro
        refine ⟨fun wq hw => ?_, ?_⟩
        · obtain ⟨hw1, hw2, hw3, hw4, hw5, hw6, hw7⟩ := hw
          go_simp
          rfl
        simp only [Act.put, List.setIfInBounds_toArray, List.set_cons_zero, List.set_cons_succ]
        refine wpAnyH_read (i := 20) none rfl rfl (by kernel_rfl) (by kernel_rfl) (by kernel_rfl) (fun _ _ _ h => h) rfl HS ?_
        apply Exists.intro
        refine ⟨fun wq hw => ?_, ?_⟩
        · go_simp
          rfl
        simp only [Act.put]
        clear HS
        refine wpAnyH_done (by kernel_rfl) ?_ _
        simp only [Exit.then]
        refine wpOps_list (m := 20) rfl ?_
        go_wp2_with fail
        obtain ⟨ho, hp⟩ := HH.out
        refine (refbegin_ok z.drew hBz (HM2.out.drewN 1) hi' (by rw [HS2.out.n]; exact hn) (by omega) (by rw [HOK2.out.ans i hi']; omega) hp HOK2.out.size o (HOK2.out.op i hi' o (List.mem_of_getElem? ho))).mono ?_
        rintro e y ⟨rfl, hm4, hb4⟩
        have hsb := RM.same_begin s i o
        have hr4 := remOf_eq hm4 (i := i) (by rw [hsb.n]; exact hi')
        have HREL := Lib.hid (show (∃ st' : RM, RMem B mb oV st' y ∧ st'.Ok ∧ RM.Same i st st' ∧ st.settled i = st'.settled i ∧ Below B w y) ∧ remOf y mb i < remOf wr mb i from ⟨⟨s.begin_ i o, hm4, HOK2.out.begin hi' ho, HS2.out.trans hsb, HE.out.trans (RM.settled_begin hp ho), (Below.drewN HB3.out 1).trans hb4⟩, by
          rw [hr4, HRW.out, hp]
          rcases RM.begin_is s i o with ⟨a, e⟩ | ⟨e, _⟩
          · rw [e]
            have e1 : ((s.enter i o.a).end_ i a).at_ i = s.at_ i + 1 := upd_same ..
            rw [e1]
            split <;> simp <;> omega
          · rw [e]
            have e1 : ((s.enter i o.a).stand i 1).at_ i = s.at_ i := rfl
            have e2 : ((s.enter i o.a).stand i 1).pc i = 1 := upd_same ..
            rw [e1, e2]
            simp⟩)
        clear ho hp hm4 hb4 hsb hr4
        go_wp2
        go_roundw
        case rel => exact HREL.out.1
        case measure => exact HREL.out.2
      · have fl : decide ((s.at_ i : Int) < ((s.ops i).length : Int)) = false := decide_eq_false (by omega)
        have ho : (s.ops i)[s.at_ i]? = none := List.getElem?_eq_none (by omega)
        have HR := Lib.hid (show RMem B mb oV (st.settled i) wr from by rw [HE.out, RM.settled_end ho]; exact ⟨V, HM.out⟩)
        clear ho hp
        go_wp2_with fail
        go_quiet (fail)
        have HR2 := Lib.hid (show RMem B mb oV (st.settled i) (wr.drewN nq) from by obtain ⟨V', h⟩ := HR.out; exact ⟨V', h.drewN nq⟩)
        have HB3 := Lib.hid (Below.drewN HB2.out nq)
        go_wp2
        go_end0
        exact ⟨rfl, HR2.out, HB3.out⟩
    · have fp : ((s.pc i : Int) == 0) = false := by simpa using hp
      have HR := Lib.hid (show RMem B mb oV (st.settled i) wr from by rw [HE.out, RM.settled_pc hp]; exact ⟨V, HM.out⟩)
      clear hp
      go_wp2_with fail
      go_quiet (fail)
      have HR2 := Lib.hid (show RMem B mb oV (st.settled i) (wr.drewN nq) from by obtain ⟨V', h⟩ := HR.out; exact ⟨V', h.drewN nq⟩)
      have HB3 := Lib.hid (Below.drewN HB2.out nq)
      go_wp2
      go_end0
      exact ⟨rfl, HR2.out, HB3.out⟩
end
end Go.Proofs.Yteainbnoemkfcaa
