/-
  The claim SoloStops: stopped anywhere, all that is published and not finished by the slowest reader lies in its slot, whole: for every small world and number of steps; no condition.
-/
import Derived.Test.YtlcplealnbekeaaGm
import Derived.Conc.LeavingOf
/- DERIVED. What a stopped run on the ring with one writer keeps is what SoloStops asks. -/
namespace Go.Proofs.Ytlcplealnbekeaa
open Go.RowKit Go.Turn Go.Tame Go.Conc
set_option linter.unusedVariables false
set_option linter.unusedSectionVars false
set_option linter.unusedSimpArgs false
structure StopsOk (sz k : Nat) (lo : List OpI) (la : List Ans) (sta : List Int) (mn : Nat → Int) (f : Nat → List Int) : Prop where
  sl : sta.length = 2 + k + 2 * sz
  len : la.length ≤ lo.length
  b : ∀ j (h : j < lo.length), 1 ≤ lo[j].b ∧ lo[j].b ≤ 8
  mn0 : mn 0 = sta.getD 1 0
  mns : ∀ j, j < k → mn (j + 1) = min (mn j) (sta.getD (2 + j) 0) ∧ -1 ≤ sta.getD (2 + j) 0 ∧ sta.getD (2 + j) 0 ≤ sta.getD 1 0
  mnb : ∀ j, j ≤ k → -1 ≤ mn j ∧ mn j ≤ sta.getD 1 0
  n1 : sta.getD 0 0 - 1 ≤ mn k + sz
  n2 : sta.getD 1 0 < sta.getD 0 0
  n3 : sta.getD 0 0 ≤ 4096
  zero : f 0 = []
  step : ∀ i (h : i < lo.length), f (i + 1) = f i ++ if la.length ≤ i ∨ ∃ a, la[i]? = some a ∧ a.ok = true then rowV lo[i].a lo[i].b.toNat else []
  sz_ : ∀ i, i ≤ lo.length → (f i).length ≤ 4096
  fin : ∀ q : Nat, mn k < q → (q : Int) ≤ sta.getD 1 0 → q < (f lo.length).length ∧ sta.getD (2 + k + q % sz) 0 = 2 * ((q / sz : Nat) : Int) ∧ sta.getD (2 + k + sz + q % sz) 0 = (f lo.length).getD q 0
open Classical in
noncomputable def allS (lo : List OpI) (la : List Ans) : Nat → List Int
  | 0 => []
  | i + 1 => allS lo la i ++ if h : i < lo.length then (if la.length ≤ i ∨ ∃ a, la[i]? = some a ∧ a.ok = true then rowV lo[i].a lo[i].b.toNat else []) else []
open Classical in
theorem allS_succ (lo : List OpI) (la : List Ans) (i : Nat) : allS lo la (i + 1) = allS lo la i ++ if h : i < lo.length then (if la.length ≤ i ∨ ∃ a, la[i]? = some a ∧ a.ok = true then rowV lo[i].a lo[i].b.toNat else []) else [] := rfl
theorem allS_wr {lo : List OpI} {la : List Ans} (hl : la.length ≤ lo.length) : ∀ i, i ≤ la.length → allS lo la i = wroteP ((lo.zip la).take i)
  | 0, _ => by simp [allS, wroteP]
  | i + 1, h => by
    have hd : i < (lo.zip la).length := by simp; omega
    rw [take_snoc hd, wroteP_snoc, ← allS_wr hl i (by omega), zip_get (by omega) (by omega)]
    rw [allS_succ, dif_pos (show i < lo.length by omega)]
    congr 1
    cases e : la[i].ok with
    | true => rw [if_pos (.inr ⟨la[i], List.getElem?_eq_getElem (by omega), e⟩), if_pos rfl]
    | false =>
      rw [if_neg ?_, if_neg (by decide)]
      rintro (z | ⟨a, z1, z2⟩)
      · omega
      · rw [List.getElem?_eq_getElem (by omega)] at z1
        cases z1
        rw [e] at z2
        cases z2
theorem allS_pre (lo : List OpI) (la : List Ans) (i : Nat) : ∀ j, i ≤ j → allS lo la i <+: allS lo la j
  | 0, h => by
    obtain rfl : i = 0 := by omega
    exact List.prefix_refl _
  | j + 1, h => by
    by_cases e : i = j + 1
    · subst e; exact List.prefix_refl _
    · exact (allS_pre lo la i j (by omega)).trans (by rw [allS_succ]; exact List.prefix_append _ _)
theorem allS_len {lo : List OpI} {la : List Ans} (hb : ∀ o ∈ lo, 1 ≤ o.b ∧ o.b ≤ 8) : ∀ i, (allS lo la i).length ≤ 8 * i
  | 0 => by simp [allS]
  | i + 1 => by
    have := allS_len (la := la) hb i
    rw [allS_succ, List.length_append]
    split
    · rename_i h
      have hb2 := hb _ (List.getElem_mem h)
      split
      · rw [rowV_len]; omega
      · simp; omega
    · simp; omega
def leastC (c : Int) (num : Nat → Int) : Nat → Int
  | 0 => c
  | j + 1 => min (leastC c num j) (num j)
theorem leastC_le (c : Int) (num : Nat → Int) : ∀ k j, j < k → leastC c num k ≤ num j
  | k + 1, j, h => by
    unfold leastC
    by_cases e : j = k
    · subst e; omega
    · have := leastC_le c num k j (by omega); omega
section
variable (P : SPar)
theorem stops_of {all : List Int} {s : SSt} (hI : SInv P all s) (hk : 0 < P.k) :
    StopsOk P.n P.k (P.ops 0) (s.2 0) (stateL (I0 P.n P.k) s.1) (leastC s.1.cursor s.1.num) (allS (P.ops 0) (s.2 0)) := by
  have hn8 := P.n8
  have hn0 := P.n0
  have hcu := hI.cu
  have hnx := hI.nx
  have hpre := hI.pre.length_le
  have hsz := hI.sz
  have hst : stateL (I0 P.n P.k) s.1 = [s.1.next, s.1.cursor] ++ listN s.1.num P.k ++ rowN s.1.st P.n ++ rowN s.1.va P.n := rfl
  have e0 : (stateL (I0 P.n P.k) s.1).getD 0 0 = s.1.next := rfl
  have e1 : (stateL (I0 P.n P.k) s.1).getD 1 0 = s.1.cursor := rfl
  have e2 : ∀ j, j < P.k → (stateL (I0 P.n P.k) s.1).getD (2 + j) 0 = s.1.num j := fun j hj => by
    rw [hst, List.getD_eq_getElem?_getD, List.append_assoc, List.append_assoc, List.getElem?_append_right (by simp), List.getElem?_append_left (by simp [listN]; omega)]
    simp [listN, hj]
  have e3 : ∀ j, j < P.n → (stateL (I0 P.n P.k) s.1).getD (2 + P.k + j) 0 = s.1.st j := fun j hj => by
    rw [hst, List.getD_eq_getElem?_getD, List.append_assoc, List.getElem?_append_right (by simp [listN]; omega), List.getElem?_append_left (by simp [listN, rowN]; omega)]
    simp [listN, rowN, hj, show 2 + P.k + j - (P.k + 2) = j by omega]
  have e4 : ∀ j, j < P.n → (stateL (I0 P.n P.k) s.1).getD (2 + P.k + P.n + j) 0 = s.1.va j := fun j hj => by
    rw [hst, List.getD_eq_getElem?_getD, List.getElem?_append_right (by simp [listN, rowN]; omega)]
    simp [listN, rowN, hj, show 2 + P.k + P.n + j - (P.k + P.n + 2) = j by omega]
  have hmnb : ∀ j, j ≤ P.k → -1 ≤ leastC s.1.cursor s.1.num j ∧ leastC s.1.cursor s.1.num j ≤ s.1.cursor := fun j => by
    induction j with
    | zero => intro _; unfold leastC; omega
    | succ j ih =>
      intro h
      have := ih (by omega)
      have := hI.rd j (by omega)
      unfold leastC
      omega
  have hov : s.1.next ≤ leastC s.1.cursor s.1.num P.k + 1 + P.n := by
    have : ∀ m, 0 < m → m ≤ P.k → s.1.next ≤ leastC s.1.cursor s.1.num m + 1 + P.n := fun m => by
      induction m with
      | zero => intro h; omega
      | succ m ih =>
        intro _ h
        have h1 := hI.ov m (by omega)
        have h2 := hI.rd m (by omega)
        unfold leastC
        by_cases e : m = 0
        · subst e
          unfold leastC
          omega
        · have := ih (by omega) (by omega)
          omega
    exact this P.k hk (Nat.le_refl _)
  have hlen := hI.ln
  have hwr : P.wr s = allS (P.ops 0) (s.2 0) (s.2 0).length := by
    rw [allS_wr hlen _ (Nat.le_refl _), List.take_of_length_le (by simp; omega)]
    rfl
  refine ⟨by simp [hst, listN, rowN]; omega, hlen, fun j h => ?_, rfl, fun j hj => ?_, fun j hj => ?_, ?_, ?_, ?_, rfl, fun i h => ?_, fun i h => ?_, fun q h1 h2 => ?_⟩
  · obtain ⟨_, h1, h2⟩ := P.w _ (List.getElem_mem h); omega
  · rw [e1, e2 j hj]
    have := hI.rd j hj
    exact ⟨rfl, by omega, by omega⟩
  · rw [e1]; exact hmnb j hj
  · rw [e0]; omega
  · rw [e0, e1]; omega
  · rw [e0]; omega
  · show allS _ _ (i + 1) = _
    rw [allS_succ, dif_pos h]
  · have := allS_len (la := s.2 0) (fun o ho => by obtain ⟨_, h1, h2⟩ := P.w o ho; omega : ∀ o ∈ P.ops 0, 1 ≤ o.b ∧ o.b ≤ 8) i
    have := P.len 0
    omega
  · rw [e1] at h2
    have hq : q < (P.wr s).length := by omega
    obtain ⟨k1, k2⟩ := hI.sl q hq (by omega)
    have hm : q % P.n < P.n := Nat.mod_lt _ hn0
    have hp : P.wr s <+: allS (P.ops 0) (s.2 0) (P.ops 0).length := by rw [hwr]; exact allS_pre _ _ _ _ hlen
    rw [e3 _ hm, e4 _ hm, k1, k2]
    refine ⟨Nat.lt_of_lt_of_le hq hp.length_le, rfl, ?_⟩
    obtain ⟨t1, ht1⟩ := hI.pre
    obtain ⟨t2, ht2⟩ := hp
    rw [← ht1, ← ht2, List.getD_eq_getElem?_getD, List.getD_eq_getElem?_getD, List.getElem?_append_left hq, List.getElem?_append_left hq]
end
/-- What SoloStops reads of memory. -/
structure StF (W w : World) (tb ab n : Nat) (ov : Value) (sb so S f1 : Nat) (stk : Bool) (Tb : Nat) (rA : Option Addr) (Lo rc : Nat) (lo : List OpI) (qA : Option Addr) (La qc : Nat) (la : List Ans) (sta : List Int) : Prop where
  io : w.os = W.os ∧ w.output = W.output
  tr : Blk w tb 31 #[.slice (some ⟨ab, 0, none⟩) n n, ov, .slice (some ⟨sb, so, none⟩) S f1, .bool stk]
  th : w.cell? ⟨Tb, 0, none⟩ = some (.slice rA Lo rc)
  an : w.cell? ⟨ab, 0, none⟩ = some (.slice qA La qc)
  ops : ∀ j (h : j < lo.length), ∃ b2 o2, rA = some ⟨b2, o2, none⟩ ∧ w.cell? ⟨b2, o2 + j * 4, none⟩ = some (.int .i64 lo[j].kind) ∧ w.cell? ⟨b2, o2 + j * 4 + 1, none⟩ = some (.int .i64 lo[j].a) ∧ w.cell? ⟨b2, o2 + j * 4 + 2, none⟩ = some (.int .i64 lo[j].b) ∧ w.cell? ⟨b2, o2 + j * 4 + 3, none⟩ = some (.int .i64 lo[j].c)
  ans : ∀ j (h : j < la.length), ∃ b2 o2, qA = some ⟨b2, o2, none⟩ ∧ w.cell? ⟨b2, o2 + j * 3, none⟩ = some (.bool la[j].ok)
  sta : ∀ i, i < S → w.cell? ⟨sb, so + i, none⟩ = some (.int .i64 (sta.getD i 0))
theorem StF.kept {W w w' : World} {tb ab n : Nat} {ov : Value} {sb so S f1 : Nat} {stk : Bool} {Tb : Nat} {rA : Option Addr} {Lo rc : Nat} {lo : List OpI} {qA : Option Addr} {La qc : Nat} {la : List Ans} {sta : List Int} (h : StF W w tb ab n ov sb so S f1 stk Tb rA Lo rc lo qA La qc la sta) (k : Kept (fun _ => False) w w') : StF W w' tb ab n ov sb so S f1 stk Tb rA Lo rc lo qA La qc la sta :=
  ⟨⟨k.os.trans h.io.1, k.output.trans h.io.2⟩, h.tr.kept k id, k.cellK h.th, k.cellK h.an, fun j hj => by
    obtain ⟨b2, o2, e, h1, h2, h3, h4⟩ := h.ops j hj
    exact ⟨b2, o2, e, k.cellK h1, k.cellK h2, k.cellK h3, k.cellK h4⟩, fun j hj => by
    obtain ⟨b2, o2, e, h1⟩ := h.ans j hj
    exact ⟨b2, o2, e, k.cellK h1⟩, fun i hi => k.cellK (h.sta i hi)⟩
theorem run_min64 {P : Program} {w : World} (ts : Array TypeId) (t : TypeId) (k k' : IntKind) (x y : Int) : (Builtin.min_ ts t #[.int k x, .int k' y]).run P w = .ok (.int k (min x y)) w := by
  rw [run_min_int2]
  congr 2
  by_cases h : y < x
  · rw [if_pos h]; omega
  · rw [if_neg h]; omega
end Go.Proofs.Ytlcplealnbekeaa
/- DERIVED. SoloStops, walked: goroutine 0 alone. -/
namespace Go.Proofs.Ytlcplealnbekeaa
open Go.RowKit Go.Turn Go.Tame Go.Conc
set_option linter.unusedVariables false
set_option linter.unusedSectionVars false
set_option linter.unusedSimpArgs false
attribute [local go_sem high] run_min64
set_option maxHeartbeats 4000000 in
set_option maxRecDepth 100000 in
theorem stops_true (W : World) (s : Sm) (mo : Int) (hmo : 0 ≤ mo ∧ mo < 65536) (hs : s.At W W) : (lgA Try.tame (PostT (.bool true) W) W).T () (Frame.enter Try.prog 5 #[.agg s.vals, .int .u16 mo] .normal) [] (seen0 W) := by
  have hs0 : s.At W (seen0 W) := hs.keep fun b o v _ h => by rw [seen0_cell]; exact h
  have hst : ¬ (lgA Try.tame (PostT (.bool true) W) W).strict := fun h => h
  have hsz : (seen0 W).heap.size = W.heap.size := seen0_size W
  have hio : (seen0 W).os = W.os ∧ (seen0 W).output = W.output := seen0_io W
  have hz0 : 0 ≤ s.sz := hs.sz.1
  generalize seen0 W = x at hs0 hsz hio ⊢
  clear hs
  simp only [Sm.vals]
  rw [show Frame.enter Try.prog 5 #[.agg #[.int .u8 s.sz, .int .u8 s.rd, .slice s.wA s.ws.length s.wc, .slice s.rA s.rn s.rc, .slice s.sA s.xs.length s.sc], .int .u16 mo] .normal = Frame.at { (default : Frame) with fn := 5, kind := .normal } ⟨#[.agg #[.int .u8 s.sz, .int .u8 s.rd, .slice s.wA s.ws.length s.wc, .slice s.rA s.rn s.rc, .slice s.sA s.xs.length s.sc], .int .u16 mo] ++ Array.replicate (Try.f5.ntmps - 2) undef, []⟩ [.code (Try.f5.body.getD .skip)] from by simp [Frame.enter, Frame.at, Try.func5]; rfl]
  simp only [Try.f5, Option.getD_some, Nat.reduceSub, Array.replicate_succ, Array.replicate_zero, List.push_toArray, List.append_toArray, List.nil_append, List.cons_append]
  refine Lg.move _ (fun _ _ => step_seq) (fun h => h) ?_
  refine Lg.code fun K hK y τ n' hy => ?_
  subst hy
  have hs1 : s.At W y := hs0.keep fun _ _ _ _ h => h
  have hsz : y.heap.size = W.heap.size := hsz
  have hio : y.os = W.os ∧ y.output = W.output := hio
  have HS := Lib.hid hs1
  clear hs0 hs1
  go_wp2
  refine hK _ _ (fun h => absurd h hst) ?_
  clear hK K
  have hb : s.At W (y.alloc (.cells s.vals 37)) ∧ (y.alloc (.cells s.vals 37)).os = W.os ∧ (y.alloc (.cells s.vals 37)).output = W.output ∧ Blk (y.alloc (.cells s.vals 37)) W.heap.size 37 s.vals ∧ (y.alloc (.cells s.vals 37)).heap.size = W.heap.size + 1 :=
    ⟨HS.out.keep (cells_kept (by omega) (Kept.alloc _ _)), hio.1, hio.2, by rw [← hsz]; exact Blk.new _ _ _, by simp [hsz]⟩
  clear HS
  simp only [Sm.vals] at hb
  generalize y.alloc _ = z at hb ⊢
  refine Lg.move _ (fun _ _ => step_seq) (fun h => h) ?_
  refine Lg.code fun K hK y τ n' hy => ?_
  subst hy
  have hb : s.At W y ∧ y.os = W.os ∧ y.output = W.output ∧ Blk y W.heap.size 37 s.vals ∧ y.heap.size = W.heap.size + 1 := ⟨hb.1.keep fun _ _ _ _ h => h, hb.2⟩
  have HB := Lib.hid hb
  clear hb hsz hio
  go_wp2_with fail
  refine (writes_true y).mono ?_
  rintro e w1 ⟨rfl, hk1⟩
  have hk1 := Kept.of_below (S := fun _ => False) hk1
  have hb : s.At W w1 ∧ w1.os = W.os ∧ w1.output = W.output ∧ Blk w1 W.heap.size 37 s.vals ∧ W.heap.size + 1 ≤ w1.heap.size :=
    ⟨HB.out.1.keep (cells_kept (by have := HB.out.2.2.2.2; omega) hk1), hk1.os.trans HB.out.2.1, hk1.output.trans HB.out.2.2.1, HB.out.2.2.2.1.kept hk1 id, by have := hk1.size; have := HB.out.2.2.2.2; omega⟩
  clear hk1 HB
  have HB := Lib.hid hb
  clear hb
  go_wp2
  refine hK _ _ (fun h => absurd h hst) ?_
  clear hK K
  refine Lg.move _ (fun _ _ => step_seq) (fun h => h) ?_
  refine Lg.code fun K hK y τ n' hy => ?_
  subst hy
  have hb : s.At W y ∧ y.os = W.os ∧ y.output = W.output ∧ Blk y W.heap.size 37 s.vals ∧ W.heap.size + 1 ≤ y.heap.size := ⟨HB.out.1.keep fun _ _ _ _ h => h, HB.out.2⟩
  clear HB
  have HB := Lib.hid hb
  clear hb
  have c0 := HB.out.2.2.2.1.cell 0
  have c1 := HB.out.2.2.2.1.cell 1
  have c2 := HB.out.2.2.2.1.cell 2
  have c3 := HB.out.2.2.2.1.cell 3
  have c4 := HB.out.2.2.2.1.cell 4
  simp [Sm.vals] at c0 c1 c2 c3 c4
  go_wp2_with fail
  refine (laid_ok s W y (by have := HB.out.2.2.2.2; omega) HB.out.1).mono ?_
  rintro e w2 ⟨tA, tc, rows, rfl, hC, hk2⟩
  have hb2 : s.At W w2 ∧ w2.os = W.os ∧ w2.output = W.output ∧ Blk w2 W.heap.size 37 s.vals ∧ W.heap.size + 1 ≤ w2.heap.size ∧ LaidS s y.heap.size tA tc rows (1 + s.nr) w2 :=
    ⟨HB.out.1.keep (cells_kept (by have := HB.out.2.2.2.2; omega) hk2), hk2.os.trans HB.out.2.1, hk2.output.trans HB.out.2.2.1, HB.out.2.2.2.1.kept hk2 id, by have := hk2.size; have := HB.out.2.2.2.2; omega, hC⟩
  clear hk2 hC HB c0 c1 c2 c3 c4
  have HB := Lib.hid hb2
  clear hb2
  go_wp2
  refine hK _ _ (fun h => absurd h hst) ?_
  clear hK K
  by_cases hnr : s.nr = 0
  · rw [hnr]
    refine lgA_rest Try.tame rfl Try.func5 (by kernel_rfl) (fun tm w v h w' => ?_) fun u τ3 n3 hu => ?_
    · simp [results, Try.f5] at h ⊢
      exact h
    subst hu
    have hfin : u.os = W.os ∧ u.output = W.output := ⟨HB.out.2.1, HB.out.2.2.1⟩
    go_wp2
    go_ret
    exact ⟨rfl, hfin⟩
  refine Lg.move _ (fun _ _ => step_seq) (fun h => h) ?_
  refine Lg.code fun K hK y2 τ n' hy => ?_
  subst hy
  have hnz : ((s.nr : Int) == 0) = false := by simp; exact hnr
  go_wp2
  refine hK _ _ (fun h => absurd h hst) ?_
  clear hK K hnz
  refine Lg.move _ (fun _ _ => step_seq) (fun h => h) ?_
  refine Lg.move _ (fun _ _ => step_region) (fun h => h) ?_
  refine Lg.pre 0 8 3 (by simp) fun K hK q τ n' hq => ?_
  subst hq
  have hb2 : s.At W q ∧ q.os = W.os ∧ q.output = W.output ∧ Blk q W.heap.size 37 s.vals ∧ W.heap.size + 1 ≤ q.heap.size ∧ LaidS s y.heap.size tA tc rows (1 + s.nr) q := ⟨HB.out.1.keep fun _ _ _ _ h => h, HB.out.2.1, HB.out.2.2.1, HB.out.2.2.2.1, HB.out.2.2.2.2.1, HB.out.2.2.2.2.2.near fun _ _ _ h => h⟩
  clear HB
  have HB := Lib.hid hb2
  clear hb2
  have c4 := HB.out.2.2.2.1.cell 4
  simp [Sm.vals] at c4
  simp only [List.drop_zero, List.take_succ_cons, List.take_zero]
  go_wp2
  refine hK _ _ (fun h => absurd h hst) ?_
  clear hK K c4
  obtain ⟨Tb, rfl, hrows⟩ := HB.out.2.2.2.2.2.rowsAt (by omega)
  have hn64 : min (1 + s.nr) 64 = 1 + s.nr := by have := s.nr_le; omega
  have hmx : 1 + s.nr ≤ maxLen := by have := s.nr_le; unfold maxLen; omega
  have hsi := s.size_le hz0
  have hplay := solo_play Try.tame (PostT (.bool true) W) W s.size s.nr hsi.1 (by omega) (by have := s.nr_le; omega) (s.bits hz0) (some ⟨Tb, 0, none⟩) Tb 0 (1 + s.nr) tc (fun _ => rfl) hmx (fun i => vAd (rows i)) (fun i => (s.ops i).length) (fun i => vCap (rows i)) s.ops (.slice s.sA s.xs.length s.sc) s.xs (mo % 300) q
    (by have := HB.out.2.2.2.2.1; omega) (by rw [hn64]; exact hrows) (by rw [hn64]; exact HB.out.2.2.2.2.2.opsCells (fun i _ => s.ops_good hz0 i) fun i _ => s.ops_le i) (HB.out.1.schi _) (by rw [hn64]; have := solo_sound (s.par hz0); rw [Nat.add_comm] at this; exact this)
  rw [hn64] at hplay
  refine Lg.call (i := 8) (rest := [9, 10]) (f := 8) (args := #[.int .i64 s.size, .int .i64 s.nr, .slice (some ⟨Tb, 0, none⟩) (1 + s.nr) tc, .slice s.sA s.xs.length s.sc, .int .i64 (mo % 300)]) rfl rfl (fun y => by go_simp) hplay ?_
  rintro vv t' w3 hdone
  clear hplay hrows
  obtain ⟨all, hI⟩ := solo_stopped (s.par hz0) (heldI (mo % 300) 1048576).toNat s.xs
  obtain ⟨R, hR⟩ : ∃ R : Run SSt, R = playRun (brQ (doS (I0 s.size s.nr)) s.ops) (1 + s.nr) (heldI (mo % 300) 1048576).toNat s.xs (soloZero, fun _ => []) := ⟨_, rfl⟩
  have hR2 : playRun (brQ (doS (I0 (s.par hz0).n (s.par hz0).k)) (s.par hz0).ops) ((s.par hz0).k + 1) (heldI (mo % 300) 1048576).toNat s.xs (soloZero, fun _ => []) = R := by
    rw [hR, Nat.add_comm 1 s.nr]
    rfl
  rw [hR2] at hI
  rw [← hR] at hdone
  have hro : StopsOk s.size s.nr (s.ops 0) (R.m.s.2 0) (stateL (I0 s.size s.nr) R.m.s.1) (leastC R.m.s.1.cursor R.m.s.1.num) (allS (s.ops 0) (R.m.s.2 0)) := stops_of (s.par hz0) hI (show 0 < s.nr by omega)
  obtain ⟨ab, ov, tv, H, hab, rfl, hov, htv, hans, hH1, hH2⟩ := hdone.ex
  have htr : TraceAt w3 (1 + s.nr) R.m.s.2 R.order (stateL (I0 s.size s.nr) R.m.s.1) (some ⟨ab, 0, none⟩) (1 + s.nr) ov tv := hans.trace hov htv
  have hth : ThreadsAt w3 (some ⟨Tb, 0, none⟩) (1 + s.nr) s.ops := (HB.out.2.2.2.2.2.near fun b c t h => hdone.near b c t (0, 0) (.inr (by decide)) h).threads
  have hfin : w3.os = W.os ∧ w3.output = W.output := ⟨hdone.io.1.trans HB.out.2.1, hdone.io.2.trans HB.out.2.2.1⟩
  have hcp : ∀ A n c, tv = .slice A n c → n ≤ c ∧ c ≤ maxLen := fun A n c e => by
    rcases htv.2 with ⟨e1, _⟩ | ⟨g, cap, cur, e1, _, _, h1, h2, _⟩
    · rw [e1] at e; cases e; exact ⟨Nat.le_refl _, by unfold maxLen; omega⟩
    · rw [e1] at e; cases e; exact ⟨h1, h2⟩
  generalize leastC R.m.s.1.cursor R.m.s.1.num = mn at hro
  generalize allS (s.ops 0) (R.m.s.2 0) = f at hro
  generalize stateL (I0 s.size s.nr) R.m.s.1 = sta at hro htr
  generalize R.order = ord at htr
  generalize decide (0 < R.m.left (1 + s.nr)) = stk
  have HX := Lib.hid (And.intro htr (And.intro hth (And.intro hfin hro)))
  clear htr hth hfin hro hdone hov htv hans hH1 hH2 HB hI hR hR2 hab
  have hn8 : s.size ≤ 8 := hsi.2.1
  have hk3 := s.nr_le
  rw [Frame.finish_at]
  walk_nrm
  refine (show (lgA Try.tame (PostT (.bool true) W) W).T _ (Frame.at _ ⟨_, []⟩ (.inRegion _ (List.range' 9 (2 + 0)) :: _)) [] w3 from ?_)
  refine Lg.pre 9 2 0 (by simp) fun K hK q2 τ2 n2 hq => ?_
  subst hq
  have htr : TraceAt q2 (1 + s.nr) R.m.s.2 ord sta (some ⟨ab, 0, none⟩) (1 + s.nr) ov tv := ⟨HX.out.1.ord, HX.out.1.sta, HX.out.1.row⟩
  have hth : ThreadsAt q2 (some ⟨Tb, 0, none⟩) (1 + s.nr) s.ops := HX.out.2.1
  have hfin : q2.os = W.os ∧ q2.output = W.output := HX.out.2.2.1
  obtain ⟨o1, d1, e1, -⟩ := id htr.ord.1
  obtain ⟨s1, f1, e3, hsc⟩ := id htr.sta.1
  obtain ⟨hc1, hc2⟩ := hcp _ _ _ e3
  subst e1 e3
  clear hcp
  have HX := Lib.hid (And.intro htr (And.intro hth (And.intro hfin HX.out.2.2.2)))
  clear htr hth hfin hsc
  simp only [List.drop_succ_cons, List.drop_zero, List.take_succ_cons, List.take_zero]
  go_wp2
  refine hK _ _ (fun h => absurd h hst) ?_
  clear hK K
  have hz : Kept (fun _ => False) q2 (q2.alloc (.cells #[.slice (some ⟨ab, 0, none⟩) (1 + s.nr) (1 + s.nr), .slice o1 ord.length d1, .slice s1 sta.length f1, .bool stk] 31)) ∧ Blk (q2.alloc (.cells #[.slice (some ⟨ab, 0, none⟩) (1 + s.nr) (1 + s.nr), .slice o1 ord.length d1, .slice s1 sta.length f1, .bool stk] 31)) q2.heap.size 31 #[.slice (some ⟨ab, 0, none⟩) (1 + s.nr) (1 + s.nr), .slice o1 ord.length d1, .slice s1 sta.length f1, .bool stk] := ⟨Kept.alloc _ _, Blk.new _ _ _⟩
  generalize q2.alloc _ = z at hz ⊢
  have htr := HX.out.1.below hz.1.bel
  have hth := HX.out.2.1.below hz.1.bel
  have hfin : z.os = W.os ∧ z.output = W.output := ⟨hz.1.os.trans HX.out.2.2.1.1, hz.1.output.trans HX.out.2.2.1.2⟩
  have HX := Lib.hid (And.intro htr (And.intro hth (And.intro hfin (And.intro hz.2 HX.out.2.2.2))))
  clear htr hth hfin hz
  generalize q2.heap.size = tb at HX ⊢
  refine Lg.move _ (fun _ _ => step_region_end) (fun h => h) ?_
  refine lgA_rest Try.tame rfl Try.func5 (by kernel_rfl) (fun tm w v h w' => ?_) fun u τ3 n3 hu => ?_
  · simp [results, Try.f5] at h ⊢
    exact h
  subst hu
  have htr : TraceAt u (1 + s.nr) R.m.s.2 ord sta (some ⟨ab, 0, none⟩) (1 + s.nr) (.slice o1 ord.length d1) (.slice s1 sta.length f1) := ⟨HX.out.1.ord, HX.out.1.sta, HX.out.1.row⟩
  have hth : ThreadsAt u (some ⟨Tb, 0, none⟩) (1 + s.nr) s.ops := HX.out.2.1
  have HI := Lib.hid (show u.os = W.os ∧ u.output = W.output from HX.out.2.2.1)
  have hB : Blk u tb 31 #[.slice (some ⟨ab, 0, none⟩) (1 + s.nr) (1 + s.nr), .slice o1 ord.length d1, .slice s1 sta.length f1, .bool stk] := HX.out.2.2.2.1
  have HR := Lib.hid HX.out.2.2.2.2
  obtain ⟨n, hn⟩ : ∃ n : Nat, n = 1 + s.nr := ⟨_, rfl⟩
  obtain ⟨S, hS⟩ : ∃ S : Nat, S = sta.length := ⟨_, rfl⟩
  have hS2 : (S : Int) = 2 + s.nr + 2 * s.size := by have := HR.out.sl; omega
  generalize R.m.s.2 = ans at *
  rw [← hn] at htr hth hB ⊢
  rw [← hS] at htr hB hc1 ⊢
  have hn1 : (1 : Int) ≤ n := by omega
  have hn9 : (n : Int) ≤ 9 := by omega
  have HSL := Lib.hid hS
  have hsp : 0 < s.size := hsi.1
  clear hn hS HX hsi hmx hn64
  obtain ⟨b1, p1, e, hT⟩ := hth.fix (by omega)
  cases e
  obtain ⟨b2, p2, e, hA⟩ := htr.fix (by omega)
  cases e
  obtain ⟨sb, so, rfl, hS3⟩ := htr.sta.1.fix (by omega)
  obtain ⟨rA, rc, h1, h2, h3⟩ := hT 0 (by omega)
  obtain ⟨qA, qc, k1, k2, k3⟩ := hA 0 (by omega)
  simp only [Nat.add_zero] at h1 k1
  have c0 : u.cell? ⟨tb, 0, none⟩ = some (.slice (some ⟨ab, 0, none⟩) n n) := hB.cell 0
  have c2 : u.cell? ⟨tb, 2, none⟩ = some (.slice (some ⟨sb, so, none⟩) S f1) := hB.cell 2
  have hlen := HR.out.len
  obtain ⟨Lo, hLo⟩ : ∃ L, L = (s.ops 0).length := ⟨_, rfl⟩
  obtain ⟨La, hLa⟩ : ∃ L, L = (ans 0).length := ⟨_, rfl⟩
  rw [← hLo, ← hLa] at hlen
  rw [← hLo] at h1 h2
  rw [← hLa] at k1 k2
  have HF := Lib.hid (show StF W u tb ab n (.slice o1 ord.length d1) sb so S f1 stk Tb rA Lo rc (s.ops 0) qA La qc (ans 0) sta from ⟨HI.out, hB, h1, k1, h3, fun j hj => by obtain ⟨b2, o2, _, _, e, m1, _⟩ := k3 j hj; exact ⟨b2, o2, e, m1⟩, hS3⟩)
  have HLo := Lib.hid hLo
  have HLa := Lib.hid hLa
  unfold maxLen at h2 k2 hc2
  clear h3 k3 hS3 hB hLo hLa htr hth hT hA HI
  have t1 : ((S : Int) != 2 + s.nr + 2 * s.size) = false := by rw [hS2]; simp
  have t2 : ((n : Int) != n) = false := by simp
  have t3 : decide ((Lo : Int) < La) = false := by simp; omega
  obtain ⟨i1, hi1, hz01, hz11, hz21⟩ := info_parts Try.info64
  go_wp2_with fail
  go_quiet (fail)
  clear c0 c2 h1 k1 t1 t2 t3
  have HF : Hid (StF W (u.drewN nq) tb ab n (.slice o1 ord.length d1) sb so S f1 stk Tb rA Lo rc (s.ops 0) qA La qc (ans 0) sta) := Lib.hid (HF.out.kept (Kept.drewN _ _ _))
  generalize u.drewN nq = v at HF ⊢
  have c2 : v.cell? ⟨tb, 2, none⟩ = some (.slice (some ⟨sb, so, none⟩) S f1) := HF.out.tr.cell 2
  have q0 := HF.out.sta 0 (by omega)
  have q1 := HF.out.sta 1 (by omega)
  rw [Nat.add_zero] at q0
  have n1 := HR.out.n1
  have n2 := HR.out.n2
  have n3 := HR.out.n3
  have mb := HR.out.mnb 0 (by omega)
  have mbk := HR.out.mnb s.nr (Nat.le_refl _)
  have m0 := HR.out.mn0
  generalize sta.getD 0 0 = nx at q0 n1 n2 n3
  obtain ⟨cu, hcu⟩ : ∃ cu, cu = sta.getD 1 0 := ⟨_, rfl⟩
  rw [← hcu] at q1 n2 mb mbk m0
  have HCU := Lib.hid hcu
  clear hcu
  go_wp2_with fail
  go_quiet (fail)
  clear q0 q1 c2
  have HF : Hid (StF W (v.drewN nq) tb ab n (.slice o1 ord.length d1) sb so S f1 stk Tb rA Lo rc (s.ops 0) qA La qc (ans 0) sta) := Lib.hid (HF.out.kept (Kept.drewN _ _ _))
  generalize v.drewN nq = v at HF ⊢
  have c2 : v.cell? ⟨tb, 2, none⟩ = some (.slice (some ⟨sb, so, none⟩) S f1) := HF.out.tr.cell 2
  go_wp2_with fail
  clear c2
  have HM0 := Lib.hid m0
  have HS2 := Lib.hid hS2
  have hS3 : (2 : Int) + s.nr ≤ S := by omega
  clear m0 hS2
  have hd : decide (Lo < La) = false := by simp; omega
  rw [hd, show 2 + s.nr - 2 = s.nr by omega]
  clear hd
  go_loopw [11, 88] (fun l i wr => ∃ j : Nat, j ≤ s.nr ∧ l = .int .i64 (mn j) ∧ i = .int .i64 j ∧ wr = v) (fun _ i _ => s.nr - (intOf i).toNat)
  case atStart => exact ⟨0, by omega, by rw [HM0.out], rfl, rfl⟩
  case round =>
    obtain ⟨j, hj, rfl, rfl, rfl⟩ := hrel
    by_cases hlt : j < s.nr
    · have q2 := HF.out.sta (2 + j) (by have := HS2.out; omega)
      rw [← Nat.add_assoc] at q2
      obtain ⟨g1, g2, g3⟩ := HR.out.mns j hlt
      rw [← HCU.out] at g3
      generalize sta.getD (2 + j) 0 = x at q2 g1 g2 g3
      have G1 := Lib.hid g1
      clear g1
      have b0 : (0 : Int) ≤ j := by omega
      have b1' : (j : Int) < s.nr := by omega
      go_wp2
      go_roundw
      case rel => exact ⟨j + 1, by omega, by rw [G1.out], by go_num, by trivial⟩
      case measure => simp [intOf]; omega
    · obtain rfl : j = s.nr := by omega
      have c2 : wr.cell? ⟨tb, 2, none⟩ = some (.slice (some ⟨sb, so, none⟩) S f1) := HF.out.tr.cell 2
      obtain ⟨least, hlst⟩ : ∃ l, l = mn s.nr := ⟨_, rfl⟩
      rw [← hlst] at n1 mbk ⊢
      have HLST := Lib.hid hlst
      clear hlst
      go_wp2_with fail
      have hS2 := HS2.out
      go_quiet (fail)
      have hd1 : 2 + s.nr + s.size - (2 + s.nr) = s.size := by omega
      have hd2 : S - (2 + s.nr + s.size) = s.size := by omega
      try rw [hd1]
      try rw [hd2]
      clear hS2 hd1 hd2 c2
      have HF : Hid (StF W (wr.drewN nq) tb ab n (.slice o1 ord.length d1) sb so S f1 stk Tb rA Lo rc (s.ops 0) qA La qc (ans 0) sta) := Lib.hid (HF.out.kept (Kept.drewN _ _ _))
      generalize wr.drewN nq = z at HF ⊢
      have h1 := HF.out.th
      go_wp2
      clear h1
      go_loopw [16, 134] (fun v i wx => ∃ j : Nat, j ≤ Lo ∧ i = .int .i64 j ∧ Hid (wx.ownsRow z.heap.size 2 1 v (f j).length ((f j).map (Value.int .i64)) ∧ Kept (fun _ => False) z wx)) (fun _ i _ => Lo - (intOf i).toNat)
      case atStart => exact ⟨0, by omega, rfl, Lib.hid ⟨by rw [HR.out.zero]; exact World.ownsRow_nil _ _ _ _, Kept.refl _ _⟩⟩
      case round =>
        obtain ⟨j, hj, rfl, HO⟩ := hrel
        have hszj := HR.out.sz_ j (by have := HLo.out; omega)
        obtain ⟨vA, vc, rfl⟩ := own_slice HO.out.1
        by_cases hlt : j < Lo
        · have hjo : j < (s.ops 0).length := by have := HLo.out; omega
          have HFW := Lib.hid (HF.out.kept HO.out.2)
          obtain ⟨b3, o3, rfl, q2, q3, q4, q5⟩ := HFW.out.ops j hjo
          have k1 := HFW.out.an
          have c0 : wr.cell? ⟨tb, 0, none⟩ = some (.slice (some ⟨ab, 0, none⟩) n n) := HFW.out.tr.cell 0
          have hbb := HR.out.b j hjo
          have HST := Lib.hid (HR.out.step j hjo)
          generalize (s.ops 0)[j] = op at *
          obtain ⟨kd, oa, ob, ocv⟩ := op
          simp only at q2 q3 q4 q5 hbb
          have l0 := lt_of_cell c0
          have l1 := lt_of_cell k1
          have l2 := lt_of_cell q2
          have b0 : (0 : Int) ≤ j := by omega
          have b1' : (j : Int) < Lo := by omega
          obtain ⟨m, rfl⟩ : ∃ m : Nat, ob = m := ⟨ob.toNat, by omega⟩
          by_cases hja : La ≤ j
          · have hge : (La : Int) ≤ j := by omega
            have hfj : f (j + 1) = f j ++ rowV oa m := by
              have := HST.out
              rw [if_pos (.inl (by have := HLa.out; omega))] at this
              simpa using this
            have HFJ := Lib.hid hfj
            clear hfj HST
            go_wp2
            have hy : Blk (wr.alloc (.cells #[.int .i64 kd, .int .i64 oa, .int .i64 m, .int .i64 ocv] 46)) wr.heap.size 46 #[.int .i64 kd, .int .i64 oa, .int .i64 m, .int .i64 ocv] ∧ Kept (fun _ => False) wr (wr.alloc (.cells #[.int .i64 kd, .int .i64 oa, .int .i64 m, .int .i64 ocv] 46)) := ⟨Blk.new _ _ _, Kept.alloc _ _⟩
            generalize wr.alloc _ = y at hy ⊢
            have HY := Lib.hid hy
            clear hy q2 q3 q4 q5 l0 l1 l2 c0 k1 hge
            have hwz : z.heap.size ≤ wr.heap.size := HO.out.2.size
            have HRY : Hid (y.ownsRow z.heap.size 2 1 (.slice vA (f j).length vc) (f j).length ((f j).map (Value.int .i64)) ∧ Kept (fun _ => False) z y) := Lib.hid ⟨own_kept HO.out.1 HY.out.2 (fun _ _ z => z), HO.out.2.trans HY.out.2⟩
            generalize wr.heap.size = obk at hwz HY ⊢
            clear HO HFW
            generalize f j = l at hszj HFJ HRY ⊢
            obtain ⟨n0, HN0⟩ : ∃ n0 : Nat, Hid (l.length = n0) := ⟨_, Lib.hid rfl⟩
            rw [HN0.out] at hszj ⊢
            go_loopw [16, 158] (fun v i wx => ∃ e : Nat, e ≤ m ∧ i = .int .i64 e ∧ Hid (wx.ownsRow z.heap.size 2 1 v (n0 + e) ((l ++ rowV oa e).map (Value.int .i64)) ∧ Kept (fun _ => False) z wx ∧ Blk wx obk 46 #[.int .i64 kd, .int .i64 oa, .int .i64 m, .int .i64 ocv])) (fun _ i _ => m - (intOf i).toNat)
            case atStart =>
              refine ⟨0, by omega, rfl, Lib.hid ⟨?_, HRY.out.2, HY.out.1⟩⟩
              have := HRY.out.1
              rw [HN0.out] at this
              simpa [rowV] using this
            case round =>
              obtain ⟨e, he, rfl, HE⟩ := hrel
              obtain ⟨vA, vc, rfl⟩ := own_slice HE.out.1
              by_cases hle : e < m
              · have c1 : wr.cell? ⟨obk, 1, none⟩ = some (.int .i64 oa) := HE.out.2.2.cell 1
                have cl := HE.out.2.2.lt
                go_wp2_with (at_builtin; refine wpList_app _ rfl _ _ 29 rfl z.heap.size 2 i1 (.int .i64 0) 1 8 Try.underlying29 hi1 hz01 hz11 hz21 rfl (by decide) _ _ _ rfl (HE.out.1.alloc _) (some ⟨wr.heap.size, 0, none⟩) 1 1 rfl (fun h => by cases h) (Nat.le_refl _) [.int .i64 (Go.RowKit.wrap64 (oa + e))] (by simp) (cells_new _ _ _) (by simp [Value.oneCell']) (by unfold maxLen; omega) (by omega) (by have := HE.out.2.1.size; simp; omega) ?_)
                intro v' w2 h1 k1 _ _ _
                have HE2 := Lib.hid (show w2.ownsRow z.heap.size 2 1 v' (n0 + (e + 1)) ((l ++ rowV oa (e + 1)).map (Value.int .i64)) ∧ Kept (fun _ => False) z w2 ∧ Blk w2 obk 46 #[.int .i64 kd, .int .i64 oa, .int .i64 m, .int .i64 ocv] from by
                  refine ⟨?_, (HE.out.2.1.trans (Kept.alloc _ _)).later k1 fun b hb => (HE.out.1.lt b hb).1, ?_⟩
                  · rw [rowV_snoc, List.map_append, List.map_append, ← Nat.add_assoc]
                    exact h1
                  · refine (HE.out.2.2.alloc _).kept k1 fun hb => ?_
                    obtain ⟨_, _, c, hc⟩ := own_lt HE.out.1 hb
                    have := hc.symm.trans HE.out.2.2
                    simp at this)
                clear h1 k1 c1 cl
                obtain ⟨vA', vc', rfl⟩ := own_slice HE2.out.1
                go_wp2
                go_roundw
                case rel => exact ⟨e + 1, by omega, by go_num, HE2⟩
                case measure => simp [intOf]; omega
              · obtain rfl : e = m := by omega
                go_wp2
                go_roundw
                case rel =>
                  refine ⟨j + 1, by omega, by go_num, Lib.hid ⟨?_, HE.out.2.1⟩⟩
                  rw [HFJ.out]
                  have := HE.out.1
                  rw [show (l ++ rowV oa e).length = n0 + e by rw [List.length_append, HN0.out, rowV_len]]
                  exact this
                case measure => simp [intOf]; omega
          · have hjl : j < (ans 0).length := by have := HLa.out; omega
            obtain ⟨b4, o4, rfl, m1⟩ := HFW.out.ans j hjl
            have hlt3 : (j : Int) < La := by omega
            have l3 := lt_of_cell m1
            have HOKV := Lib.hid (show (ans 0)[j]? = some (ans 0)[j] from List.getElem?_eq_getElem hjl)
            generalize (ans 0)[j] = a at *
            obtain ⟨okv, na, ls⟩ := a
            simp only at m1
            cases okv with
            | true =>
              have hfj : f (j + 1) = f j ++ rowV oa m := by
                have := HST.out
                rw [if_pos (.inr ⟨_, HOKV.out, rfl⟩)] at this
                simpa using this
              have HFJ := Lib.hid hfj
              clear hfj HST HOKV
              go_wp2
              have hy : Blk (wr.alloc (.cells #[.int .i64 kd, .int .i64 oa, .int .i64 m, .int .i64 ocv] 46)) wr.heap.size 46 #[.int .i64 kd, .int .i64 oa, .int .i64 m, .int .i64 ocv] ∧ Kept (fun _ => False) wr (wr.alloc (.cells #[.int .i64 kd, .int .i64 oa, .int .i64 m, .int .i64 ocv] 46)) := ⟨Blk.new _ _ _, Kept.alloc _ _⟩
              generalize wr.alloc _ = y at hy ⊢
              have HY := Lib.hid hy
              clear hy q2 q3 q4 q5 l0 l1 l2 c0 k1 m1 l3 hlt3
              have hwz : z.heap.size ≤ wr.heap.size := HO.out.2.size
              have HRY : Hid (y.ownsRow z.heap.size 2 1 (.slice vA (f j).length vc) (f j).length ((f j).map (Value.int .i64)) ∧ Kept (fun _ => False) z y) := Lib.hid ⟨own_kept HO.out.1 HY.out.2 (fun _ _ z => z), HO.out.2.trans HY.out.2⟩
              generalize wr.heap.size = obk at hwz HY ⊢
              clear HO HFW
              generalize f j = l at hszj HFJ HRY ⊢
              obtain ⟨n0, HN0⟩ : ∃ n0 : Nat, Hid (l.length = n0) := ⟨_, Lib.hid rfl⟩
              rw [HN0.out] at hszj ⊢
              go_loopw [16, 158] (fun v i wx => ∃ e : Nat, e ≤ m ∧ i = .int .i64 e ∧ Hid (wx.ownsRow z.heap.size 2 1 v (n0 + e) ((l ++ rowV oa e).map (Value.int .i64)) ∧ Kept (fun _ => False) z wx ∧ Blk wx obk 46 #[.int .i64 kd, .int .i64 oa, .int .i64 m, .int .i64 ocv])) (fun _ i _ => m - (intOf i).toNat)
              case atStart =>
                refine ⟨0, by omega, rfl, Lib.hid ⟨?_, HRY.out.2, HY.out.1⟩⟩
                have := HRY.out.1
                rw [HN0.out] at this
                simpa [rowV] using this
              case round =>
                obtain ⟨e, he, rfl, HE⟩ := hrel
                obtain ⟨vA, vc, rfl⟩ := own_slice HE.out.1
                by_cases hle : e < m
                · have c1 : wr.cell? ⟨obk, 1, none⟩ = some (.int .i64 oa) := HE.out.2.2.cell 1
                  have cl := HE.out.2.2.lt
                  go_wp2_with (at_builtin; refine wpList_app _ rfl _ _ 29 rfl z.heap.size 2 i1 (.int .i64 0) 1 8 Try.underlying29 hi1 hz01 hz11 hz21 rfl (by decide) _ _ _ rfl (HE.out.1.alloc _) (some ⟨wr.heap.size, 0, none⟩) 1 1 rfl (fun h => by cases h) (Nat.le_refl _) [.int .i64 (Go.RowKit.wrap64 (oa + e))] (by simp) (cells_new _ _ _) (by simp [Value.oneCell']) (by unfold maxLen; omega) (by omega) (by have := HE.out.2.1.size; simp; omega) ?_)
                  intro v' w2 h1 k1 _ _ _
                  have HE2 := Lib.hid (show w2.ownsRow z.heap.size 2 1 v' (n0 + (e + 1)) ((l ++ rowV oa (e + 1)).map (Value.int .i64)) ∧ Kept (fun _ => False) z w2 ∧ Blk w2 obk 46 #[.int .i64 kd, .int .i64 oa, .int .i64 m, .int .i64 ocv] from by
                    refine ⟨?_, (HE.out.2.1.trans (Kept.alloc _ _)).later k1 fun b hb => (HE.out.1.lt b hb).1, ?_⟩
                    · rw [rowV_snoc, List.map_append, List.map_append, ← Nat.add_assoc]
                      exact h1
                    · refine (HE.out.2.2.alloc _).kept k1 fun hb => ?_
                      obtain ⟨_, _, c, hc⟩ := own_lt HE.out.1 hb
                      have := hc.symm.trans HE.out.2.2
                      simp at this)
                  clear h1 k1 c1 cl
                  obtain ⟨vA', vc', rfl⟩ := own_slice HE2.out.1
                  go_wp2
                  go_roundw
                  case rel => exact ⟨e + 1, by omega, by go_num, HE2⟩
                  case measure => simp [intOf]; omega
                · obtain rfl : e = m := by omega
                  go_wp2
                  go_roundw
                  case rel =>
                    refine ⟨j + 1, by omega, by go_num, Lib.hid ⟨?_, HE.out.2.1⟩⟩
                    rw [HFJ.out]
                    have := HE.out.1
                    rw [show (l ++ rowV oa e).length = n0 + e by rw [List.length_append, HN0.out, rowV_len]]
                    exact this
                  case measure => simp [intOf]; omega
            | false =>
              have hfj : f (j + 1) = f j := by
                have := HST.out
                rw [if_neg (by
                  rintro (z | ⟨a, z1, z2⟩)
                  · have := HLa.out; omega
                  · rw [HOKV.out] at z1
                    cases z1
                    cases z2), List.append_nil] at this
                exact this
              have HFJ := Lib.hid hfj
              clear hfj HST HOKV
              go_wp2
              go_roundw
              case rel => exact ⟨j + 1, by omega, by go_num, Lib.hid ⟨by rw [HFJ.out]; exact HO.out.1.alloc _, HO.out.2.trans (Kept.alloc _ _)⟩⟩
              case measure => simp [intOf]; omega
        · obtain rfl : j = Lo := by omega
          go_wp2
          have hla1 : -1 ≤ least := mbk.1
          have hcu4 : cu ≤ 4096 := by omega
          have HFX := Lib.hid (HF.out.kept HO.out.2)
          have HVX := Lib.hid (IntsAt.of_own HO.out.1)
          have hszl := hszj
          obtain ⟨N, hN⟩ : ∃ N : Nat, N = (f j).length := ⟨_, rfl⟩
          rw [← hN] at hszl HVX ⊢
          have HNN := Lib.hid hN
          have hfin := HR.out.fin
          rw [← HLo.out, ← HCU.out] at hfin
          have HFIN := Lib.hid hfin
          clear hfin hN HO hszj
          rename World => x
          have hsp1 : (0 : Int) < s.size := by omega
          go_loopw [20] (fun i wx => ∃ q : Nat, mn s.nr < q ∧ (q : Int) ≤ cu + 1 ∧ i = .int .i64 q ∧ ∃ k, x.drewN k = wx) (fun i _ => (cu + 1).toNat - (intOf i).toNat)
          case atStart => exact ⟨(least + 1).toNat, by rw [← HLST.out]; omega, by omega, by rw [Int.toNat_of_nonneg (by omega)], 0, rfl⟩
          case round =>
            obtain ⟨q, hq1, hq2, rfl, kd, rfl⟩ := hrel
            by_cases hqc : (q : Int) ≤ cu
            · obtain ⟨g1, g2, g3⟩ := HFIN.out q hq1 hqc
              rw [← HNN.out] at g1
              go_wp2_with fail
              have hr1 : q % s.size < s.size := Nat.mod_lt _ hsp
              have e1 : (q : Int) % (s.size : Int) = ((q % s.size : Nat) : Int) := by omega
              have e2 : (q : Int) / (s.size : Int) = ((q / s.size : Nat) : Int) := by omega
              have hD : q / s.size ≤ q := Nat.div_le_self _ _
              rw [e1]
              have q2 := HFX.out.sta (2 + s.nr + q % s.size) (by have := HS2.out; omega)
              have q3 := HFX.out.sta (2 + s.nr + s.size + q % s.size) (by have := HS2.out; omega)
              rw [g2] at q2
              rw [g3] at q3
              rw [← Nat.add_assoc] at q2
              rw [← Nat.add_assoc so (2 + s.nr + s.size)] at q3
              obtain ⟨b6, o6, rfl, hall⟩ := HVX.out.fix (by omega)
              have hall1 := hall q g1
              clear hall g2 g3 e1
              have hmn := Lib.hid hq1
              clear hq1
              generalize (f j).getD q 0 = xv at q3 hall1
              generalize q % s.size = r at hr1 q2 q3 ⊢
              generalize q / s.size = D at e2 hD q2
              have b0 : (0 : Int) ≤ r := by omega
              have b1 : (r : Int) < s.size := by omega
              have b2 : (0 : Int) ≤ q := by omega
              have b3 : (q : Int) < N := by omega
              have b4 : (D : Int) ≤ 4096 := by omega
              have tt : decide (N ≤ q) = false := by simp; omega
              have hx : (xv != xv) = false := by simp
              clear g1 hr1 hD
              go_quiet (fail)
              clear tt hx e2 q2 q3 hall1
              go_wp2
              go_roundw
              case rel => exact ⟨q + 1, by have := hmn.out; omega, by omega, by go_num, _, rfl⟩
              case measure => simp [intOf]; omega
            · go_wp2
              go_ret
              exact ⟨rfl, HFX.out.io⟩
end Go.Proofs.Ytlcplealnbekeaa
namespace Go.Proofs.Ytlcplealnbekeaa.soloStops
open Go.ChangeShapes Go.WideShapes Go.ChangeAt Go.RowKit Go.Deep Go.Turn
set_option linter.unusedVariables false
set_option linter.unusedSectionVars false
set_option linter.unusedSimpArgs false

theorem own : ownKnob Try.prog.godebug = none := by kernel_rfl
theorem laidOut : laidOutB Try.prog = true := by kernel_rfl
theorem wf_u16 {y : Int} (h : (Lit.int .u16 y).wf = true) : 0 ≤ y ∧ y < 65536 := by
  simp [Lit.wf, IntKind.min, IntKind.max, IntKind.signed, IntKind.bits] at h
  omega

set_option maxRecDepth 100000 in
theorem lifted (os : Os) (started : os.Started) (H : Type) (enc : TypeId × Value → H) :
    ReturnsInLeavingWide {} Try.checked os 5 .any (Rows.soloStopsSpec.pre6 enc Try.prog Try.f5 Rows.soloStopsRow.domain false) (Rows.soloStopsSpec.post enc Try.prog Try.f5 false true false false) := by
  refine returnsInLeavingWide_of_change_sized (C := Try.checked) own started Try.func5
    (ChangeSpec.witness6 (enc := enc) (C := Try.checked) false ⟨#[], #[.agg #[.int .u8 0, .int .u8 0, .slice none 0 0, .slice none 0 0, .slice none 0 0], .int .u16 0], []⟩ 8 (by kernel_rfl) (by kernel_rfl) (by kernel_rfl) (by kernel_rfl)) ?_
  intro W base args ds gs before hval0 hW _ hsz _
  have hval : ∀ (j : Nat) t v, Try.f5.params[j]? = some t → args[j]? = some v → Value.okWide Try.prog W .any base t v := hval0
  have hW' := hW
  obtain ⟨p, q, hA0, hV, rfl, hfz, hnd⟩ := hW
  have hA : DataW.TrodAll enc Try.prog W 0 (fun _ => true) true Try.f5.params.toList args.toList ds p := hA0
  rw [Try.params5] at hA hval hsz
  obtain ⟨v0, vs0, d0, ds0, p0, q0, hargs, rfl, rfl, h0, r0⟩ := trodAll_cons hA
  obtain ⟨v1, vs1, d1, ds1, p1, q1, rfl, rfl, rfl, h1, r1⟩ := trodAll_cons r0
  obtain ⟨rfl, rfl, rfl⟩ := trodAll_nil r1
  obtain rfl : args = #[v0, v1] := by cases args; simp_all
  obtain ⟨rfl, rfl⟩ := trodVars_none hV
  obtain ⟨a1, rfl, rfl, rfl, w1⟩ := open_int Try.underlying42 (hval 1 42 v1 rfl rfl) h1
  have hst := hval 0 37 v0 rfl rfl
  unfold Value.okWide at hst
  rw [Try.underlying37] at hst
  obtain ⟨c, rfl, _, _⟩ := hst
  have h0k := h0
  have hlt : ∀ x ∈ p0, x.block < W.heap.size := fun x hx => by simpa using hW'.lt x (by simpa using hx)
  obtain ⟨fuel, h0⟩ := h0
  obtain ⟨s, rfl, hsm⟩ := open_small h0
  simp only [List.append_nil] at hW'
  obtain ⟨M, last, o, w', t', r1, r2, r3, r4⟩ := run_good Try.tame (stops_true W s a1 (wf_u16 w1) hsm)
  refine ⟨M, last, o, w', t', r1, r2, r3, r4.mono fun v hF => ?_⟩
  have hb : Below W.heap.size W { w' with tape := W.tape } := ⟨hF.os, rfl, hF.output, hF.size, hF.old⟩
  obtain rfl := hF.val
  exact ⟨_, _, _, [], _, [], hW', trodAll_cons_mk (shut_bool Try.underlying4 _) trodAll_mk0,
    trodAll_cons_mk ((Below.trod laidOut (by kernel_rfl) (of_decide_eq_true (by kernel_rfl)) h0k hb hlt).of_heap (by rfl)) (trodAll_cons_mk (shut_int Try.underlying42 w1) trodAll_mk0), rfl, hF.frame _, fun h => by cases h⟩

theorem over : Rows.soloStopsRow.holds Try.pinned (OpenSpec.ofChange Rows.soloStopsSpec) :=
  OpenClaim.holds_of_wide_leaving 5 Try.f5 rfl rfl rfl rfl rfl rfl rfl ⟨rfl, rfl, rfl, rfl, rfl⟩ rfl rfl rfl rfl rfl (by kernel_rfl) Try.func5 (by kernel_rfl)
    (of_decide_eq_true (by kernel_rfl)) (by unfold Func.isWrapper; first | (rw [if_pos (by decide +kernel)]; kernel_rfl) | (rw [if_neg (by decide +kernel)]; exact ⟨rfl, rfl⟩))
    (fun os started H enc _ => lifted os started H enc)

/-- ████ THE STATEMENT ████ -/
theorem proved : Rows.SoloStopsSaid := over
end Go.Proofs.Ytlcplealnbekeaa.soloStops
