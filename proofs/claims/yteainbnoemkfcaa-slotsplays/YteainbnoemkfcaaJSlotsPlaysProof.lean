/-
  The claim SlotsPlays: every run by a schedule on a ring of slots leaves the trace that the document's machine leaves: for every start, threads, schedule and most; no condition.
-/
import Derived.Test.YteainbnoemkfcaaGl
import Derived.Test.YteainbnoemkfcaaGj
import Derived.Test.YteainbnoemkfcaaGd
import Derived.Test.YteainbnoemkfcaaGh
import Derived.SizedLaws
import Derived.Conc.LeavingOf
namespace Go.Proofs.Yteainbnoemkfcaa
open Go.RowKit Go.Turn Go.Tame Go.Conc
set_option linter.unusedVariables false
set_option linter.unusedSectionVars false
set_option linter.unusedSimpArgs false
structure ScriptAt (W w : World) (ss : List Int) (qA : Option Addr) (qc nt : Nat) (tA : Option Addr) (Tb To : Nat) (A : Nat → Option Addr) (len cap : Nat → Nat) (ops : Nat → List OpI) (sA : Option Addr) (sc : Nat) (xs : List Int) : Prop where
  st : ∀ i, i < ss.length → ∃ b o, qA = some ⟨b, o, none⟩ ∧ b < W.heap.size ∧ w.cell? ⟨b, o + i, none⟩ = some (.int .i64 (ss.getD i 0))
  sle : ss.length ≤ qc
  smx : qc ≤ maxLen
  slen : ss.length ≤ 4611686018427387903
  s64 : ∀ x ∈ ss, R64 x
  nmx : nt ≤ maxLen
  ta : 0 < nt → tA = some ⟨Tb, To, none⟩
  row : ∀ i, i < min nt 64 → Tb < W.heap.size ∧ w.cell? ⟨Tb, To + i, none⟩ = some (.slice (A i) (len i) (cap i)) ∧ len i ≤ cap i ∧ cap i ≤ maxLen ∧ (A i = none → cap i = 0)
  olen : ∀ i, i < min nt 64 → (ops i).length = min (len i) 65536
  op : ∀ i, i < min nt 64 → ∀ j o, (ops i)[j]? = some o → o.Ok ∧ R64 o.b ∧ ∃ b f, A i = some ⟨b, f, none⟩ ∧ b < W.heap.size ∧ w.cell? ⟨b, f + j * 4, none⟩ = some (.int .i64 o.kind) ∧ w.cell? ⟨b, f + j * 4 + 1, none⟩ = some (.int .i64 o.a) ∧ w.cell? ⟨b, f + j * 4 + 2, none⟩ = some (.int .i64 o.b) ∧ w.cell? ⟨b, f + j * 4 + 3, none⟩ = some (.int .i64 o.c)
  sch : ∀ i, i < xs.length → ∃ b o, sA = some ⟨b, o, none⟩ ∧ b < W.heap.size ∧ w.cell? ⟨b, o + i, none⟩ = some (.int .i64 (xs.getD i 0))
  xmx : xs.length ≤ maxLen
theorem cell_block {w : World} {b o : Nat} {v : Value} (h : w.cell? ⟨b, o, none⟩ = some v) : ∃ cs t r, w.heap[b]? = some (.cells cs t r) ∧ cs[o]? = some v := by
  unfold World.cell? at h
  cases ho : w.heap[b]? with
  | none => simp [ho] at h
  | some x =>
    cases x with
    | cells cs t r =>
      refine ⟨cs, t, r, rfl, ?_⟩
      have := cell_of_row w b o cs t r ho
      unfold World.cell? at this
      rw [← this]
      exact h
    | _ => simp [ho] at h
theorem kpt_cell {W w w' : World} (h : Kpt W w w') {b o : Nat} {v : Value} (hb : b < W.heap.size) (hc : w.cell? ⟨b, o, none⟩ = some v) : w'.cell? ⟨b, o, none⟩ = some v := by
  cases ho : w.heap[b]? with
  | none => simp [World.cell?, ho] at hc
  | some x =>
    cases x with
    | cells c t r =>
      have h1 := h.near b c t r (.inl hb) ho
      exact (World.cell?_of_block (w := w) (a := ⟨b, o, none⟩) (h1.trans ho.symm)).trans hc
    | _ => simp [World.cell?, ho] at hc
set_option maxHeartbeats 4000000 in
set_option maxRecDepth 100000 in
section
variable {W w w' : World} {ss : List Int} {qA : Option Addr} {qc nt : Nat} {tA : Option Addr} {Tb To : Nat} {A : Nat → Option Addr} {len cap : Nat → Nat} {ops : Nat → List OpI} {sA : Option Addr} {sc : Nat} {xs : List Int}
theorem ScriptAt.keep (h : ScriptAt W w ss qA qc nt tA Tb To A len cap ops sA sc xs) (hk : ∀ b o v, b < W.heap.size → w.cell? ⟨b, o, none⟩ = some v → w'.cell? ⟨b, o, none⟩ = some v) : ScriptAt W w' ss qA qc nt tA Tb To A len cap ops sA sc xs where
  st i hi := by obtain ⟨b, o, h1, h2, h3⟩ := h.st i hi; exact ⟨b, o, h1, h2, hk _ _ _ h2 h3⟩
  sle := h.sle
  smx := h.smx
  slen := h.slen
  s64 := h.s64
  nmx := h.nmx
  ta := h.ta
  row i hi := by obtain ⟨h1, h2, h3⟩ := h.row i hi; exact ⟨h1, hk _ _ _ h1 h2, h3⟩
  olen := h.olen
  op i hi j o ho := by
    obtain ⟨h0, h0', b, f, h1, h2, h3, h4, h5, h6⟩ := h.op i hi j o ho
    exact ⟨h0, h0', b, f, h1, h2, hk _ _ _ h2 h3, hk _ _ _ h2 h4, hk _ _ _ h2 h5, hk _ _ _ h2 h6⟩
  sch i hi := by obtain ⟨b, o, h1, h2, h3⟩ := h.sch i hi; exact ⟨b, o, h1, h2, hk _ _ _ h2 h3⟩
  xmx := h.xmx
theorem ScriptAt.kpt (h : ScriptAt W w ss qA qc nt tA Tb To A len cap ops sA sc xs) (k : Kpt W w w') : ScriptAt W w' ss qA qc nt tA Tb To A len cap ops sA sc xs :=
  h.keep fun b o v hb hc => kpt_cell k hb hc
theorem ScriptAt.nums (h : ScriptAt W w ss qA qc nt tA Tb To A len cap ops sA sc xs) : NumsIn w qA qc ss := ⟨h.sle, h.smx, fun i hi => by obtain ⟨b, o, h1, _, h3⟩ := h.st i hi; exact ⟨b, o, h1, h3⟩⟩
theorem ScriptAt.rows (h : ScriptAt W w ss qA qc nt tA Tb To A len cap ops sA sc xs) : RowsAt w Tb To (min nt 64) A len cap := ⟨fun i hi => (h.row i hi).2.1, fun i hi => (h.row i hi).2.2.1, fun i hi => (h.row i hi).2.2.2.1, fun i hi => (h.row i hi).2.2.2.2⟩
theorem ScriptAt.opc (h : ScriptAt W w ss qA qc nt tA Tb To A len cap ops sA sc xs) : OpsCells W GI w (min nt 64) A len ops := ⟨h.olen, fun i hi o ho => by
    obtain ⟨j, hj, e⟩ := List.mem_iff_getElem.1 ho
    obtain ⟨z1, z2, _⟩ := h.op i hi j o (by rw [List.getElem?_eq_getElem hj, e])
    exact ⟨z1.1, z1.2, z2.2⟩, fun i hi j hj => by
    obtain ⟨_, _, b, f, h1, h2, h3, h4, h5, h6⟩ := h.op i hi j _ (List.getElem?_eq_getElem hj)
    obtain ⟨cs, t, r, k1, k2⟩ := cell_block h3
    refine ⟨b, f, cs, t, r, h1, k1, .inr h2, fun m hm => ?_⟩
    have c : ∀ k v, w.cell? ⟨b, f + j * 4 + k, none⟩ = some v → cs[f + j * 4 + k]? = some v := fun k v hc => (cell_of_row w b _ cs t r k1).symm.trans hc
    rcases m with _ | _ | _ | _ | m
    · exact k2.trans rfl
    · exact (c 1 _ h4).trans rfl
    · exact (c 2 _ h5).trans rfl
    · exact (c 3 _ h6).trans rfl
    · omega⟩
theorem ScriptAt.schi (h : ScriptAt W w ss qA qc nt tA Tb To A len cap ops sA sc xs) (Z : Nat → Prop) : SchI W (.slice sA xs.length sc) xs Z w := ⟨⟨sA, sc, rfl, fun i hi => by
    obtain ⟨b, o, h1, h2, h3⟩ := h.sch i hi
    obtain ⟨cs, t, r, k1, k2⟩ := cell_block h3
    exact ⟨b, o, cs, t, r, h1, k1, .inl h2, k2⟩⟩, h.xmx⟩
theorem ScriptAt.run (h : ScriptAt W w ss qA qc nt tA Tb To A len cap ops sA sc xs) (hW : W.heap.size ≤ w.heap.size) : RunIn w (fun i => .slice (A i) (min (len i) 65536) (cap i)) ops nt tA Tb To A len cap sA sc xs :=
  ⟨h.nmx, h.ta, h.rows, fun _ _ => rfl, ⟨fun i hi => ⟨A i, cap i, by rw [h.olen i hi]⟩, fun i hi j o ho => by
    obtain ⟨_, _, b, f, h1, h2, h3⟩ := h.op i hi j o ho
    exact ⟨b, f, cap i, by rw [h1, h.olen i hi], by omega, h3⟩⟩, h.olen, fun i hi o ho => ⟨(h.opc.good i hi o ho).1, (h.opc.good i hi o ho).2.1⟩, fun i hi => by
    obtain ⟨b, o, h1, _, h3⟩ := h.sch i hi
    exact ⟨b, o, h1, h3⟩, h.xmx⟩
structure PlS (W : World) (ss : List Int) (qA : Option Addr) (qc nt : Nat) (tA : Option Addr) (cp Tb To : Nat) (A : Nat → Option Addr) (len cap : Nat → Nat) (ops : Nat → List OpI) (sA : Option Addr) (sc : Nat) (xs : List Int) (most : Int) (b1 : Nat) (w : World) : Prop where
  box : ∃ t, w.heap[b1]? = some (.cells #[.slice qA ss.length qc, .slice tA nt cp, .slice sA xs.length sc, .int .i64 most] t (0, 0))
  sc_ : ScriptAt W w ss qA qc nt tA Tb To A len cap ops sA sc xs
  size : W.heap.size ≤ w.heap.size
  io : w.os = W.os ∧ w.output = W.output
theorem PlS.re {cp : Nat} {most : Int} {b1 : Nat} {y : World} {τ : Nat → Question → Nat} {n : Nat} (h : PlS W ss qA qc nt tA cp Tb To A len cap ops sA sc xs most b1 (y.re τ n)) : PlS W ss qA qc nt tA cp Tb To A len cap ops sA sc xs most b1 y := ⟨h.box, h.sc_.keep fun _ _ _ _ z => z, h.size, h.io⟩
theorem PlS.kpt {cp : Nat} {most : Int} {b1 : Nat} (h : PlS W ss qA qc nt tA cp Tb To A len cap ops sA sc xs most b1 w) (k : Kpt W w w') : PlS W ss qA qc nt tA cp Tb To A len cap ops sA sc xs most b1 w' := by
  obtain ⟨t, hb⟩ := h.box
  exact ⟨⟨t, k.near b1 _ t (0, 0) (.inr (by decide)) hb⟩, h.sc_.kpt k, Nat.le_trans h.size k.size, k.io.1.trans h.io.1, k.io.2.trans h.io.2⟩
theorem PlS.cells {cp : Nat} {most : Int} {b1 : Nat} (h : PlS W ss qA qc nt tA cp Tb To A len cap ops sA sc xs most b1 w) : w.cell? ⟨b1, 0, none⟩ = some (.slice qA ss.length qc) ∧ w.cell? ⟨b1, 1, none⟩ = some (.slice tA nt cp) ∧ w.cell? ⟨b1, 2, none⟩ = some (.slice sA xs.length sc) ∧ w.cell? ⟨b1, 3, none⟩ = some (.int .i64 most) := by
  obtain ⟨t, hb⟩ := h.box
  exact ⟨cell_of_row w b1 0 _ t (0, 0) hb, cell_of_row w b1 1 _ t (0, 0) hb, cell_of_row w b1 2 _ t (0, 0) hb, cell_of_row w b1 3 _ t (0, 0) hb⟩
theorem _root_.Go.Proofs.Yteainbnoemkfcaa.TraceAt.same_re {y : World} {τ : Nat → Question → Nat} {k n : Nat} {ans : Nat → List Ans} {ord sta : List Int} {A : Option Addr} {c : Nat} {ov tv : Value} (h : TraceAt (y.re τ k) n ans ord sta A c ov tv) : TraceAt y n ans ord sta A c ov tv := ⟨h.ord, h.sta, h.row⟩
theorem any_read {P : Program} {κ : Type} {L : Lg P κ} {md : Region.Mode} {os : Array Oper} {S : World → Prop} {Q : κ → Act → World → Prop} {i : Nat} {oi : Oper} {fuel : Nat} {listed : Array Bool} {t : κ} {a : Act} {w : World} (d : Option Tmp) (hi : os[i]? = some oi) (hd : oi.dst = d) (hre : ∀ y τ n, S (World.re y τ n) → S y) (hQ : ∀ t a y τ n, Q t a (World.re y τ n) → Q t a y)
    (hs : Region.noSelect os = true) (hf : Region.free md os listed i = true) (hr : (Region.ready md os listed).contains i = true) (hg : Region.wanted oi (yielded os a.tmps) = true) (hS : S w)
    (h : ∃ v, (∀ wq, S wq → (execOp a.eval oi).run P wq = .ok (.value v) wq) ∧ AnyT L md os S Q fuel (listed.setIfInBounds i true) t (a.put d v) w) : AnyT L md os S Q (fuel + 1) listed t a w := by
  obtain ⟨v, h1, h2⟩ := h
  subst hd
  exact AnyT.take hi hre hQ hs hf hr (.inl ⟨hg, h1⟩) hS h2
set_option maxHeartbeats 4000000 in
set_option maxRecDepth 100000 in
theorem plays_true (cp : Nat) (most : Int) (hsc : ScriptAt W W ss qA qc nt tA Tb To A len cap ops sA sc xs) :
    (lgA Try.tame (PostT (.bool true) W) W).T () (Frame.enter Try.prog 3 #[.agg #[.slice qA ss.length qc, .slice tA nt cp, .slice sA xs.length sc, .int .i64 most]] .normal) [] (seen0 W) := by
  have hs : ¬ (lgA Try.tame (PostT (.bool true) W) W).strict := fun h => h
  have hsz : (seen0 W).heap.size = W.heap.size := seen0_size W
  have hio : (seen0 W).os = W.os ∧ (seen0 W).output = W.output := seen0_io W
  have hsc0 : ScriptAt W (seen0 W) ss qA qc nt tA Tb To A len cap ops sA sc xs := hsc.keep fun b o v _ h => by rw [seen0_cell]; exact h
  generalize seen0 W = x at hsz hio hsc0 ⊢
  rw [show Frame.enter Try.prog 3 #[.agg #[.slice qA ss.length qc, .slice tA nt cp, .slice sA xs.length sc, .int .i64 most]] .normal = Frame.at { (default : Frame) with fn := 3, kind := .normal } ⟨#[.agg #[.slice qA ss.length qc, .slice tA nt cp, .slice sA xs.length sc, .int .i64 most]] ++ Array.replicate (Try.f3.ntmps - 1) undef, []⟩ [.code (Try.f3.body.getD .skip)] from by simp [Frame.enter, Frame.at, Try.func3]; rfl]
  simp only [Try.f3, Option.getD_some, Nat.reduceSub, Array.replicate_succ, Array.replicate_zero, List.push_toArray, List.append_toArray, List.nil_append, List.cons_append]
  refine Lg.move _ (fun _ _ => step_seq) (fun h => h) ?_
  refine Lg.code fun K hK y τ n' hy => ?_
  subst hy
  go_wp2
  refine hK _ _ (fun h => absurd h hs) ?_
  clear hK K
  have hsc1 : ScriptAt W y ss qA qc nt tA Tb To A len cap ops sA sc xs := hsc0.keep fun _ _ _ _ h => h
  have hsz : y.heap.size = W.heap.size := hsz
  have hio : y.os = W.os ∧ y.output = W.output := hio
  clear hsc0 hsc
  obtain ⟨b1, hb1⟩ : ∃ b1, b1 = y.heap.size := ⟨_, rfl⟩
  have hpl : PlS W ss qA qc nt tA cp Tb To A len cap ops sA sc xs most b1 (y.alloc (.cells #[.slice qA ss.length qc, .slice tA nt cp, .slice sA xs.length sc, .int .i64 most] 26)) :=
    ⟨⟨_, hb1 ▸ Blk.new y 26 #[.slice qA ss.length qc, .slice tA nt cp, .slice sA xs.length sc, .int .i64 most]⟩, hsc1.keep fun b o v hb h => (World.cell?_of_block (a := ⟨b, o, none⟩) (Below.heap_alloc _ _ b (by omega))).trans h, by simp; omega, hio⟩
  have HP := Lib.hid hpl
  clear hpl hsc1
  rw [← hb1]
  clear hb1
  generalize y.alloc _ = z at *
  refine Lg.move _ (fun _ _ => step_seq) (fun h => h) ?_
  refine Lg.move _ (fun _ _ => step_seq) (fun h => h) ?_
  refine Lg.move _ (fun _ _ => step_region) (fun h => h) ?_
  refine Lg.call (i := 0) (rest := [1]) (f := 8) (args := #[]) rfl rfl (fun y => by go_simp) (fixed_true Try.tame (PostT (.bool true) W) W z HP.out.size) ?_
  rintro vv t' w1 ⟨rfl, hk⟩
  have HP1 := Lib.hid (HP.out.kpt hk)
  clear hk HP
  rw [Frame.finish_at]
  walk_nrm
  refine (show (lgA Try.tame (PostT (.bool true) W) W).T _ (Frame.at _ ⟨_, []⟩ (.inRegion _ (List.range' 1 (1 + 0)) :: _)) [] w1 from ?_)
  refine Lg.pre 1 1 0 (by simp) fun K hK q τ n' hq => ?_
  subst hq
  simp only [List.drop_succ_cons, List.drop_zero, List.take_succ_cons, List.take_zero]
  go_wp2
  refine hK _ _ (fun h => absurd h hs) ?_
  clear hK K
  have HP2 := Lib.hid HP1.out.re
  clear HP1
  refine Lg.move _ (fun _ _ => step_region_end) (fun h => h) ?_
  refine Lg.move _ (fun _ _ => step_cond (t := false) rfl) (fun h => h) ?_
  refine Lg.move _ (fun _ _ => step_skip) (fun h => h) ?_
  refine Lg.move _ (fun _ _ => step_seq) (fun h => h) ?_
  refine Lg.any hs (PlS W ss qA qc nt tA cp Tb To A len cap ops sA sc xs most b1) (by kernel_rfl) ?_
  simp only [List.size_toArray, List.length_cons, List.length_nil, Nat.reduceAdd]
  refine any_read (i := 0) (fuel := 19) (some 5) rfl rfl (fun _ _ _ => PlS.re) (fun _ _ _ _ _ => (Lg.re_iff _).1) (by kernel_rfl) (by kernel_rfl) (by kernel_rfl) rfl HP2.out ?_
  apply Exists.intro
  refine ⟨fun wq hw => ?_, ?_⟩
  · obtain ⟨hw1, hw2, hw3, hw4⟩ := hw.cells
    go_simp
    rfl
  simp only [Act.put, List.setIfInBounds_toArray, List.set_cons_zero, List.set_cons_succ]
  refine any_read (i := 1) (fuel := 18) (some 6) rfl rfl (fun _ _ _ => PlS.re) (fun _ _ _ _ _ => (Lg.re_iff _).1) (by kernel_rfl) (by kernel_rfl) (by kernel_rfl) rfl HP2.out ?_
  apply Exists.intro
  refine ⟨fun wq hw => ?_, ?_⟩
  · obtain ⟨hw1, hw2, hw3, hw4⟩ := hw.cells
    go_simp
    rfl
  simp only [Act.put, List.setIfInBounds_toArray, List.set_cons_zero, List.set_cons_succ]
  refine any_read (i := 2) (fuel := 17) (some 7) rfl rfl (fun _ _ _ => PlS.re) (fun _ _ _ _ _ => (Lg.re_iff _).1) (by kernel_rfl) (by kernel_rfl) (by kernel_rfl) rfl HP2.out ?_
  apply Exists.intro
  refine ⟨fun wq hw => ?_, ?_⟩
  · obtain ⟨hw1, hw2, hw3, hw4⟩ := hw.cells
    go_simp
    rfl
  simp only [Act.put, List.setIfInBounds_toArray, List.set_cons_zero, List.set_cons_succ]
  refine any_read (i := 3) (fuel := 16) (some 8) rfl rfl (fun _ _ _ => PlS.re) (fun _ _ _ _ _ => (Lg.re_iff _).1) (by kernel_rfl) (by kernel_rfl) (by kernel_rfl) rfl HP2.out ?_
  apply Exists.intro
  refine ⟨fun wq hw => ?_, ?_⟩
  · obtain ⟨hw1, hw2, hw3, hw4⟩ := hw.cells
    go_simp
    rfl
  simp only [Act.put, List.setIfInBounds_toArray, List.set_cons_zero, List.set_cons_succ]
  refine any_read (i := 4) (fuel := 15) (some 9) rfl rfl (fun _ _ _ => PlS.re) (fun _ _ _ _ _ => (Lg.re_iff _).1) (by kernel_rfl) (by kernel_rfl) (by kernel_rfl) rfl HP2.out ?_
  apply Exists.intro
  refine ⟨fun wq hw => ?_, ?_⟩
  · obtain ⟨hw1, hw2, hw3, hw4⟩ := hw.cells
    go_simp
    rfl
  simp only [Act.put, List.setIfInBounds_toArray, List.set_cons_zero, List.set_cons_succ]
  refine any_read (i := 5) (fuel := 14) (some 10) rfl rfl (fun _ _ _ => PlS.re) (fun _ _ _ _ _ => (Lg.re_iff _).1) (by kernel_rfl) (by kernel_rfl) (by kernel_rfl) rfl HP2.out ?_
  apply Exists.intro
  refine ⟨fun wq hw => ?_, ?_⟩
  · obtain ⟨hw1, hw2, hw3, hw4⟩ := hw.cells
    go_simp
    rfl
  simp only [Act.put, List.setIfInBounds_toArray, List.set_cons_zero, List.set_cons_succ]
  refine any_read (i := 6) (fuel := 13) (some 11) rfl rfl (fun _ _ _ => PlS.re) (fun _ _ _ _ _ => (Lg.re_iff _).1) (by kernel_rfl) (by kernel_rfl) (by kernel_rfl) rfl HP2.out ?_
  apply Exists.intro
  refine ⟨fun wq hw => ?_, ?_⟩
  · obtain ⟨hw1, hw2, hw3, hw4⟩ := hw.cells
    go_simp
    rfl
  simp only [Act.put, List.setIfInBounds_toArray, List.set_cons_zero, List.set_cons_succ]
  refine any_read (i := 7) (fuel := 12) (some 12) rfl rfl (fun _ _ _ => PlS.re) (fun _ _ _ _ _ => (Lg.re_iff _).1) (by kernel_rfl) (by kernel_rfl) (by kernel_rfl) rfl HP2.out ?_
  apply Exists.intro
  refine ⟨fun wq hw => ?_, ?_⟩
  · obtain ⟨hw1, hw2, hw3, hw4⟩ := hw.cells
    go_simp
    rfl
  simp only [Act.put, List.setIfInBounds_toArray, List.set_cons_zero, List.set_cons_succ]
  refine any_read (i := 9) (fuel := 11) (some 14) rfl rfl (fun _ _ _ => PlS.re) (fun _ _ _ _ _ => (Lg.re_iff _).1) (by kernel_rfl) (by kernel_rfl) (by kernel_rfl) rfl HP2.out ?_
  apply Exists.intro
  refine ⟨fun wq hw => ?_, ?_⟩
  · obtain ⟨hw1, hw2, hw3, hw4⟩ := hw.cells
    go_simp
    rfl
  simp only [Act.put, List.setIfInBounds_toArray, List.set_cons_zero, List.set_cons_succ]
  refine any_read (i := 10) (fuel := 10) (some 15) rfl rfl (fun _ _ _ => PlS.re) (fun _ _ _ _ _ => (Lg.re_iff _).1) (by kernel_rfl) (by kernel_rfl) (by kernel_rfl) rfl HP2.out ?_
  apply Exists.intro
  refine ⟨fun wq hw => ?_, ?_⟩
  · obtain ⟨hw1, hw2, hw3, hw4⟩ := hw.cells
    go_simp
    rfl
  simp only [Act.put, List.setIfInBounds_toArray, List.set_cons_zero, List.set_cons_succ]
  refine any_read (i := 11) (fuel := 9) (some 16) rfl rfl (fun _ _ _ => PlS.re) (fun _ _ _ _ _ => (Lg.re_iff _).1) (by kernel_rfl) (by kernel_rfl) (by kernel_rfl) rfl HP2.out ?_
  apply Exists.intro
  refine ⟨fun wq hw => ?_, ?_⟩
  · obtain ⟨hw1, hw2, hw3, hw4⟩ := hw.cells
    go_simp
    rfl
  simp only [Act.put, List.setIfInBounds_toArray, List.set_cons_zero, List.set_cons_succ]
  refine any_read (i := 12) (fuel := 8) (some 17) rfl rfl (fun _ _ _ => PlS.re) (fun _ _ _ _ _ => (Lg.re_iff _).1) (by kernel_rfl) (by kernel_rfl) (by kernel_rfl) rfl HP2.out ?_
  apply Exists.intro
  refine ⟨fun wq hw => ?_, ?_⟩
  · obtain ⟨hw1, hw2, hw3, hw4⟩ := hw.cells
    go_simp
    rfl
  simp only [Act.put, List.setIfInBounds_toArray, List.set_cons_zero, List.set_cons_succ]
  refine any_read (i := 13) (fuel := 7) (some 18) rfl rfl (fun _ _ _ => PlS.re) (fun _ _ _ _ _ => (Lg.re_iff _).1) (by kernel_rfl) (by kernel_rfl) (by kernel_rfl) rfl HP2.out ?_
  apply Exists.intro
  refine ⟨fun wq hw => ?_, ?_⟩
  · obtain ⟨hw1, hw2, hw3, hw4⟩ := hw.cells
    go_simp
    rfl
  simp only [Act.put, List.setIfInBounds_toArray, List.set_cons_zero, List.set_cons_succ]
  refine any_read (i := 14) (fuel := 6) (some 19) rfl rfl (fun _ _ _ => PlS.re) (fun _ _ _ _ _ => (Lg.re_iff _).1) (by kernel_rfl) (by kernel_rfl) (by kernel_rfl) rfl HP2.out ?_
  apply Exists.intro
  refine ⟨fun wq hw => ?_, ?_⟩
  · obtain ⟨hw1, hw2, hw3, hw4⟩ := hw.cells
    go_simp
    rfl
  simp only [Act.put, List.setIfInBounds_toArray, List.set_cons_zero, List.set_cons_succ]
  refine any_read (i := 15) (fuel := 5) (some 20) rfl rfl (fun _ _ _ => PlS.re) (fun _ _ _ _ _ => (Lg.re_iff _).1) (by kernel_rfl) (by kernel_rfl) (by kernel_rfl) rfl HP2.out ?_
  apply Exists.intro
  refine ⟨fun wq hw => ?_, ?_⟩
  · obtain ⟨hw1, hw2, hw3, hw4⟩ := hw.cells
    go_simp
    rfl
  simp only [Act.put, List.setIfInBounds_toArray, List.set_cons_zero, List.set_cons_succ]
  refine any_read (i := 16) (fuel := 4) (some 21) rfl rfl (fun _ _ _ => PlS.re) (fun _ _ _ _ _ => (Lg.re_iff _).1) (by kernel_rfl) (by kernel_rfl) (by kernel_rfl) rfl HP2.out ?_
  apply Exists.intro
  refine ⟨fun wq hw => ?_, ?_⟩
  · obtain ⟨hw1, hw2, hw3, hw4⟩ := hw.cells
    go_simp
    rfl
  simp only [Act.put, List.setIfInBounds_toArray, List.set_cons_zero, List.set_cons_succ]
  have hsc := HP2.out.sc_
  refine AnyT.one (i := 8) (fuel := 3) (by kernel_rfl) (.inr ⟨_, 10, #[.slice qA ss.length qc, .slice tA nt cp, .slice sA xs.length sc, .int .i64 most], rfl, rfl, fun y => by go_simp, (play_any Try.tame (PostT (.bool true) W) W ss qA qc (fun x hx => (hsc.s64 x hx).1) hsc.slen tA Tb To nt cp hsc.ta hsc.nmx A len cap ops (.slice sA xs.length sc) xs most q HP2.out.size hsc.nums hsc.rows hsc.opc (hsc.schi _)).mono ?_⟩)
  intro v t2 w2 hpd
  have hk2 : Kpt W q w2 := ⟨hpd.size, hpd.near, hpd.io⟩
  have HP3 := Lib.hid (HP2.out.kpt hk2)
  refine ⟨HP3.out, ?_⟩
  obtain ⟨ab, ov, tv, H, hab, rfl, how, htw, hans, -, -⟩ := hpd.ex
  have htr := AnsAll.trace hans how htw
  have HT := Lib.hid htr
  clear hpd hk2 hab how htw hans htr hsc HP2
  simp only [Act.put, List.setIfInBounds_toArray, List.set_cons_zero, List.set_cons_succ]
  refine AnyT.one (i := 17) (fuel := 2) (by kernel_rfl) (.inl fun y τ n hy => wpOp_of rfl rfl ?_)
  subst hy
  have HP4 := Lib.hid HP3.out.re
  have HT2 : Hid (TraceAt y _ _ _ _ _ _ _ _) := Lib.hid (HT.out.same_re)
  clear HP3 HT
  have hsc := HP4.out.sc_
  have hrp := refplay_ok y (fun i => .slice (A i) (min (len i) 65536) (cap i)) ss qA qc hsc.nums hsc.s64 hsc.slen nt tA cp Tb To sA sc xs most (hsc.run HP4.out.size) (fun i hi o ho => by
    obtain ⟨j, hj, e⟩ := List.mem_iff_getElem.1 ho
    exact (hsc.op i hi j o (by rw [List.getElem?_eq_getElem hj, e])).2.1)
  have HRP := Lib.hid hrp
  clear hrp hsc
  generalize playS ss ops nt xs most = PR at *
  unfold Oper.wp
  go_simp
  refine HRP.out.mono ?_
  rintro e w3 ⟨Aa, ca, ov2, tv2, rfl, htr2, hb3⟩
  dsimp only
  have hk3 : Kpt W y w3 := Kpt.old ⟨hb3.size, fun b hb => hb3.block b hb, hb3.os, hb3.output⟩
  have HP5 := Lib.hid (HP4.out.kpt hk3)
  have HT3 := Lib.hid (HT2.out.below hb3)
  have HT4 := Lib.hid htr2
  clear hk3 hb3 htr2 HRP HT2 HP4
  refine ⟨HP5.out, ?_⟩
  refine AnyT.one (i := 18) (fuel := 1) (by kernel_rfl) (.inl fun y2 τ n hy => wpOp_of rfl rfl ?_)
  subst hy
  have HP6 := Lib.hid HP5.out.re
  have hnm := HP6.out.sc_.nmx
  have HTE := Lib.hid (trace_eq y2 (min nt 64) _ _ _ _ _ (min nt 64) _ _ _ _ _ (decide (0 < PR.m.left (min nt 64))) HT3.out.same_re HT4.out.same_re (by unfold maxLen; omega))
  clear HP5 HT3 HT4 hnm
  unfold Oper.wp
  go_simp
  refine HTE.out.mono ?_
  rintro e w4 ⟨rfl, hb4⟩
  dsimp only
  have hk4 : Kpt W y2 w4 := Kpt.old ⟨hb4.size, fun b hb => hb4.block b hb, hb4.os, hb4.output⟩
  have HP7 := Lib.hid (HP6.out.kpt hk4)
  clear hk4 hb4 HTE HP6
  refine ⟨HP7.out, ?_⟩
  refine AnyT.one (i := 19) (fuel := 0) (by kernel_rfl) (.inl fun y3 τ n hy => wpOp_of rfl rfl ?_)
  subst hy
  have HP8 := Lib.hid HP7.out.re
  clear HP7
  unfold Oper.wp
  go_simp
  refine ⟨HP8.out, ?_⟩
  refine AnyT.done (by kernel_rfl) ?_ _
  refine lgA_rest Try.tame rfl Try.func3 (by kernel_rfl) (fun tm w v h w' => ?_) fun u τ2 n2 hu => ?_
  · simp [results, Try.f3] at h ⊢
    exact h
  subst hu
  have hio2 := HP8.out.io
  clear HP8
  refine wp_ret ?_
  refine bodyPost_ret (results_tmp rfl _ _ _) rfl ?_
  exact ⟨rfl, hio2.1, hio2.2⟩
end
end Go.Proofs.Yteainbnoemkfcaa
namespace Go.Proofs.Yteainbnoemkfcaa
open Go.ChangeShapes Go.WideShapes Go.ChangeAt Go.RowKit Go.Deep Go.Turn
set_option linter.unusedVariables false
set_option linter.unusedSectionVars false
set_option linter.unusedSimpArgs false
theorem list_of {α : Type} {Q : Nat → α → Prop} (m : Nat) (h : ∀ j, j < m → ∃ x, Q j x) : ∃ l : List α, l.length = m ∧ ∀ j x, l[j]? = some x → Q j x := by
  induction m with
  | zero => exact ⟨[], rfl, fun j x hx => by simp at hx⟩
  | succ m ih =>
    obtain ⟨l, hl, hq⟩ := ih fun j hj => h j (by omega)
    obtain ⟨y, hy⟩ := h m (by omega)
    refine ⟨l ++ [y], by simp [hl], fun j x hx => ?_⟩
    rcases Nat.lt_or_ge j m with hlt | hge
    · rw [List.getElem?_append_left (by omega)] at hx
      exact hq j x hx
    · have hj : j < (l ++ [y]).length := (List.getElem?_eq_some_iff.1 hx).1
      have : j = m := by simp [hl] at hj; omega
      subst this
      rw [List.getElem?_append_right (by omega), hl] at hx
      simp at hx
      subst hx
      exact hy
section
variable {H : Type} {enc : TypeId × Value → H}
theorem lit_r64 {k : Int} (h : (Lit.int .i64 k).wf = true) : R64 k := by
  simp [Lit.wf, IntKind.min, IntKind.max, IntKind.signed, IntKind.bits] at h
  unfold R64
  omega
set_option maxRecDepth 100000 in
theorem open_nums {W : World} {sp : Nat → Bool} {fuel : Nat} {cs : List Value} {x : DataW H × List MemPlace} {t e : TypeId} (ht : Try.prog.underlying t = some (.slice e)) (he : Try.prog.underlying e = some (.int .i64)) (hc : Try.prog.cellsOf e = 1) (h : DataW.trod enc Try.prog W 0 sp true fuel t cs = some x) :
    ∃ (A : Option Addr) (cap : Nat) (xs : List Int), cs = [.slice A xs.length cap] ∧ xs.length ≤ cap ∧ cap ≤ maxLen ∧ (∀ i, i < xs.length → ∃ b o, A = some ⟨b, o, none⟩ ∧ b < W.heap.size ∧ W.cell? ⟨b, o + i, none⟩ = some (.int .i64 (xs.getD i 0))) ∧ (∀ y ∈ xs, R64 y) ∧ (xs.length = 0 ∨ ∃ el spa, x.1 = .slice el spa ∧ xs.length ≤ el.length + spa.length) := by
  rcases open_slice1 ht hc h with ⟨rfl, rfl⟩ | ⟨a, len, cap, m, n, V, D, Pl, rfl, hb, hl, hm, hmm, rfl, hx⟩
  · exact ⟨none, 0, [], rfl, Nat.le_refl _, by unfold maxLen; omega, fun i hi => (by simp at hi), fun y hy => (by cases hy), .inl rfl⟩
  have hlm : len ≤ m := by rw [hmm]; split <;> omega
  obtain ⟨xs, hxl, hxs⟩ := list_of (α := Int) (Q := fun j y => R64 y ∧ ∃ b o, a = ⟨b, o, none⟩ ∧ b < W.heap.size ∧ W.cell? ⟨b, o + j, none⟩ = some (.int .i64 y)) len fun j hj => by
    obtain ⟨c1, c2⟩ := hx j (by omega)
    obtain ⟨y, e0, _, hw⟩ := DataW.trod_int he c2
    simp only [List.cons.injEq, and_true] at e0
    rw [e0] at c1
    have ha : a.spot = none := by
      obtain ⟨c0, _⟩ := hx 0 (by omega)
      have : W.cell? a = some (V 0) := by simpa [Addr.add] using c0
      exact (spot_none this).1
    obtain ⟨b, o, s⟩ := a
    simp only at ha
    subst ha
    have e : (⟨b, o, none⟩ : Addr).add j = ⟨b, o + j, none⟩ := by
      unfold Addr.add
      by_cases h4 : j = 0 <;> simp [h4]
    rw [e] at c1
    exact ⟨y, lit_r64 hw, b, o, rfl, (spot_none c1).2, c1⟩
  refine ⟨some a, cap, xs, by rw [hxl], by omega, hm, fun i hi => ?_, fun y hy => ?_, .inr ⟨_, _, rfl, ?_⟩⟩
  · obtain ⟨_, b, o, e1, e2, e3⟩ := hxs i xs[i] (List.getElem?_eq_getElem hi)
    exact ⟨b, o, by rw [e1], e2, by rw [e3, List.getD_eq_getElem?_getD, List.getElem?_eq_getElem hi]; rfl⟩
  · obtain ⟨j, hj, e⟩ := List.mem_iff_getElem.1 hy
    exact (hxs j y (by rw [List.getElem?_eq_getElem hj, e])).1
  · simp [hxl] <;> omega
set_option maxRecDepth 100000 in
theorem open_ops2 {W : World} {sp : Nat → Bool} {fuel : Nat} {cs : List Value} {x : DataW H × List MemPlace} (h : DataW.trod enc Try.prog W 0 sp true fuel 34 cs = some x) :
    ∃ (A : Option Addr) (len cap : Nat) (ops : List OpI), cs = [.slice A len cap] ∧ len ≤ cap ∧ cap ≤ maxLen ∧ (A = none → cap = 0) ∧ ops.length = min len 65536 ∧ ∀ j o, ops[j]? = some o → o.Ok ∧ R64 o.b ∧ ∃ b f, A = some ⟨b, f, none⟩ ∧ b < W.heap.size ∧ W.cell? ⟨b, f + j * 4, none⟩ = some (.int .i64 o.kind) ∧ W.cell? ⟨b, f + j * 4 + 1, none⟩ = some (.int .i64 o.a) ∧ W.cell? ⟨b, f + j * 4 + 2, none⟩ = some (.int .i64 o.b) ∧ W.cell? ⟨b, f + j * 4 + 3, none⟩ = some (.int .i64 o.c) := by
  rcases open_slice Try.underlying34 h with ⟨rfl, rfl⟩ | ⟨a, len, cap, m, n, D, Pl, rfl, hb, hl, hm, hmm, rfl, hx⟩
  · exact ⟨none, 0, 0, [], rfl, Nat.le_refl _, by unfold maxLen; omega, fun _ => rfl, rfl, fun j o hj => by simp at hj⟩
  have hlm : len ≤ m := by rw [hmm]; split <;> omega
  obtain ⟨ops, hol, ho⟩ := list_of (α := OpI) (Q := fun j o => o.Ok ∧ R64 o.b ∧ ∃ b f, a = ⟨b, f, none⟩ ∧ b < W.heap.size ∧ W.cell? ⟨b, f + j * 4, none⟩ = some (.int .i64 o.kind) ∧ W.cell? ⟨b, f + j * 4 + 1, none⟩ = some (.int .i64 o.a) ∧ W.cell? ⟨b, f + j * 4 + 2, none⟩ = some (.int .i64 o.b) ∧ W.cell? ⟨b, f + j * 4 + 3, none⟩ = some (.int .i64 o.c)) (min len 65536) fun j hj => by
    have ha : a.spot = none := by
      obtain ⟨cs', h1, _⟩ := hx 0 (by omega)
      rw [Try.opCells] at h1
      obtain ⟨_, hlen, hcell⟩ := World.cells?_some h1
      have c0 := hcell 0 (by omega)
      match cs', hlen with
      | [v0, v1, v2, v3], _ =>
        have c0 : W.cell? a = some v0 := by simpa [Addr.add] using c0
        exact (spot_none c0).1
    obtain ⟨b, o, s⟩ := a
    simp only at ha
    subst ha
    obtain ⟨cs', h1, h2⟩ := hx j (by omega)
    rw [Try.opCells] at h1
    obtain ⟨_, hlen, hcell⟩ := World.cells?_some h1
    match cs', hlen with
    | [v1, v2, v3, v4], _ =>
      obtain ⟨xs, k', _, _, _, hlx, hf⟩ := DataW.trod_struct Try.underlying49 h2
      match xs, hlx with
      | [x0, x1, x2, x3], _ =>
        have f0 : DataW.trod enc Try.prog W 0 sp true k' 3 [v1] = some x0 := by
          have h := hf 0 _ rfl
          change DataW.trod enc Try.prog W 0 sp true k' 3 (List.take (Try.prog.cellsOf 3) (List.drop 0 [v1, v2, v3, v4])) = some x0 at h
          rw [Try.intCells] at h
          exact h
        have f1 : DataW.trod enc Try.prog W 0 sp true k' 2 [v2] = some x1 := by
          have h := hf 1 _ rfl
          change DataW.trod enc Try.prog W 0 sp true k' 2 (List.take (Try.prog.cellsOf 2) (List.drop 1 [v1, v2, v3, v4])) = some x1 at h
          rw [Try.longCells] at h
          exact h
        have f2 : DataW.trod enc Try.prog W 0 sp true k' 2 [v3] = some x2 := by
          have h := hf 2 _ rfl
          change DataW.trod enc Try.prog W 0 sp true k' 2 (List.take (Try.prog.cellsOf 2) (List.drop 2 [v1, v2, v3, v4])) = some x2 at h
          rw [Try.longCells] at h
          exact h
        have f3 : DataW.trod enc Try.prog W 0 sp true k' 2 [v4] = some x3 := by
          have h := hf 3 _ rfl
          change DataW.trod enc Try.prog W 0 sp true k' 2 (List.take (Try.prog.cellsOf 2) (List.drop 3 [v1, v2, v3, v4])) = some x3 at h
          rw [Try.longCells] at h
          exact h
        obtain ⟨n0, g0, _, _⟩ := DataW.trod_int Try.underlying3 f0
        obtain ⟨n1, g1, _, hw1⟩ := DataW.trod_int Try.underlying2 f1
        obtain ⟨n2, g2, _, hw2⟩ := DataW.trod_int Try.underlying2 f2
        obtain ⟨n3, g3, _, _⟩ := DataW.trod_int Try.underlying2 f3
        simp only [List.cons.injEq, and_true] at g0 g1 g2 g3
        subst g0; subst g1; subst g2; subst g3
        have c0 := hcell 0 (by omega)
        have c1 := hcell 1 (by omega)
        have c2 := hcell 2 (by omega)
        have c3 := hcell 3 (by omega)
        have e : ∀ k, ((⟨b, o, none⟩ : Addr).add (j * 4)).add k = ⟨b, o + j * 4 + k, none⟩ := fun k => by
          unfold Addr.add
          by_cases h4 : j * 4 = 0 <;> by_cases hk : k = 0 <;> simp [h4, hk]
        rw [e] at c0 c1 c2 c3
        exact ⟨⟨n0, n1, n2, n3⟩, lit_r64 hw1, lit_r64 hw2, b, o, rfl, (spot_none c1).2, c0, c1, c2, c3⟩
  refine ⟨some a, len, cap, ops, rfl, hl, hm, fun h => (by cases h), hol, fun j o hj => ?_⟩
  obtain ⟨h1, h2, b, f, rfl, h3⟩ := ho j o hj
  exact ⟨h1, h2, b, f, rfl, h3⟩
theorem Try.sliceCells : Try.prog.cellsOf 34 = 1 := by kernel_rfl
theorem Try.numsCells : Try.prog.cellsOf 22 = 1 := by kernel_rfl
theorem Try.thrsCells : Try.prog.cellsOf 23 = 1 := by kernel_rfl
theorem Try.intsCells : Try.prog.cellsOf 24 = 1 := by kernel_rfl
theorem Try.scriptCells : Try.prog.cellsOf 26 = 4 := by kernel_rfl
set_option maxRecDepth 100000 in
theorem open_threads {W : World} {sp : Nat → Bool} {fuel : Nat} {cs : List Value} {x : DataW H × List MemPlace} (h : DataW.trod enc Try.prog W 0 sp true fuel 23 cs = some x) :
    ∃ (tA : Option Addr) (nt cp Tb To : Nat) (A : Nat → Option Addr) (len cap : Nat → Nat) (ops : Nat → List OpI), cs = [.slice tA nt cp] ∧ nt ≤ maxLen ∧ (0 < nt → tA = some ⟨Tb, To, none⟩) ∧
      (∀ i, i < min nt 64 → Tb < W.heap.size ∧ W.cell? ⟨Tb, To + i, none⟩ = some (.slice (A i) (len i) (cap i)) ∧ len i ≤ cap i ∧ cap i ≤ maxLen ∧ (A i = none → cap i = 0)) ∧ (∀ i, i < min nt 64 → (ops i).length = min (len i) 65536) ∧
      ∀ i, i < min nt 64 → ∀ j o, (ops i)[j]? = some o → o.Ok ∧ R64 o.b ∧ ∃ b f, A i = some ⟨b, f, none⟩ ∧ b < W.heap.size ∧ W.cell? ⟨b, f + j * 4, none⟩ = some (.int .i64 o.kind) ∧ W.cell? ⟨b, f + j * 4 + 1, none⟩ = some (.int .i64 o.a) ∧ W.cell? ⟨b, f + j * 4 + 2, none⟩ = some (.int .i64 o.b) ∧ W.cell? ⟨b, f + j * 4 + 3, none⟩ = some (.int .i64 o.c) := by
  rcases open_slice1 Try.underlying23 Try.sliceCells h with ⟨rfl, rfl⟩ | ⟨a, nt, cp, m, n, V, D, Pl, rfl, hb, hl, hm, hmm, rfl, hx⟩
  · exact ⟨none, 0, 0, 0, 0, fun _ => none, fun _ => 0, fun _ => 0, fun _ => [], rfl, Nat.zero_le _, fun h => absurd h (Nat.lt_irrefl _), fun i hi => absurd hi (by omega), fun i hi => absurd hi (by omega), fun i hi => absurd hi (by omega)⟩
  have hlm : nt ≤ m := by rw [hmm]; split <;> omega
  by_cases h0 : nt = 0
  · subst h0
    exact ⟨some a, 0, cp, 0, 0, fun _ => none, fun _ => 0, fun _ => 0, fun _ => [], rfl, Nat.zero_le _, fun h => absurd h (Nat.lt_irrefl _), fun i hi => absurd hi (by omega), fun i hi => absurd hi (by omega), fun i hi => absurd hi (by omega)⟩
  have ha : a.spot = none := by
    obtain ⟨c0, _⟩ := hx 0 (by omega)
    have : W.cell? a = some (V 0) := by simpa [Addr.add] using c0
    exact (spot_none this).1
  obtain ⟨Tb, To, s⟩ := a
  simp only at ha
  subst ha
  have hex : ∀ i, ∃ p : Option Addr × Nat × Nat × List OpI, i < nt → Tb < W.heap.size ∧ W.cell? ⟨Tb, To + i, none⟩ = some (.slice p.1 p.2.1 p.2.2.1) ∧ p.2.1 ≤ p.2.2.1 ∧ p.2.2.1 ≤ maxLen ∧ (p.1 = none → p.2.2.1 = 0) ∧ p.2.2.2.length = min p.2.1 65536 ∧ ∀ j o, p.2.2.2[j]? = some o → o.Ok ∧ R64 o.b ∧ ∃ b f, p.1 = some ⟨b, f, none⟩ ∧ b < W.heap.size ∧ W.cell? ⟨b, f + j * 4, none⟩ = some (.int .i64 o.kind) ∧ W.cell? ⟨b, f + j * 4 + 1, none⟩ = some (.int .i64 o.a) ∧ W.cell? ⟨b, f + j * 4 + 2, none⟩ = some (.int .i64 o.b) ∧ W.cell? ⟨b, f + j * 4 + 3, none⟩ = some (.int .i64 o.c) := fun i => by
    by_cases hi : i < nt
    · obtain ⟨c1, c2⟩ := hx i (by omega)
      obtain ⟨A, len, cap, ops, e, h1, h2, h3, h4, h5⟩ := open_ops2 c2
      simp only [List.cons.injEq, and_true] at e
      rw [e] at c1
      have ea : (⟨Tb, To, none⟩ : Addr).add i = ⟨Tb, To + i, none⟩ := by
        unfold Addr.add
        by_cases h4 : i = 0 <;> simp [h4]
      rw [ea] at c1
      exact ⟨(A, len, cap, ops), fun _ => ⟨(spot_none c1).2, c1, h1, h2, h3, h4, h5⟩⟩
    · exact ⟨(none, 0, 0, []), fun h => absurd h hi⟩
  obtain ⟨F, hF⟩ := Classical.axiomOfChoice hex
  refine ⟨some ⟨Tb, To, none⟩, nt, cp, Tb, To, fun i => (F i).1, fun i => (F i).2.1, fun i => (F i).2.2.1, fun i => (F i).2.2.2, rfl, by omega, fun _ => rfl, fun i hi => ?_, fun i hi => ?_, fun i hi => ?_⟩
  · obtain ⟨h1, h2, h3, h4, h5, _, _⟩ := hF i (by omega)
    exact ⟨h1, h2, h3, h4, h5⟩
  · exact (hF i (by omega)).2.2.2.2.2.1
  · exact (hF i (by omega)).2.2.2.2.2.2
set_option maxRecDepth 100000 in
theorem open_script {W : World} {sp : Nat → Bool} {fuel : Nat} {c : Array Value} {x : DataW H × List MemPlace} (h : DataW.trod enc Try.prog W 0 sp true fuel 26 c.toList = some x)
    (hw : (DataW.weights Try.prog 26 x.1).all (· ≤ reachBytes) = true) :
    ∃ ss qA qc nt tA cp Tb To A len cap ops sA sc xs most, c = #[.slice qA ss.length qc, .slice tA nt cp, .slice sA xs.length sc, .int .i64 most] ∧ ScriptAt W W ss qA qc nt tA Tb To A len cap ops sA sc xs := by
  obtain ⟨ys, k', _, hx1, hcl, hlx, hf⟩ := DataW.trod_struct Try.underlying26 h
  rw [Try.scriptCells] at hcl
  obtain ⟨l⟩ := c
  simp only at hcl h hf
  match l, hcl with
  | [v0, v1, v2, v3], _ =>
    match ys, hlx with
    | [x0, x1, x2, x3], _ =>
      have f0 : DataW.trod enc Try.prog W 0 sp true k' 22 [v0] = some x0 := by
        have h := hf 0 _ rfl
        change DataW.trod enc Try.prog W 0 sp true k' 22 (List.take (Try.prog.cellsOf 22) (List.drop 0 [v0, v1, v2, v3])) = some x0 at h
        rw [Try.numsCells] at h
        exact h
      have f1 : DataW.trod enc Try.prog W 0 sp true k' 23 [v1] = some x1 := by
        have h := hf 1 _ rfl
        change DataW.trod enc Try.prog W 0 sp true k' 23 (List.take (Try.prog.cellsOf 23) (List.drop 1 [v0, v1, v2, v3])) = some x1 at h
        rw [Try.thrsCells] at h
        exact h
      have f2 : DataW.trod enc Try.prog W 0 sp true k' 24 [v2] = some x2 := by
        have h := hf 2 _ rfl
        change DataW.trod enc Try.prog W 0 sp true k' 24 (List.take (Try.prog.cellsOf 24) (List.drop 2 [v0, v1, v2, v3])) = some x2 at h
        rw [Try.intsCells] at h
        exact h
      have f3 : DataW.trod enc Try.prog W 0 sp true k' 3 [v3] = some x3 := by
        have h := hf 3 _ rfl
        change DataW.trod enc Try.prog W 0 sp true k' 3 (List.take (Try.prog.cellsOf 3) (List.drop 3 [v0, v1, v2, v3])) = some x3 at h
        rw [Try.intCells] at h
        exact h
      obtain ⟨qA, qc, ss, e0, a1, a2, a3, a4, a5⟩ := open_nums Try.underlying22 Try.underlying2 Try.longCells f0
      obtain ⟨tA, nt, cp, Tb, To, A, len, cap, ops, e1, b1, b2, b3, b4, b5⟩ := open_threads f1
      obtain ⟨sA, sc, xs, e2, c1, c2, c3, c4, c5⟩ := open_nums Try.underlying24 Try.underlying3 Try.intCells f2
      obtain ⟨most, e3, _, _⟩ := DataW.trod_int Try.underlying3 f3
      simp only [List.cons.injEq, and_true] at e0 e1 e2 e3
      subst e0; subst e1; subst e2; subst e3
      refine ⟨ss, qA, qc, nt, tA, cp, Tb, To, A, len, cap, ops, sA, sc, xs, most, rfl, ⟨a3, a1, a2, ?_, a4, b1, b2, b3, b4, b5, c3, by omega⟩⟩
      rcases a5 with z | ⟨el, spa, z1, z2⟩
      · omega
      · have h8 : Try.prog.bytesOf 2 = 8 := by kernel_rfl
        have hm : (el.length + spa.length) * Try.prog.bytesOf 2 ∈ DataW.weights Try.prog 26 x.1 := by
          rw [hx1]
          show _ ∈ DataW.weights Try.prog 26 (.agg [x0.1, x1.1, x2.1, x3.1])
          simp only [DataW.weights, Try.underlying26]
          refine DataW.weights_mem_each (j := 0) (t := 22) (d := x0.1) rfl rfl _ ?_
          rw [z1]
          simp [DataW.weights, Try.underlying22]
        have hle := of_decide_eq_true (List.all_eq_true.1 hw _ hm)
        rw [h8] at hle
        unfold reachBytes at hle
        omega
end
end Go.Proofs.Yteainbnoemkfcaa
namespace Go.Proofs.Yteainbnoemkfcaa.slotsPlays
open Go.ChangeShapes Go.WideShapes Go.ChangeAt Go.RowKit Go.Deep Go.Turn
set_option linter.unusedVariables false
set_option linter.unusedSectionVars false
set_option linter.unusedSimpArgs false

theorem own : ownKnob Try.prog.godebug = none := by kernel_rfl
theorem laidOut : laidOutB Try.prog = true := by kernel_rfl

set_option maxRecDepth 100000 in
theorem lifted (os : Os) (started : os.Started) (H : Type) (enc : TypeId × Value → H) :
    ReturnsInLeavingWide {} Try.checked os 3 .any (Rows.slotsPlaysSpec.pre6 enc Try.prog Try.f3 Rows.slotsPlaysRow.domain false) (Rows.slotsPlaysSpec.post enc Try.prog Try.f3 false true false false) := by
  refine returnsInLeavingWide_of_change_sized (C := Try.checked) own started Try.func3
    (ChangeSpec.witness6 (enc := enc) (C := Try.checked) false ⟨#[], #[.agg #[.slice none 0 0, .slice none 0 0, .slice none 0 0, .int .i64 0]], []⟩ 8 (by kernel_rfl) (by kernel_rfl) (by kernel_rfl) (by kernel_rfl)) ?_
  intro W base args ds gs before hval0 hW _ hsz _
  have hval : ∀ (j : Nat) t v, Try.f3.params[j]? = some t → args[j]? = some v → Value.okWide Try.prog W .any base t v := hval0
  have hW' := hW
  obtain ⟨p, q, hA0, hV, rfl, hfz, hnd⟩ := hW
  have hA : DataW.TrodAll enc Try.prog W 0 (fun _ => true) true Try.f3.params.toList args.toList ds p := hA0
  rw [Try.params3] at hA hval hsz
  obtain ⟨v0, vs0, d0, ds0, p0, q0, hargs, rfl, rfl, h0, r0⟩ := trodAll_cons hA
  obtain ⟨rfl, rfl, rfl⟩ := trodAll_nil r0
  obtain rfl : args = #[v0] := by cases args; simp_all
  obtain ⟨rfl, rfl⟩ := trodVars_none hV
  have hst := hval 0 26 v0 rfl rfl
  unfold Value.okWide at hst
  rw [Try.underlying26] at hst
  obtain ⟨c, rfl, _, _⟩ := hst
  have h0k := h0
  have hlt : ∀ x ∈ p0, x.block < W.heap.size := fun x hx => by simpa using hW'.lt x (by simpa using hx)
  obtain ⟨fuel, h0⟩ := h0
  have hw : (DataW.weights Try.prog 26 d0).all (· ≤ reachBytes) = true := by
    refine List.all_eq_true.2 fun n hn => ?_
    exact List.all_eq_true.1 hsz n (DataW.weights_mem_each (j := 0) (t := 26) (d := d0) rfl rfl n hn)
  obtain ⟨ss, qA, qc, nt, tA, cp, Tb, To, A, len, cap, ops, sA, sc, xs, most, rfl, hscr⟩ := open_script h0 hw
  simp only [List.append_nil] at hW'
  obtain ⟨M, last, o, w', t', r1, r2, r3, r4⟩ := run_good Try.tame (plays_true cp most hscr)
  refine ⟨M, last, o, w', t', r1, r2, r3, r4.mono fun v hF => ?_⟩
  have hb : Below W.heap.size W { w' with tape := W.tape } := ⟨hF.os, rfl, hF.output, hF.size, hF.old⟩
  obtain rfl := hF.val
  exact ⟨_, _, _, [], _, [], hW', trodAll_cons_mk (shut_bool Try.underlying4 _) trodAll_mk0,
    trodAll_cons_mk ((Below.trod laidOut (by kernel_rfl) (of_decide_eq_true (by kernel_rfl)) h0k hb hlt).of_heap (by rfl)) trodAll_mk0, rfl, hF.frame _, fun h => by cases h⟩

theorem over : Rows.slotsPlaysRow.holds Try.pinned (OpenSpec.ofChange Rows.slotsPlaysSpec) :=
  OpenClaim.holds_of_wide_leaving 3 Try.f3 rfl rfl rfl rfl rfl rfl rfl ⟨rfl, rfl, rfl, rfl, rfl⟩ rfl rfl rfl rfl rfl (by kernel_rfl) Try.func3 (by kernel_rfl)
    (of_decide_eq_true (by kernel_rfl)) (by unfold Func.isWrapper; first | (rw [if_pos (by decide +kernel)]; kernel_rfl) | (rw [if_neg (by decide +kernel)]; exact ⟨rfl, rfl⟩))
    (fun os started H enc _ => lifted os started H enc)

theorem proved : Rows.SlotsPlaysSaid := over
end Go.Proofs.Yteainbnoemkfcaa.slotsPlays
