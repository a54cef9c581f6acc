/- DERIVED. The ring of slots (package slots), walked: New, Size, Slot, Lap, Put and Get without a Stepper. Conditions: the ring's blocks are whole. -/
import Derived.Test.YteainbnoemkfcaaJSlotsNoneProofF
import Derived.Test.YteainbnoemkfcaaJSlotsNoneProofE
/- DERIVED. The turnstile (package turn): Over ends what is left. -/
namespace Go.Proofs.Yteainbnoemkfcaa
open Go.RowKit Go.Turn Go.Tame Go.Conc
set_option linter.unusedVariables false
/-- What stands in Over's slots at its end. -/
structure Sl4 (f : Nat → Value) (g : Gs) (bo : Nat) (st : Bool) : Prop where
  f6 : f 6 = .pointer (some ⟨bo, 0, none⟩)
  f7 : f 7 = .bool st
  f10 : f 10 = .pointer (some ⟨g.tv, 0, none⟩)
set_option maxHeartbeats 2000000 in
set_option maxRecDepth 100000 in
theorem over_stuck (hP : Prog Try.prog) (e : Env Try.prog) {N base bn bo bm bl most : Nat} {k : List Item} {mid : List Frame} (ts sv : Value) (mo : Int) {f : Nat → Value} {x0 : World} {c : Run e.S} (hf : Sl3 f e.g bn bo bm bl) (h0 : OvS e base bn bo bm bl most c x0)
    (hT : ∀ f' w', Sl4 f' e.g bo (decide (0 < c.m.left e.g.n)) → HeldM x0 w' → (lgM hP e).T (N, c.m) (Frame.at { (default : Frame) with fn := 42, kind := .normal } ⟨frO ts sv mo f', []⟩ k) mid w') :
    (lgM hP e).T (N, c.m) (Frame.at { (default : Frame) with fn := 42, kind := .normal } ⟨frO ts sv mo f, []⟩ (.code (seqL (seqR (seqR (seqR (seqR (seqR (seqR (seqR (seqR (seqR (seqR (Try.f42.body.getD .skip)))))))))))) :: k)) mid x0 := by
  simp only [Try.f42, Option.getD_some, seqR, seqL]
  have HT := Lib.hid hT
  clear hT
  have h11 := hf.sl.f11
  simp only [frO, h11]
  refine Lg.code fun K hK u τ n hu => ?_
  subst hu
  have c1 : u.cell? ⟨bl, 0, none⟩ = some (.int .i64 (c.m.left e.g.n)) := (show Blk u bl _ _ from h0.l).cell 0
  clear h0
  go_wp2
  refine hK _ _ (fun h => h.elim) ?_
  clear hK K c1
  refine Lg.family (frO ts sv mo) (R := fun f' => Sl4 f' e.g bo (decide (0 < c.m.left e.g.n))) (fun f' hf' => HT.out f' _ hf' ⟨Nat.le_refl _, fun _ _ _ _ h _ => h⟩) (by rfl) ⟨hf.sl.sl.f6, ?_, hf.sl.sl.f10⟩
  first
    | rfl
    | (show Value.bool _ = _; congr 1; simp)
set_option maxHeartbeats 2000000 in
set_option maxRecDepth 100000 in
theorem over_loose (hP : Prog Try.prog) (e : Env Try.prog) (hn : e.g.n ≤ 64) {N bo : Nat} {st : Bool} {k : List Item} {mid : List Frame} (ts sv : Value) (mo : Int) {f : Nat → Value} {x0 : World} {m0 : Mach e.S} (hgood : ∀ j, j < e.g.n → (m0.th j).Good) (hf : Sl4 f e.g bo st)
    (hT : ∀ f' w', Sl4 f' e.g bo st → HeldM x0 w' → (lgM hP e).T (N, m0.ended e.g.n) (Frame.at { (default : Frame) with fn := 42, kind := .normal } ⟨frO ts sv mo f', []⟩ k) mid w') :
    (lgM hP e).T (N, m0) (Frame.at { (default : Frame) with fn := 42, kind := .normal } ⟨frO ts sv mo f, []⟩ (.code (seqL (seqR (seqR (seqR (seqR (seqR (seqR (seqR (seqR (seqR (seqR (seqR (Try.f42.body.getD .skip))))))))))))) :: k)) mid x0 := by
  simp only [Try.f42, Option.getD_some, seqR, seqL]
  have HT := Lib.hid hT
  clear hT
  have h10 := hf.f10
  simp only [frO, h10]
  refine lgm_tu fun ov br tv ho => ?_
  refine Lg.move _ (fun _ _ => step_seq) id ?_
  refine Lg.code fun K hK y τ n hy => ?_
  subst hy
  have q1 : y.cell? ⟨e.g.tv, 0, none⟩ = some (.pointer (some ⟨e.g.tb, 0, none⟩)) := tv.v
  have q2 : y.cell? ⟨e.g.tb, 1, none⟩ = some (.slice (some ⟨e.g.ab, 0, none⟩) e.g.n e.g.cap) := tv.t1
  clear tv ho
  go_wp2
  refine hK _ _ (fun h => h.elim) ?_
  clear hK K q1 q2
  refine Lg.family (frO ts sv mo) (R := fun f' => Sl4 f' e.g bo st ∧ f' 107 = .slice (some ⟨e.g.ab, 0, none⟩) e.g.n e.g.cap ∧ f' 108 = .int .i64 e.g.n ∧ f' 109 = .int .i64 0) ?_ (by rfl) ⟨⟨hf.f6, hf.f7, rfl⟩, rfl, rfl, rfl⟩
  rintro f1 ⟨hf1, m107, m108, m109⟩
  refine Lg.move _ (fun _ _ => step_block) id ?_
  refine Lg.loop_fr (frO ts sv mo) (fun f t w => ∃ j : Nat, j ≤ e.g.n ∧ f 109 = .int .i64 j ∧ f 107 = .slice (some ⟨e.g.ab, 0, none⟩) e.g.n e.g.cap ∧ f 108 = .int .i64 e.g.n ∧ Sl4 f e.g bo st ∧ t = (N, m0.ended j) ∧ HeldM y w) (fun f _ _ => e.g.n - (intOf (f 109)).toNat) ⟨0, Nat.zero_le _, m109, m107, m108, hf1, rfl, HeldM.refl _⟩ ?_
  rintro f2 t w ⟨j, hj, k109, k107, k108, hf2, rfl, hL⟩ hnext
  have hNext := Lib.hid hnext
  clear hnext m107 m108 m109 hf1 hf h10 f1 f
  have k10 := hf2.f10
  simp only [frO, k109, k107, k108, k10]
  refine Lg.move _ (fun _ _ => step_seq) id ?_
  refine Lg.code fun K hK u τ n hu => ?_
  subst hu
  go_wp2
  refine hK _ _ (fun h => h.elim) ?_
  clear hK K
  refine Lg.move _ (fun _ _ => step_seq) id ?_
  have hL : HeldM y u := ⟨hL.size, hL.block⟩
  by_cases hlt : j < e.g.n
  · have hd : decide (j < e.g.n) = true := by simpa using hlt
    simp only [hd]
    refine Lg.move _ (fun _ _ => step_cond rfl) id ?_
    refine Lg.move _ (fun _ _ => step_skip) id ?_
    refine Lg.move _ (fun _ _ => step_seq) id ?_
    refine Lg.move _ (fun _ _ => step_block) id ?_
    refine Lg.move _ (fun _ _ => step_seq) id ?_
    refine lgm_tu fun ov br tv ho => ?_
    have hth : (m0.ended j).th j = m0.th j := ended_other m0 j j (Nat.le_refl _)
    refine Lg.code fun K hK v τ2 n2 hv => ?_
    subst hv
    have hL : HeldM y v := ⟨hL.size, hL.block⟩
    have q3 : v.cell? ⟨e.g.ab, j, none⟩ = some (.pointer (some ⟨e.g.sb j, 0, none⟩)) := tv.a j hlt
    have q4 : v.cell? ⟨e.g.sb j, 2, none⟩ = some (.bool (m0.th j).isOver) := by rw [← hth, ← ho j hlt]; exact tv.s2 j hlt
    have Hth := Lib.hid hth
    clear ho tv hth
    go_wp2
    refine hK _ _ (fun h => h.elim) ?_
    clear hK K q3
    refine Lg.move _ (fun _ _ => step_seq) id ?_
    refine Lg.code fun K hK z τ3 n3 hz => ?_
    subst hz
    have hL : HeldM y z := ⟨hL.size, hL.block⟩
    have q4 : z.cell? ⟨e.g.sb j, 2, none⟩ = some (.bool (m0.th j).isOver) := q4
    go_wp2
    refine hK _ _ (fun h => h.elim) ?_
    clear hK K q4
    have hgj := hgood j hlt
    cases hst : m0.th j with
    | unborn => rw [hst] at hgj; exact hgj.elim
    | over =>
      have he : m0.ended (j + 1) = m0.ended j := by
        show (m0.ended j).fin j = _
        simp [Mach.fin, Hth.out, hst]
      simp only [Stg.isOver, Bool.not_true]
      refine Lg.move _ (fun _ _ => step_cond rfl) id ?_
      refine Lg.move _ (fun _ _ => step_skip) id ?_
      refine Lg.move _ (fun _ _ => step_inBlock) id ?_
      have he := Lib.hid he
      refine Lg.code fun K hK v τ n hv => ?_
      subst hv
      go_wp2
      refine hK _ _ (fun h => h.elim) ?_
      clear hK K
      refine Lg.family (frO ts sv mo) (R := fun f' => Sl4 f' e.g bo st ∧ f' 109 = .int .i64 ((j + 1 : Nat) : Int) ∧ f' 107 = .slice (some ⟨e.g.ab, 0, none⟩) e.g.n e.g.cap ∧ f' 108 = .int .i64 e.g.n) ?_ (by rfl) ⟨⟨hf2.f6, hf2.f7, rfl⟩, by go_num, rfl, rfl⟩
      intro f' hR
      exact hNext.out f' _ _ ⟨j + 1, by omega, hR.2.1, hR.2.2.1, hR.2.2.2, hR.1, by rw [he.out], ⟨hL.size, hL.block⟩⟩ (by rw [hR.2.1, k109]; simp [intOf]; omega)
    | wait kk =>
      have he : m0.ended (j + 1) = (m0.ended j).did j (.ret (m0.ended j).s) := by
        show (m0.ended j).fin j = _
        simp [Mach.fin, Hth.out, hst, Mach.did]
      simp only [Stg.isOver, Bool.not_false]
      refine Lg.move _ (fun _ _ => step_cond rfl) id ?_
      refine lgm_tu fun ov br tv ho => ?_
      refine Lg.move _ (fun _ _ => step_region) id ?_
      refine Lg.pre 0 2 1 (by simp) fun K hK v2 τ4 n4 hv => ?_
      subst hv
      have q1 : v2.cell? ⟨e.g.tv, 0, none⟩ = some (.pointer (some ⟨e.g.tb, 0, none⟩)) := tv.v
      have he := Lib.hid he
      have hst := Lib.hid hst
      clear tv ho
      simp only [List.drop_zero, List.take_succ_cons, List.take_zero]
      go_wp2
      refine hK _ _ (fun h => h.elim) ?_
      clear hK K q1
      refine Lg.call (i := 2) (rest := []) (t := (N, m0.ended j)) rfl rfl (fun y => by go_simp) (let_calls hP e hn N (m0.ended j) j hlt kk (Hth.out.trans hst.out) false (.ret (m0.ended j).s) rfl (fun h => by cases h) v2) ?_
      rintro uu t' w' ⟨rfl, rfl, hh'⟩
      rw [Frame.finish_at]
      walk_nrm
      refine Lg.move _ (fun _ _ => step_region_end) id ?_
      refine Lg.move _ (fun _ _ => step_inBlock) id ?_
      have hL : HeldM y w' := HeldM.trans (b := v2) ⟨hL.size, hL.block⟩ hh'
      clear hh'
      refine Lg.code fun K hK v τ n hv => ?_
      subst hv
      go_wp2
      refine hK _ _ (fun h => h.elim) ?_
      clear hK K
      refine Lg.family (frO ts sv mo) (R := fun f' => Sl4 f' e.g bo st ∧ f' 109 = .int .i64 ((j + 1 : Nat) : Int) ∧ f' 107 = .slice (some ⟨e.g.ab, 0, none⟩) e.g.n e.g.cap ∧ f' 108 = .int .i64 e.g.n) ?_ (by rfl) ⟨⟨hf2.f6, hf2.f7, rfl⟩, by go_num, rfl, rfl⟩
      intro f' hR
      rw [← he.out]
      exact hNext.out f' _ _ ⟨j + 1, by omega, hR.2.1, hR.2.2.1, hR.2.2.2, hR.1, rfl, ⟨hL.size, hL.block⟩⟩ (by rw [hR.2.1, k109]; simp [intOf]; omega)
  · have hd : decide (j < e.g.n) = false := by simpa using hlt
    simp only [hd]
    refine Lg.move _ (fun _ _ => step_cond rfl) id ?_
    refine Lg.move _ (fun _ _ => step_exit rfl) (fun h => h) ?_
    have hjn : j = e.g.n := by omega
    rw [hjn]
    exact Lg.family (frO ts sv mo) (R := fun f' => Sl4 f' e.g bo st) (fun f' hf' => HT.out f' _ hf' ⟨hL.size, hL.block⟩) (by rfl) ⟨hf2.f6, hf2.f7, rfl⟩
end Go.Proofs.Yteainbnoemkfcaa
/- DERIVED. The turnstile (package turn): Over, whole, called by goroutine 0. -/
namespace Go.Proofs.Yteainbnoemkfcaa
open Go.RowKit Go.Turn Go.Tame Go.Conc
set_option linter.unusedVariables false
set_option maxHeartbeats 2000000 in
set_option maxRecDepth 100000 in
/-- Over's return. -/
theorem over_last {κ : Type} (L : Lg Try.prog κ) (hs : ¬ L.strict) {t : κ} {mid : List Frame} {c' : Frame} (ts sv : Value) (mo : Int) {f : Nat → Value} {g : Gs} {bo : Nat} {st : Bool} {ov bv : Value} {x : World} (hf : Sl4 f g bo st) (ho : Blk x bo 24 #[ov]) (hv : x.cell? ⟨g.tv, 0, none⟩ = some (.pointer (some ⟨g.tb, 0, none⟩))) (h2 : x.cell? ⟨g.tb, 2, none⟩ = some bv) (hn1 : bo ≠ g.tv) (hn2 : bo ≠ g.tb) (hov : ∃ A n c, ov = .slice A n c)
    (hT : ∀ w', (∀ b, b ≠ bo → w'.heap[b]? = x.heap[b]?) → w'.heap.size = x.heap.size → w'.os = x.os → w'.output = x.output → L.T t (c'.finish (.tuple #[ov, .bool st, bv])) mid w') :
    L.T t (Frame.at { (default : Frame) with fn := 42, kind := .normal } ⟨frO ts sv mo f, []⟩ (.code (seqR (seqR (seqR (seqR (seqR (seqR (seqR (seqR (seqR (seqR (seqR (seqR (Try.f42.body.getD .skip))))))))))))) :: [])) (c' :: mid) x := by
  simp only [Try.f42, Option.getD_some, seqR]
  have HT := Lib.hid hT
  clear hT
  have h6 := hf.f6
  have h7 := hf.f7
  have h10 := hf.f10
  simp only [frO, h6, h7, h10]
  refine Lg.move _ (fun _ _ => step_seq) id ?_
  obtain ⟨A, ln, cp, rfl⟩ := hov
  refine Lg.codeF hs (List.range' 123 6 ++ [7, 8]) (fun f' w' => f' 7 = .bool st ∧ f' 8 = bv ∧ w' = (w'.re w'.tape w'.drawn) ∧ (∀ b, b ≠ bo → w'.heap[b]? = x.heap[b]?) ∧ w'.heap.size = x.heap.size ∧ w'.os = x.os ∧ w'.output = x.output ∧ w'.cell? ⟨bo, 0, none⟩ = some (.slice A ln cp)) (fun u τ n hu => ?_) ?_
  · subst hu
    have c1 : u.cell? ⟨bo, 0, none⟩ = some (.slice A ln cp) := (show Blk u bo _ _ from ho).cell 0
    have c2 : u.frozen? ⟨bo, 0, none⟩ = false := (show Blk u bo _ _ from ho).frozen 0
    have c3 : u.cell? ⟨g.tv, 0, none⟩ = some (.pointer (some ⟨g.tb, 0, none⟩)) := hv
    have c4 : u.cell? ⟨g.tb, 2, none⟩ = some bv := h2
    have hsame := World.cell?_setCell_same u ⟨bo, 0, none⟩ (.slice A ln cp) c1
    have hf3 := World.cell?_setCell_other u ⟨bo, 0, none⟩ ⟨g.tv, 0, none⟩ (.slice A ln cp) (by intro q; injection q with q; exact hn1 q)
    have hf4 := World.cell?_setCell_other u ⟨bo, 0, none⟩ ⟨g.tb, 2, none⟩ (.slice A ln cp) (by intro q; injection q with q; exact hn2 q)
    rw [c3] at hf3
    rw [c4] at hf4
    clear ho hv h2
    go_region_held3 (fun w' => w'.cell? ⟨bo, 0, none⟩ = some (.slice A ln cp) ∧ w'.frozen? ⟨bo, 0, none⟩ = false ∧ w'.cell? ⟨g.tv, 0, none⟩ = some (.pointer (some ⟨g.tb, 0, none⟩)) ∧ w'.cell? ⟨g.tb, 2, none⟩ = some bv) (first | exact ⟨c1, c2, c3, c4⟩ | exact ⟨hsame, by simp; exact c2, hf3, hf4⟩ | go_keep) (fail)
    all_goals
      refine ⟨rfl, rfl, rfl, rfl, rfl, fun b hb => ?_, ?_, rfl, rfl, hsame⟩
      · exact Below.heap_setCell u ⟨bo, 0, none⟩ _ b hb
      · show (u.setCell _ _).heap.size = u.heap.size
        simp [World.setCell]
  rintro f' w' ⟨k7, k8, _, kb, ks, ko, kp, kc⟩
  simp only [fill, fillL, List.range', List.cons_append, List.nil_append, List.set_cons_zero, List.set_cons_succ, Nat.reduceAdd]
  simp only [k7, k8]
  refine Lg.move _ (fun _ _ => step_ret) id ?_
  refine Lg.leave rfl Try.func42 rfl (v := .tuple #[.slice A ln cp, .bool st, bv]) (fun y τ n hy => ?_) (HT.out w' kb ks ko kp)
  have c1 : y.cell? ⟨bo, 0, none⟩ = some (.slice A ln cp) := by rw [hy] at kc; exact kc
  simp [results, Try.f42, go_sem, c1]
theorem own_base {w : World} {base base' : Nat} {e : TypeId} {size n : Nat} {v : Value} {xs : List Value} (h : w.ownsRow base e size v n xs) (hb : base' ≤ base) : w.ownsRow base' e size v n xs := by
  obtain ⟨h1, h2⟩ := h
  refine ⟨h1, ?_⟩
  rcases h2 with h2 | ⟨g, cap, cur, hv, hg, r⟩
  · exact .inl h2
  · exact .inr ⟨g, cap, cur, hv, by omega, r⟩
/-- The turnstile, made. -/
structure Ready (n mm : Nat) (w : World) (g : Gs) (bn bo bm : Nat) (x : World) : Prop where
  gn : g.n = n
  tu : TuAt g (fun _ => false) (fun _ => false) x
  ch : ∀ c, ChOf g c → x.heap[c]? = some (.chan 0 #[] false 0 0 false)
  apart : ∀ j, j < g.n → g.ps j ≠ g.bk
  inj : ∀ i j, i < g.n → j < g.n → g.ps i = g.ps j → i = j
  new : ∀ b, Tn g b → w.heap.size ≤ b ∧ b < x.heap.size
  old : Old w.heap.size w x
  hn : Blk x bn 3 #[.int .i64 n]
  hm : Blk x bm 3 #[.int .i64 mm]
  ho : Blk x bo 24 #[.slice none 0 0]
  lo : w.heap.size ≤ bn ∧ w.heap.size ≤ bm ∧ w.heap.size ≤ bo
  tn : ¬ Tn g bn ∧ ¬ Tn g bm ∧ ¬ Tn g bo
  ne : bn ≠ bm ∧ bo ≠ bn ∧ bo ≠ bm
theorem blk_ne {x : World} {a b : Nat} {s t : TypeId} {c d : Array Value} (ha : Blk x a s c) (hb : Blk x b t d) (h : s ≠ t) : a ≠ b := fun e => by
  subst e
  unfold Blk at ha hb
  rw [ha] at hb
  simp only [Option.some.injEq, Obj.cells.injEq] at hb
  exact h hb.2.1
theorem blk_chan {x : World} {a b : Nat} {s : TypeId} {c : Array Value} {cap n m : Nat} {bf : Array Value} {cl tm : Bool} (ha : Blk x a s c) (hb : x.heap[b]? = some (.chan cap bf cl n m tm)) : a ≠ b := fun e => by
  subst e
  unfold Blk at ha
  rw [ha] at hb
  cases hb
theorem made_ready {n mm tvb tb bk rb bn bo bm : Nat} {w w1 w2 : World} {f : Nat → Value} {v : Value} {sb ps : Nat → Nat} (hn : 0 < n) (M : Made n mm w f w1 tvb tb bk rb bn bo bm) (hb : Blk w1 tb 115 #[.chan (some bk), .slice none 0 0, .slice (some ⟨rb, 0, none⟩) n n]) (st : Stood n n tb tvb bk rb w1.heap.size w1 v sb ps w2) :
    ∃ g : Gs, g.tv = tvb ∧ Ready n mm w g bn bo bm w2 := by
  rcases st.own.2 with ⟨_, h0⟩ | ⟨g0, cp, cur, rfl, hg0, hh0, hle, hmx, hsz, htk⟩
  · omega
  have key : ∀ {b : Nat} {o : Obj}, w1.heap[b]? = some o → b ≠ tb → w2.heap[b]? = some o := fun {b o} h hne => (st.old.2.1 b (lt_of_some h) hne).trans h
  obtain ⟨n1, n2, n3, n4, n5, n6, n7, n8⟩ := M.new
  have tne : ∀ {b : Nat} {t : TypeId} {c : Array Value}, Blk w1 b t c → t ≠ 115 → b ≠ tb := fun h ht => blk_ne h hb ht
  have hn' : Blk w2 bn 3 #[.int .i64 n] := key M.hn (tne M.hn (by decide))
  have hm' : Blk w2 bm 3 #[.int .i64 mm] := key M.hm (tne M.hm (by decide))
  have ho' : Blk w2 bo 24 #[.slice none 0 0] := key M.ho (tne M.ho (by decide))
  have hv' : Blk w2 tvb 111 #[.pointer (some ⟨tb, 0, none⟩)] := key M.tv (tne M.tv (by decide))
  have hr' : Blk w2 rb 4 (Array.replicate n (.bool false)) := key M.hr (tne M.hr (by decide))
  have hk' : w2.heap[bk]? = some (.chan 0 #[] false 0 0 false) := key M.hk (fun e => by have := M.hk; rw [e, show w1.heap[tb]? = _ from hb] at this; cases this)
  have ha' : Blk w2 g0 116 cur := hh0
  have hlt1 := M.hn.lt
  have hlt2 := M.hm.lt
  have hlt3 := M.ho.lt
  have hlk : bk < w1.heap.size := lt_of_some M.hk
  have hch : ∀ c, ChOf (⟨n, cp, tvb, tb, g0, rb, bk, sb, ps, 111, 115, 116, 119, 4⟩ : Gs) c → w2.heap[c]? = some (.chan 0 #[] false 0 0 false) := fun c hc => by
    rcases hc with rfl | ⟨i, hi, rfl⟩
    · exact hk'
    · exact st.p i hi
  have notTn : ∀ {b : Nat} {t : TypeId} {c : Array Value}, Blk w2 b t c → b < w1.heap.size → t ≠ 111 → t ≠ 115 → t ≠ 4 → ¬ Tn (⟨n, cp, tvb, tb, g0, rb, bk, sb, ps, 111, 115, 116, 119, 4⟩ : Gs) b := fun {b t c} hB hlt t1 t2 t3 hT => by
    rcases hT with rfl | rfl | rfl | rfl | ⟨i, hi, rfl⟩ | hc
    · exact blk_ne hB hv' t1 rfl
    · exact blk_ne hB st.ht t2 rfl
    · exact absurd hg0 (by first | omega | (simp only at hlt; omega))
    · exact blk_ne hB hr' t3 rfl
    · have := (st.lo i hi).1; first | omega | (simp only at hlt; omega)
    · exact blk_chan hB (hch _ hc) rfl
  refine ⟨⟨n, cp, tvb, tb, g0, rb, bk, sb, ps, 111, 115, 116, 119, 4⟩, rfl, ⟨rfl, ⟨hv', st.ht, ⟨cur, ha', fun i hi => ?_⟩, fun i hi => st.s i hi, ⟨_, hr', by simp, fun i hi => ?_⟩⟩, hch, fun j hj e => ?_, fun i j hi hj e => st.inj i j hi hj e, fun b hT => ?_, ?_, hn', hm', ho', ⟨n2, n4, n3⟩, ⟨notTn hn' hlt1 (by decide) (by decide) (by decide), notTn hm' hlt2 (by decide) (by decide) (by decide), notTn ho' hlt3 (by decide) (by decide) (by decide)⟩, ⟨M.ne, blk_ne ho' hn' (by decide), blk_ne ho' hm' (by decide)⟩⟩⟩
  · have h1 := congrArg (·[i]?) htk
    simp only [Nat.mul_one, List.getElem?_take, List.getElem?_map, List.getElem?_range hi, hi, if_true, Option.map_some] at h1
    simpa using h1
  · simp [show i < n from hi]
  · have := (st.lo j hj).2
    simp only at e
    omega
  · rcases hT with rfl | rfl | rfl | rfl | ⟨i, hi, rfl⟩ | hc
    · exact ⟨n5, hv'.lt⟩
    · exact ⟨n6, st.ht.lt⟩
    · have := n1.size; exact ⟨by first | omega | (simp only; omega), ha'.lt⟩
    · exact ⟨n8, hr'.lt⟩
    · have := (st.lo i hi).1; have := n1.size; exact ⟨by first | omega | (simp only; omega), (st.s i hi).lt⟩
    · refine ⟨?_, lt_of_some (hch _ hc)⟩
      rcases hc with rfl | ⟨i, hi, rfl⟩
      · exact n7
      · have := (st.lo i hi).2; have := n1.size; first | omega | (simp only; omega)
  · exact n1.trans ⟨st.old.1, fun b hb' => st.old.2.1 b (by have := n1.size; omega) (fun e => by omega), st.old.2.2⟩
/-- Numbers in a slice that goroutine 0 reads. -/
structure SchI (W0 : World) (sv : Value) (xs : List Int) (Z : Nat → Prop) (x : World) : Prop where
  at_ : ∃ A c, sv = .slice A xs.length c ∧ ∀ i, i < xs.length → ∃ b o cs t r, A = some ⟨b, o, none⟩ ∧ x.heap[b]? = some (.cells cs t r) ∧ (b < W0.heap.size ∨ (r.2 < big ∧ ¬ Z b)) ∧ cs[o + i]? = some (.int .i64 (xs.getD i 0))
  len : xs.length ≤ maxLen
/-- What a call of Over leaves. -/
structure OverDone (q : Shd) (W0 : World) (n : Nat) (cc : Run q.S) (H₀ : Nat → Prop) (w : World) (v : Value) (w' : World) : Prop where
  val : ∃ ov bv, v = .tuple #[ov, .bool (decide (0 < cc.m.left n)), bv] ∧ w'.ownsRow w.heap.size 3 1 ov cc.order.length (cc.order.map (Value.int .i64))
  rep : ∃ H, q.Rep cc.m.s H w' ∧ ∀ (b : Nat) (c : Array Value) (t : TypeId) (r : Nat × Nat), (b < W0.heap.size ∨ (r.2 < big ∧ ¬ H₀ b ∧ ¬ q.RB b)) → w.heap[b]? = some (.cells c t r) → ¬ H b
  rb : ∀ b, q.RB b → W0.heap.size ≤ b → ∀ c t r, q.rv b = .cells c t r → w'.heap[b]? = some (q.rv b)
  size : w.heap.size ≤ w'.heap.size
  near : ∀ (b : Nat) (c : Array Value) (t : TypeId) (r : Nat × Nat), (b < W0.heap.size ∨ (r.2 < big ∧ ¬ H₀ b ∧ ¬ q.RB b)) → w.heap[b]? = some (.cells c t r) → w'.heap[b]? = some (.cells c t r)
  io : w'.os = w.os ∧ w'.output = w.output
/-- What is asked where Over is called. -/
structure OverAsks (q : Shd) (W0 : World) (s0 : q.S) (H₀ : Nat → Prop) (w : World) : Prop where
  rep : q.Rep s0 H₀ w
  sh : ∀ b, H₀ b → b < w.heap.size
  rb : ∀ b, q.RB b → b < w.heap.size ∧ ¬ H₀ b ∧ ∃ c t r, q.rv b = .cells c t r ∧ w.heap[b]? = some (.cells c t r) ∧ (r.2 < big ∨ b < W0.heap.size)
  io : w.os = q.os ∧ w.output = q.out
theorem Ready.re {n mm : Nat} {w : World} {g : Gs} {bn bo bm : Nat} {y : World} {τ : Nat → Question → Nat} {d : Nat} (h : Ready n mm w g bn bo bm (y.re τ d)) : Ready n mm w g bn bo bm y :=
  ⟨h.gn, ⟨h.tu.v, h.tu.t, h.tu.a, h.tu.s, h.tu.b⟩, h.ch, h.apart, h.inj, h.new, h.old.re, h.hn, h.hm, h.ho, h.lo, h.tn, h.ne⟩
theorem Ready.alloc {n mm : Nat} {w : World} {g : Gs} {bn bo bm : Nat} {y : World} (h : Ready n mm w g bn bo bm y) (o : Obj) : Ready n mm w g bn bo bm (y.alloc o) := by
  have key : ∀ {b : Nat} {x : Obj}, y.heap[b]? = some x → (y.alloc o).heap[b]? = some x := fun {b x} hb => (Below.heap_alloc y o b (lt_of_some hb)).trans hb
  exact ⟨h.gn, tuAt_of h.tu fun b c t hb => key hb, fun c hc => key (h.ch c hc), h.apart, h.inj, fun b hb => ⟨(h.new b hb).1, by have := (h.new b hb).2; simp; omega⟩, h.old.new h.old.size o, h.hn.alloc o, h.hm.alloc o, h.ho.alloc o, h.lo, h.tn, h.ne⟩
theorem Old.keep {B : Nat} {a b : World} (h : Old B a b) {i : Nat} {o : Obj} (hi : i < B) (ha : a.heap[i]? = some o) : b.heap[i]? = some o := (h.block i hi).trans ha
set_option maxHeartbeats 2000000 in
set_option maxRecDepth 100000 in
theorem over_close (hP : Prog Try.prog) (e : Env Try.prog) {t : Nat × Mach e.S} {bn bo bm bl : Nat} {k : List Item} {mid : List Frame} (ts sv : Value) (mo : Int) {f : Nat → Value} {x0 : World} (hf : Sl2 f e.g bn bo bm bl)
    (hT : ∀ f' w', Sl3 f' e.g bn bo bm bl → HeldM x0 w' → x0.heap.size = w'.heap.size → (lgM hP e).T t (Frame.at { (default : Frame) with fn := 42, kind := .normal } ⟨frO ts sv mo f', []⟩ k) mid w') :
    (lgM hP e).T t (Frame.at { (default : Frame) with fn := 42, kind := .normal } ⟨frO ts sv mo f, []⟩ (.code (seqL (seqR (seqR (seqR (seqR (seqR (seqR (seqR (Try.f42.body.getD .skip))))))))) :: k)) mid x0 := by
  simp only [Try.f42, Option.getD_some, seqR, seqL]
  have HT := Lib.hid hT
  clear hT
  have h5 := hf.sl.f5
  have h6 := hf.sl.f6
  have h9 := hf.sl.f9
  have h10 := hf.sl.f10
  have h11 := hf.f11
  simp only [frO, h5, h6, h9, h10, h11]
  refine Lg.code fun K hK u τ n hu => ?_
  subst hu
  go_wp2
  refine hK _ _ (fun h => h.elim) ?_
  clear hK K
  exact Lg.family (frO ts sv mo) (R := fun f' => Sl3 f' e.g bn bo bm bl) (fun f' hf' => HT.out f' _ hf' ⟨Nat.le_refl _, fun _ _ _ _ h _ => h⟩ rfl) (by rfl) ⟨⟨⟨rfl, rfl, hf.sl.f7, rfl, rfl⟩, rfl⟩, rfl⟩
set_option maxHeartbeats 4000000 in
set_option maxRecDepth 100000 in
/-- From the first go statement to the end. -/
theorem over_main (hP : Prog Try.prog) (Post : Value → World → Prop) (W0 : World) (q : Shd) (birth : Nat → q.S → Tree q.S q.S) (MI : Mach q.S → Prop) (caps : Nat → Array Value) (ta : Addr) (nt cap n mm : Nat) (hM : MInv MI n) (hn64 : n ≤ 64) (hn0 : 0 < n) (hnt : n ≤ nt) (hmost : mm ≤ 1048576) (sv : Value) (xs : List Int) (most : Int) (s0 : q.S) (hwh : ∀ j, j < n → birth j (Mach.born birth ⟨s0, fun _ => .unborn⟩ j).s ≠ .cut) (hM0 : MI (Mach.born birth ⟨s0, fun _ => .unborn⟩ n)) (H₀ : Nat → Prop) (w : World)
    (hask : OverAsks q W0 s0 H₀ w) (hfun : Funs n ta caps w) (hta : ¬ H₀ ta.block ∧ ¬ q.RB ta.block) (hsch : SchI W0 sv xs (fun b => H₀ b ∨ q.RB b) w)
    (hlaw : ∀ g b pos apart inj i, i < g.n → g.n = n → ∀ s H x, q.Rep s H x → ThreadLaw (q.env Try.prog Post W0 g b pos apart inj) i (caps i) s (birth i s) x)
    {c' : Frame} {mid : List Frame} (hR : ∀ v w', OverDone q W0 n (playRun birth n mm xs s0) H₀ w v w' → (lgA hP Post W0).T () (c'.finish v) mid w')
    {g : Gs} {bn bo bm bl : Nat} {f : Nat → Value} {x : World} (R : Ready n mm w g bn bo bm x) (hl : Blk x bl 3 #[.int .i64 0]) (hll : w.heap.size ≤ bl ∧ bl ≠ bn ∧ bl ≠ bm ∧ bl ≠ bo ∧ ¬ Tn g bl) (hf : Sl2 f g bn bo bm bl) :
    (lgA hP Post W0).T () (Frame.at { (default : Frame) with fn := 42, kind := .normal } ⟨frO (.slice (some ta) nt cap) sv most f, []⟩ (.code (seqR (seqR (seqR (seqR (seqR (seqR (Try.f42.body.getD .skip))))))) :: [])) (c' :: mid) x := by
  have hH := fun (e : Env Try.prog) (hn : e.g.n ≤ 64) => over_hire hP e hn
  intro N
  by_cases hN : N = 0
  · intro d hl2 hK0 hI gs sl T q' B hL hp ha hsz
    have := (Array.getElem?_eq_some_iff.1 ha).1
    omega
  have pos : 0 < N := by omega
  have hgn := R.gn
  have oldc : ∀ (b : Nat) (c : Array Value) (t : TypeId) (r : Nat × Nat), w.heap[b]? = some (.cells c t r) → x.heap[b]? = some (.cells c t r) := fun b c t r h => R.old.keep (lt_of_some h) h
  refine begin_run (q := q) (W0 := W0) (N := N) (B := w.heap.size) pos R.apart R.inj (s0 := s0) (H₀ := H₀) ?_ hask.sh (fun b hb => ?_) (fun b hb => (R.new b hb).1) R.tu R.ch ⟨R.old.io.1.trans hask.io.1, R.old.io.2.trans hask.io.2⟩ fun x' hx => ?_
  · exact q.rep s0 H₀ w x hask.rep (fun b hb => R.old.block b (hask.sh b hb)) fun b c t r hb h => ⟨r, oldc _ _ _ _ h⟩
  · obtain ⟨h1, h2, c, t, r, h3, h4, h5⟩ := hask.rb b hb
    exact ⟨h1, h2, c, t, r, h3, oldc _ _ _ _ h4, h5⟩
  -- goroutine 0 among the threads
  have newb : ∀ b, w.heap.size ≤ b → ¬ H₀ b ∧ ¬ q.RB b := fun b hb => ⟨fun z => by have := hask.sh b z; omega, fun z => by have := (hask.rb b z).1; omega⟩
  have nearx : ∀ {b : Nat} {t : TypeId} {c : Array Value}, Blk x b t c → w.heap.size ≤ b → ¬ Tn g b → Blk x' b t c := fun {b t c} hB hb ht => hx.own b c t (0, 0) (.inr ⟨by decide, (newb b hb).1, (newb b hb).2, ht⟩) hB
  have oldn : ∀ (b : Nat) (c : Array Value) (t : TypeId) (r : Nat × Nat), (b < W0.heap.size ∨ (r.2 < big ∧ ¬ H₀ b ∧ ¬ q.RB b)) → w.heap[b]? = some (.cells c t r) → x'.heap[b]? = some (.cells c t r) := fun b c t r hc h3 => hx.own b c t r (hc.imp id fun z => ⟨z.1, z.2.1, z.2.2, fun z => by have := (R.new b z).1; have := lt_of_some h3; omega⟩) (oldc _ _ _ _ h3)
  have nrw : ∀ (b : Nat) (c : Array Value) (t : TypeId) (r : Nat × Nat), (b < W0.heap.size ∨ (r.2 < big ∧ ¬ H₀ b ∧ ¬ q.RB b)) → w.heap[b]? = some (.cells c t r) → (r.2 < big ∨ r.2 % 2 = 1) := fun b c t r hc h3 => by
    rcases hc with hc | hc
    · exact .inr (hx.odd b c t r hc (oldc _ _ _ _ h3))
    · exact .inl hc.1
  have xn : Blk x' bn 3 #[.int .i64 n] := nearx R.hn R.lo.1 R.tn.1
  have xm : Blk x' bm 3 #[.int .i64 mm] := nearx R.hm R.lo.2.1 R.tn.2.1
  have xo : Blk x' bo 24 #[.slice none 0 0] := nearx R.ho R.lo.2.2 R.tn.2.2
  have xl : Blk x' bl 3 #[.int .i64 0] := nearx hl hll.1 hll.2.2.2.2
  let e : Env Try.prog := q.env Try.prog Post W0 g N pos R.apart R.inj
  show (lgM hP e).T (e.b, ⟨s0, fun _ => .unborn⟩) _ _ x'
  rw [show seqR (seqR (seqR (seqR (seqR (seqR (Try.f42.body.getD .skip)))))) = .seq (seqL (seqR (seqR (seqR (seqR (seqR (seqR (Try.f42.body.getD .skip)))))))) (seqR (seqR (seqR (seqR (seqR (seqR (seqR (Try.f42.body.getD .skip)))))))) from rfl]
  refine Lg.move _ (fun _ _ => step_seq) id ?_
  have hgn' : e.g.n = n := hgn
  refine over_hire hP e (by rw [hgn']; exact hn64) birth s0 (by rw [hgn']; exact hwh) caps (fun i hi s H x hr => hlaw g N pos R.apart R.inj i hi hgn s H x hr) ?_ ta nt cap sv most (by rw [hgn']; exact hnt) hf (by rw [hgn']; exact xn) xl (Ne.symm hll.2.1) ?_ ?_ ?_
  · intro i hi
    simp only [List.mem_singleton] at hi
    subst hi
    simp only [ItemOk]
    kernel_rfl
  · obtain ⟨⟨c, t, r, k1, k2, k3⟩, k4⟩ := hfun
    exact ⟨⟨c, t, r, oldn _ _ _ _ (.inr ⟨k2, hta.1, hta.2⟩) k1, k2, by rw [hgn']; exact k3⟩, k4⟩
  · obtain ⟨⟨c, t, r, k1, k2, k3⟩, k4⟩ := hfun
    have := lt_of_some k1
    omega
  intro f2 w4 hf2 hh
  rw [show seqR (seqR (seqR (seqR (seqR (seqR (seqR (Try.f42.body.getD .skip))))))) = .seq (seqL (seqR (seqR (seqR (seqR (seqR (seqR (seqR (Try.f42.body.getD .skip))))))))) (seqR (seqR (seqR (seqR (seqR (seqR (seqR (seqR (Try.f42.body.getD .skip))))))))) from rfl]
  refine Lg.move _ (fun _ _ => step_seq) id ?_
  refine over_close hP e (.slice (some ta) nt cap) sv most hf2 fun f3 w5 hf3 h5 hs5 => ?_
  -- the state at the loops
  have hh5 : HeldX (fun b => b = bl) x' w5 := hh.held.trans h5.x
  have hsz5 : x.heap.size ≤ w5.heap.size := by have := hx.size; have := hh5.size; omega
  have wn : Blk w5 bn 3 #[.int .i64 e.g.n] := by rw [hgn']; exact blk_heldx hh5 xn (Ne.symm hll.2.1)
  have wm : Blk w5 bm 3 #[.int .i64 mm] := blk_heldx hh5 xm (Ne.symm hll.2.2.1)
  have wo : Blk w5 bo 24 #[.slice none 0 0] := blk_heldx hh5 xo (Ne.symm hll.2.2.2.1)
  have wl : Blk w5 bl 3 #[.int .i64 ((Mach.born birth ⟨s0, fun _ => .unborn⟩ e.g.n).left e.g.n)] := h5.block _ _ _ _ hh.l (.inl (by decide))
  have hO : OvL e MI w5.heap.size bn bo bm bl mm w5 ⟨Mach.born birth ⟨s0, fun _ => .unborn⟩ e.g.n, []⟩ w5 := by
    refine ⟨⟨wn, wm, wl, ⟨_, wo, rfl, .inl ⟨rfl, rfl⟩⟩, ⟨wn.lt, wo.lt, wm.lt, wl.lt, Nat.le_refl _⟩, ⟨R.ne.2.1, R.ne.2.2, Ne.symm hll.2.2.2.1, hll.2.1, hll.2.2.1⟩⟩, HeldX.refl _ _, Nat.zero_le _, fun j hj => born_good _ _ (by rw [hgn']; exact hwh) j hj, by rw [hgn']; exact hM0⟩
  have hnear5 : ∀ (b : Nat) (c : Array Value) (t : TypeId) (r : Nat × Nat), (b < W0.heap.size ∨ (r.2 < big ∧ ¬ H₀ b ∧ ¬ q.RB b)) → w.heap[b]? = some (.cells c t r) → w5.heap[b]? = some (.cells c t r) := fun b c t r hc h3 => hh5.block b c t r (fun z => by have := lt_of_some h3; omega) (oldn b c t r hc h3) (nrw b c t r hc h3)
  have hS5 : Sch sv xs (OvZ w5.heap.size bo bl) w5 := by
    refine ⟨?_, hsch.len⟩
    obtain ⟨A, cp, hsv, hcs⟩ := hsch.at_
    refine ⟨A, cp, hsv, fun i hi => ?_⟩
    obtain ⟨b, o, cs, t, r, h1, h2, h3, h6⟩ := hcs i hi
    have hbw := lt_of_some h2
    have hc : b < W0.heap.size ∨ (r.2 < big ∧ ¬ H₀ b ∧ ¬ q.RB b) := h3.imp id fun z => ⟨z.1, fun y => z.2 (.inl y), fun y => z.2 (.inr y)⟩
    refine ⟨b, o, cs, t, r, h1, hnear5 b cs t r hc h2, nrw b cs t r hc h2, fun z => ?_, h6⟩
    have := R.lo
    have := R.old.size
    have := hsz5
    rcases z with z | z | z <;> omega
  rw [show seqR (seqR (seqR (seqR (seqR (seqR (seqR (seqR (Try.f42.body.getD .skip)))))))) = .seq (seqL (seqR (seqR (seqR (seqR (seqR (seqR (seqR (seqR (Try.f42.body.getD .skip)))))))))) (seqR (seqR (seqR (seqR (seqR (seqR (seqR (seqR (seqR (Try.f42.body.getD .skip)))))))))) from rfl]
  refine Lg.move _ (fun _ _ => step_seq) id ?_
  refine over_sched hP e (by rw [hgn']; exact hn64) (MI := MI) (by rw [hgn']; exact hM) hmost (.slice (some ta) nt cap) sv most xs hf3 hS5 hO fun f4 w6 hf4 hO6 => ?_
  rw [show seqR (seqR (seqR (seqR (seqR (seqR (seqR (seqR (seqR (Try.f42.body.getD .skip))))))))) = .seq (seqL (seqR (seqR (seqR (seqR (seqR (seqR (seqR (seqR (seqR (Try.f42.body.getD .skip))))))))))) (seqR (seqR (seqR (seqR (seqR (seqR (seqR (seqR (seqR (seqR (Try.f42.body.getD .skip))))))))))) from rfl]
  refine Lg.move _ (fun _ _ => step_seq) id ?_
  refine over_rounds hP e (by rw [hgn']; exact hn64) (MI := MI) (by rw [hgn']; exact hM) hmost (.slice (some ta) nt cap) sv most hf4 ⟨hO6.s, HeldX.refl _ _, hO6.le, hO6.good, hO6.mi⟩ fun f5 w7 hf5 hO7 => ?_
  rw [show seqR (seqR (seqR (seqR (seqR (seqR (seqR (seqR (seqR (seqR (Try.f42.body.getD .skip)))))))))) = .seq (seqL (seqR (seqR (seqR (seqR (seqR (seqR (seqR (seqR (seqR (seqR (Try.f42.body.getD .skip)))))))))))) (seqR (seqR (seqR (seqR (seqR (seqR (seqR (seqR (seqR (seqR (seqR (Try.f42.body.getD .skip)))))))))))) from rfl]
  refine Lg.move _ (fun _ _ => step_seq) id ?_
  refine over_stuck hP e (.slice (some ta) nt cap) sv most hf5 hO7.s fun f6 w8 hf6 h8 => ?_
  rw [show seqR (seqR (seqR (seqR (seqR (seqR (seqR (seqR (seqR (seqR (seqR (Try.f42.body.getD .skip))))))))))) = .seq (seqL (seqR (seqR (seqR (seqR (seqR (seqR (seqR (seqR (seqR (seqR (seqR (Try.f42.body.getD .skip))))))))))))) (seqR (seqR (seqR (seqR (seqR (seqR (seqR (seqR (seqR (seqR (seqR (seqR (Try.f42.body.getD .skip))))))))))))) from rfl]
  refine Lg.move _ (fun _ _ => step_seq) id ?_
  refine over_loose hP e (by rw [hgn']; exact hn64) (.slice (some ta) nt cap) sv most hO7.good hf6 fun f7 w9 hf7 h9 => ?_
  -- all are over
  have hc : (Run.rounds e.g.n mm mm (Run.turns e.g.n mm ⟨Mach.born birth ⟨s0, fun _ => .unborn⟩ e.g.n, []⟩ xs)) = playRun birth n mm xs s0 := by rw [hgn']; rfl
  have hover : ∀ i, i < g.n → ((Run.rounds e.g.n mm mm (Run.turns e.g.n mm ⟨Mach.born birth ⟨s0, fun _ => .unborn⟩ e.g.n, []⟩ xs)).m.ended e.g.n).th i = .over := fun i hi => ended_over hO7.good e.g.n (Nat.le_refl _) i hi
  obtain ⟨ov, hov, hown⟩ := hO7.s.o
  have hov9 : Blk w9 bo 24 #[ov] := blk_heldx (HeldX.trans h8.x h9.x) hov (Z := fun _ => False) id
  have hown9 := own_heldm (h8.trans h9) hown
  refine end_run (q := q) (W0 := W0) (P := Try.prog) (pos := pos) (apart := R.apart) (inj := R.inj) hover fun x2 s1 => ?_
  have hs : (((Run.rounds e.g.n mm mm (Run.turns e.g.n mm ⟨Mach.born birth ⟨s0, fun _ => .unborn⟩ e.g.n, []⟩ xs)).m.ended e.g.n)).s = (playRun birth n mm xs s0).m.s := by rw [ended_s, hc]
  obtain ⟨ov2, br2, htu⟩ := s1.tu hx.tn
  obtain ⟨H₁, hre1, hfar⟩ := s1.rep
  have hbo : ¬ H₁ bo := hfar bo _ _ (0, 0) (.inr (by decide)) hov9
  have xbo : Blk x2 bo 24 #[ov] := s1.own bo _ _ (0, 0) (.inr (by decide)) hov9
  obtain ⟨A, ln, rfl⟩ : ∃ A ln, ov = .slice A _ ln := own_slice hown
  have htv := htu.tv'
  have nt1 : bo ≠ g.tv := fun z => R.tn.2.2 (.inl z)
  have nt2 : bo ≠ g.tb := fun z => R.tn.2.2 (.inr (.inl z))
  show (lgAl hP Post W0 (e.b + e.g.n)).T () _ _ x2
  refine over_last (lgAl hP Post W0 (e.b + e.g.n)) (fun h => h) (.slice (some ta) nt cap) sv most hf7 xbo htv.v htv.t2 nt1 nt2 ⟨_, _, _, rfl⟩ fun w' kb ks ko kp => ?_
  have hbw : w.heap.size ≤ bo := R.lo.2.2
  have k9 : ∀ (b : Nat) (c : Array Value) (t : TypeId) (r : Nat × Nat), (b < W0.heap.size ∨ (r.2 < big ∧ ¬ H₀ b ∧ ¬ q.RB b)) → w.heap[b]? = some (.cells c t r) → w9.heap[b]? = some (.cells c t r) := fun b c t r hc h3 => by
    have h4 := nrw b c t r hc h3
    have hbl := lt_of_some h3
    have z2 : ¬ OvZ w5.heap.size bo bl b := fun z => by have := hll.1; have := R.old.size; rcases z with z | z | z <;> omega
    exact (h8.trans h9).block b c t r ((hO6.held.trans hO7.held).block b c t r z2 (hnear5 b c t r hc h3) h4) h4
  refine hR _ w' ?_ (e.b + e.g.n)
  refine ⟨⟨.slice A (Run.rounds e.g.n mm mm (Run.turns e.g.n mm ⟨Mach.born birth ⟨s0, fun _ => .unborn⟩ e.g.n, []⟩ xs)).order.length ln, .slice (some ⟨g.rb, 0, none⟩) g.n g.n, ?_, ?_⟩, ?_, ?_, ?_, ?_, ?_⟩
  · rw [← hc, ← hgn']; rfl
  · rw [← hc]
    obtain ⟨e1, e2⟩ := hown9
    refine own_base (base := w5.heap.size) ⟨e1, ?_⟩ (by have := R.old.size; omega)
    rcases e2 with e2 | ⟨g0, cp, cur, hv, hg0, hh0, r⟩
    · exact .inl e2
    · refine .inr ⟨g0, cp, cur, hv, hg0, (kb g0 (by have := hO.s.lt; omega)).trans (s1.own _ _ _ (0, 0) (.inr (by decide)) hh0), r⟩
  · have this : q.Rep (((Run.rounds e.g.n mm mm (Run.turns e.g.n mm ⟨Mach.born birth ⟨s0, fun _ => .unborn⟩ e.g.n, []⟩ xs)).m.ended e.g.n)).s H₁ x2 := hre1
    have this : q.Rep (playRun birth n mm xs s0).m.s H₁ x2 := hs ▸ this
    refine ⟨H₁, ?_, fun b c t r hc h3 => hfar b c t r (hc.imp id fun z => z.1) (k9 b c t r hc h3)⟩
    exact q.rep _ H₁ x2 w' this (fun b hb => kb b (fun z => hbo (z ▸ hb))) fun b c t r hb h => ⟨r, (kb b (fun z => (newb bo hbw).2 (z ▸ hb))).trans h⟩
  · intro b hb hge c t r hv
    exact (kb b (fun z => (newb bo hbw).2 (z ▸ hb))).trans (s1.rb b hb hge c t r hv)
  · have := R.old.size
    have := hsz5
    have := hO6.held.size
    have := hO7.held.size
    have := h8.size
    have := h9.size
    have := s1.size
    omega
  · intro b c t r hc h3
    have hbl := lt_of_some h3
    have z1 : b ≠ bo := by omega
    exact (kb b z1).trans (s1.own b c t r (hc.imp id fun z => z.1) (k9 b c t r hc h3))
  · exact ⟨ko.trans (s1.io.1.trans hask.io.1.symm), kp.trans (s1.io.2.trans hask.io.2.symm)⟩
set_option maxHeartbeats 2000000 in
set_option maxRecDepth 100000 in
theorem over_left {κ : Type} (L : Lg Try.prog κ) (hs : ¬ L.strict) {t : κ} {b : Frame} {k : List Item} {mid : List Frame} (ta : Addr) (nt cap : Nat) (sv : Value) (mo : Int) {f : Nat → Value} {g : Gs} {bn bo bm : Nat} {x0 : World} (hf : Sl f g.tv bn bo bm)
    (hT : ∀ f' (y : World), (∃ τ n, x0 = y.re τ n) → Sl2 f' g bn bo bm y.heap.size → L.T t (b.at ⟨frO (.slice (some ta) nt cap) sv mo f', []⟩ k) mid (y.alloc (.cells #[.int .i64 0] 3))) :
    L.T t (b.at ⟨fill f (#[.slice (some ta) nt cap, sv, .int .i64 mo] ++ Array.replicate (Try.f42.ntmps - 3) undef) ns1, []⟩ (.code (seqL (seqR (seqR (seqR (seqR (seqR (Try.f42.body.getD .skip))))))) :: k)) mid x0 := by
  have HT := Lib.hid hT
  clear hT
  simp only [Try.f42, Option.getD_some, Nat.reduceSub, Array.replicate_succ, Array.replicate_zero, List.push_toArray, List.append_toArray, List.nil_append, List.cons_append, seqR, seqL]
  simp only [fill, fillL, ns1, List.range', List.cons_append, List.nil_append, List.set_cons_zero, List.set_cons_succ, Nat.reduceAdd]
  refine Lg.code fun K hK u τ n hu => ?_
  go_wp2
  refine hK _ _ (fun h => absurd h hs) ?_
  clear hK K
  exact Lg.family (frO (.slice (some ta) nt cap) sv mo) (R := fun f' => Sl2 f' g bn bo bm u.heap.size) (fun f' hf' => HT.out f' u ⟨τ, n, hu⟩ hf') (by rfl) ⟨⟨hf.f5, hf.f6, hf.f7, hf.f9, hf.f10⟩, rfl⟩
set_option maxHeartbeats 2000000 in
set_option maxRecDepth 100000 in
/-- ████ Over: A RUN BY A SCHEDULE IS THE PURE MACHINE'S. ████ -/
theorem over_calls (hP : Prog Try.prog) (Post : Value → World → Prop) (W0 : World) (q : Shd) (birth : Nat → q.S → Tree q.S q.S) (MI : Mach q.S → Prop) (caps : Nat → Array Value) (ta : Addr) (nt cap : Nat) (hM : MInv MI (min nt 64)) (hnt : nt ≤ maxLen) (hpos : 0 < nt) (sv : Value) (xs : List Int) (most : Int) (s0 : q.S) (hwh : ∀ j, j < min nt 64 → birth j (Mach.born birth ⟨s0, fun _ => .unborn⟩ j).s ≠ .cut) (hM0 : MI (Mach.born birth ⟨s0, fun _ => .unborn⟩ (min nt 64))) (H₀ : Nat → Prop) (w : World)
    (hask : OverAsks q W0 s0 H₀ w) (hfun : Funs (min nt 64) ta caps w) (hta : ¬ H₀ ta.block ∧ ¬ q.RB ta.block) (hsch : SchI W0 sv xs (fun b => H₀ b ∨ q.RB b) w)
    (hlaw : ∀ g b pos apart inj i, i < g.n → g.n = min nt 64 → ∀ s H x, q.Rep s H x → ThreadLaw (q.env Try.prog Post W0 g b pos apart inj) i (caps i) s (birth i s) x) :
    Ccalls (lgA hP Post W0) 42 #[.slice (some ta) nt cap, sv, .int .i64 most] () w fun v _ w' => OverDone q W0 (min nt 64) (playRun birth (min nt 64) (heldI most 1048576).toNat xs s0) H₀ w v w' := by
  intro c' mid hR
  have hR := Lib.hid hR
  rw [show Frame.enter Try.prog 42 #[.slice (some ta) nt cap, sv, .int .i64 most] .normal = Frame.at { (default : Frame) with fn := 42, kind := .normal } ⟨#[.slice (some ta) nt cap, sv, .int .i64 most] ++ Array.replicate (Try.f42.ntmps - 3) undef, []⟩ [.code (Try.f42.body.getD .skip)] from by simp [Frame.enter, Frame.at, Try.func42]; rfl]
  have hs : ¬ (lgA hP Post W0).strict := fun h => h
  have hn64 : min nt 64 ≤ 64 := by omega
  have hn0 : 0 < min nt 64 := by omega
  have hmost : (heldI most 1048576).toNat ≤ 1048576 := by unfold heldI; omega
  refine over_pre3 (lgA hP Post W0) hs ta nt cap sv most hnt ?_
  rintro f1 w1 ⟨tvb, tb, bk, rb, bn, bo, bm, M, hb⟩
  refine over_pre4 (lgA hP Post W0) hs ta nt cap sv most hn64 M hb ?_
  rintro w2 ⟨v2, sb, ps, st⟩ f2 hf2
  obtain ⟨g, hgt, R⟩ := made_ready hn0 M hb st
  rw [show seqR (seqR (seqR (seqR (seqR (Try.f42.body.getD .skip))))) = .seq (seqL (seqR (seqR (seqR (seqR (seqR (Try.f42.body.getD .skip))))))) (seqR (seqR (seqR (seqR (seqR (seqR (Try.f42.body.getD .skip))))))) from rfl]
  refine Lg.move _ (fun _ _ => step_seq) id ?_
  refine over_left (lgA hP Post W0) hs ta nt cap sv most (by rw [hgt]; exact hf2) ?_
  rintro f3 y ⟨τ, d, rfl⟩ hf3
  have Ry := R.re
  have hlt : ∀ b, Tn g b → b < y.heap.size := fun b hb => (Ry.new b hb).2
  exact over_main hP Post W0 q birth MI caps ta nt cap (min nt 64) (heldI most 1048576).toNat hM hn64 hn0 (by omega) hmost sv xs most s0 hwh hM0 H₀ w hask hfun hta hsch hlaw (fun v w' h => hR.out v () w' h) (Ry.alloc _) (Blk.new y 3 #[.int .i64 0]) ⟨Ry.old.size, fun z => by have := Ry.hn.lt; omega, fun z => by have := Ry.hm.lt; omega, fun z => by have := Ry.ho.lt; omega, fun z => by have := hlt _ z; omega⟩ hf3
end Go.Proofs.Yteainbnoemkfcaa
/- DERIVED. Threads that do operations, and their answers in memory (package turn: doing): the shared state. -/
namespace Go.Proofs.Yteainbnoemkfcaa
open Go.RowKit Go.Turn Go.Tame Go.Conc
set_option linter.unusedVariables false
/-- An operation; an answer. -/
structure OpI where
  kind : Int
  a : Int
  b : Int
  c : Int
structure Ans where
  ok : Bool
  n : Int
  ls : List Int
  deriving DecidableEq
def OpI.val (o : OpI) : Value := .agg #[.int .i64 o.kind, .int .i64 o.a, .int .i64 o.b, .int .i64 o.c]
def OpI.cells (o : OpI) : List Value := [.int .i64 o.kind, .int .i64 o.a, .int .i64 o.b, .int .i64 o.c]
/-- What is fixed while threads do operations. -/
structure OpsD where
  n : Nat
  ab : Nat
  dob : Nat
  anb : Nat
  opb : Nat → Nat
  ib : Nat → Nat
  fv : Value
  ops : Nat → List OpI
  opv : Nat → Value
  good : OpI → Prop
  RB : Nat → Prop
  rv : Nat → Obj
  A : Type
  At : A → World → Prop
  BI : Nat → Prop
  at_ : ∀ a w w', At a w → (∀ b, BI b → w'.heap[b]? = w.heap[b]?) → At a w'
  rbc : ∀ b, RB b → ∃ c t r, rv b = .cells c t r
/-- A list of numbers of its own. -/
def LsAt (w : World) (v : Value) (ls : List Int) : Prop := w.ownsRow 0 2 1 v ls.length (ls.map (Value.int .i64))
/-- Answers, as cells. -/
def AnsRow (w : World) (G : Nat → Prop) : List Ans → List Value → Prop
  | [], xs => xs = []
  | a :: l, xs => ∃ lv xs', xs = .bool a.ok :: .int .i64 a.n :: lv :: xs' ∧ LsAt w lv a.ls ∧ (∀ b, lv.ownBlock = some b → G b) ∧ AnsRow w G l xs'
abbrev OpsD.St (D : OpsD) : Type := D.A × (Nat → List Ans)
structure RepO (D : OpsD) (st : D.St) (H : Nat → Prop) (w : World) : Prop where
  at_ : D.At st.1 w
  bi : ∀ b, D.BI b → H b
  abH : H D.ab ∧ ¬ D.BI D.ab
  near : ∀ b, H b → ∃ c t r, w.heap[b]? = some (.cells c t r) ∧ r.2 < big
  rows : ∃ (rw_ : Nat → Value) (c : Array Value), w.heap[D.ab]? = some (.cells c 44 (0, 0)) ∧ c.size = D.n ∧ (∀ i, i < D.n → c[i]? = some (rw_ i)) ∧
    (∀ i, i < D.n → ∃ xs, w.ownsRow 0 46 3 (rw_ i) (st.2 i).length xs ∧ AnsRow w (fun b => H b ∧ ¬ D.BI b) (st.2 i) xs ∧ ∀ b, (rw_ i).ownBlock = some b → H b ∧ ¬ D.BI b) ∧
    ∀ i j b, i < D.n → j < D.n → (rw_ i).ownBlock = some b → (rw_ j).ownBlock = some b → i = j
  rb : ∀ b c t r, D.RB b → D.rv b = .cells c t r → ∃ r', w.heap[b]? = some (.cells c t r')
  rbH : ∀ b, D.RB b → ¬ H b
theorem own_same {w w' : World} {base : Nat} {e : TypeId} {size n : Nat} {v : Value} {xs : List Value} (h : w.ownsRow base e size v n xs) (hs : ∀ b, v.ownBlock = some b → w'.heap[b]? = w.heap[b]?) : w'.ownsRow base e size v n xs := by
  obtain ⟨h1, h2⟩ := h
  refine ⟨h1, ?_⟩
  rcases h2 with h2 | ⟨g, cap, cur, rfl, hg, hh, r⟩
  · exact .inl h2
  · exact .inr ⟨g, cap, cur, rfl, hg, (hs g rfl).trans hh, r⟩
theorem AnsRow.same {w w' : World} {G G' : Nat → Prop} : ∀ {l : List Ans} {xs : List Value}, AnsRow w G l xs → (∀ b, G b → w'.heap[b]? = w.heap[b]?) → (∀ b, G b → G' b) → AnsRow w' G' l xs
  | [], _, h, _, _ => h
  | a :: l, xs, ⟨lv, xs', e, h1, h2, h3⟩, hs, hg => ⟨lv, xs', e, own_same h1 fun b hb => hs b (h2 b hb), fun b hb => hg b (h2 b hb), h3.same hs hg⟩
theorem AnsRow.snoc {w : World} {G : Nat → Prop} {a : Ans} {lv : Value} (h1 : LsAt w lv a.ls) (h2 : ∀ b, lv.ownBlock = some b → G b) : ∀ {l : List Ans} {xs : List Value}, AnsRow w G l xs → AnsRow w G (l ++ [a]) (xs ++ [.bool a.ok, .int .i64 a.n, lv])
  | [], xs, h => by
    have h : xs = [] := h
    subst h
    exact ⟨lv, [], rfl, h1, h2, rfl⟩
  | b :: l, xs, ⟨lv', xs', e, h3, h4, h5⟩ => ⟨lv', xs' ++ [.bool a.ok, .int .i64 a.n, lv], by rw [e]; rfl, h3, h4, h5.snoc h1 h2⟩
theorem RepO.law (D : OpsD) (st : D.St) (H : Nat → Prop) (w w' : World) (h : RepO D st H w) (hs : ∀ b, H b → w'.heap[b]? = w.heap[b]?) (hr : ∀ (b : Nat) (c : Array Value) (t : TypeId) (r : Nat × Nat), D.RB b → w.heap[b]? = some (Obj.cells c t r) → ∃ r', w'.heap[b]? = some (Obj.cells c t r')) : RepO D st H w' := by
  refine ⟨D.at_ _ _ _ h.at_ fun b hb => hs b (h.bi b hb), h.bi, h.abH, fun b hb => ?_, ?_, fun b c t r hb hv => ?_, h.rbH⟩
  · obtain ⟨c, t, r, h1, h2⟩ := h.near b hb
    exact ⟨c, t, r, (hs b hb).trans h1, h2⟩
  · obtain ⟨rw_, c, h1, h2, h3, h4, h5⟩ := h.rows
    refine ⟨rw_, c, (hs _ h.abH.1).trans h1, h2, h3, fun i hi => ?_, h5⟩
    obtain ⟨xs, k1, k2, k3⟩ := h4 i hi
    exact ⟨xs, own_same k1 fun b hb => hs b (k3 b hb).1, k2.same (fun b hb => hs b hb.1) fun b hb => hb, k3⟩
  · obtain ⟨r', h1⟩ := h.rb b c t r hb hv
    exact hr b c t r' hb h1
/-- The inner state has changed, in its own blocks; what else is new is nobody's. -/
theorem RepO.inner {D : OpsD} {st : D.St} {H : Nat → Prop} {w w' : World} (h : RepO D st H w) {a' : D.A} (ha : D.At a' w') (hs : ∀ b, b < w.heap.size → ¬ D.BI b → w'.heap[b]? = w.heap[b]?) (hn : ∀ b, D.BI b → ∃ c t r, w'.heap[b]? = some (.cells c t r) ∧ r.2 < big) : RepO D (a', st.2) H w' := by
  have hlt : ∀ b, H b → b < w.heap.size := fun b hb => by obtain ⟨c, t, r, h1, _⟩ := h.near b hb; exact lt_of_some h1
  refine ⟨ha, h.bi, h.abH, fun b hb => ?_, ?_, fun b c t r hb hv => ?_, h.rbH⟩
  · by_cases hbi : D.BI b
    · exact hn b hbi
    · obtain ⟨c, t, r, h1, h2⟩ := h.near b hb
      exact ⟨c, t, r, (hs b (hlt b hb) hbi).trans h1, h2⟩
  · obtain ⟨rw_, c, h1, h2, h3, h4, h5⟩ := h.rows
    refine ⟨rw_, c, (hs _ (lt_of_some h1) h.abH.2).trans h1, h2, h3, fun i hi => ?_, h5⟩
    obtain ⟨xs, k1, k2, k3⟩ := h4 i hi
    exact ⟨xs, own_same k1 fun b hb => hs b (hlt b (k3 b hb).1) (k3 b hb).2, k2.same (fun b hb => hs b (hlt b hb.1) hb.2) fun b hb => hb, k3⟩
  · obtain ⟨r', h1⟩ := h.rb b c t r hb hv
    exact ⟨r', (hs b (lt_of_some h1) (fun z => h.rbH b hb (h.bi b z))).trans h1⟩
/-- An answer is laid behind thread i's answers. -/
def OpsD.push (D : OpsD) (i : Nat) (a : Ans) (st : D.St) : D.St := (st.1, fun j => if j = i then st.2 j ++ [a] else st.2 j)
theorem RepO.push {D : OpsD} {st : D.St} {H : Nat → Prop} {w w' : World} (h : RepO D st H w) {i : Nat} (hi : i < D.n) {a : Ans} {lv v' : Value} {rw_ : Nat → Value} {c : Array Value} {xs : List Value}
    (h1 : w.heap[D.ab]? = some (.cells c 44 (0, 0))) (h2 : c.size = D.n) (h3 : ∀ i, i < D.n → c[i]? = some (rw_ i)) (h4 : ∀ i, i < D.n → ∃ xs, w.ownsRow 0 46 3 (rw_ i) (st.2 i).length xs ∧ AnsRow w (fun b => H b ∧ ¬ D.BI b) (st.2 i) xs ∧ ∀ b, (rw_ i).ownBlock = some b → H b ∧ ¬ D.BI b) (h5 : ∀ i j b, i < D.n → j < D.n → (rw_ i).ownBlock = some b → (rw_ j).ownBlock = some b → i = j)
    (hxs : w.ownsRow 0 46 3 (rw_ i) (st.2 i).length xs) (hans : AnsRow w (fun b => H b ∧ ¬ D.BI b) (st.2 i) xs)
    (hls : LsAt w lv a.ls) (hlv : ∀ b, lv.ownBlock = some b → ¬ H b) (hlr : ∀ b, lv.ownBlock = some b → ¬ D.RB b)
    (hown : w'.ownsRow 0 46 3 v' ((st.2 i).length + 1) (xs ++ [.bool a.ok, .int .i64 a.n, lv])) (hv' : ∀ b, v'.ownBlock = some b → (rw_ i).ownBlock = some b ∨ w.heap.size ≤ b)
    (hab : w'.heap[D.ab]? = some (.cells (c.setIfInBounds i v') 44 (0, 0)))
    (hs : ∀ b, b < w.heap.size → b ≠ D.ab → (rw_ i).ownBlock ≠ some b → w'.heap[b]? = w.heap[b]?) :
    RepO D (D.push i a st) (fun b => (H b ∧ (rw_ i).ownBlock ≠ some b) ∨ v'.ownBlock = some b ∨ lv.ownBlock = some b) w' := by
  have hlt : ∀ b, H b → b < w.heap.size := fun b hb => by obtain ⟨c, t, r, h1, _⟩ := h.near b hb; exact lt_of_some h1
  have hlb : ∀ b, lv.ownBlock = some b → ∃ cur, w.heap[b]? = some (.cells cur 2 (0, 0)) := fun b hb => by
    rcases hls.2 with ⟨e, _⟩ | ⟨g, cap, cur, e, _, k, _⟩
    · rw [e] at hb; simp [Value.ownBlock] at hb
    · rw [e] at hb; simp only [Value.ownBlock, Option.some.injEq] at hb; subst hb; exact ⟨cur, k⟩
  have hrb : ∀ j, j < D.n → ∀ b, (rw_ j).ownBlock = some b → ∃ cur, w.heap[b]? = some (.cells cur 46 (0, 0)) := fun j hj b hb => by
    obtain ⟨xs, k1, _⟩ := h4 j hj
    rcases k1.2 with ⟨e, _⟩ | ⟨g, cap, cur, e, _, k, _⟩
    · rw [e] at hb; simp [Value.ownBlock] at hb
    · rw [e] at hb; simp only [Value.ownBlock, Option.some.injEq] at hb; subst hb; exact ⟨cur, k⟩
  have lvi : ∀ b, lv.ownBlock = some b → (rw_ i).ownBlock ≠ some b ∧ b ≠ D.ab ∧ b < w.heap.size := fun b hb => by
    obtain ⟨cur, k⟩ := hlb b hb
    refine ⟨fun z => ?_, fun z => hlv b hb (z ▸ h.abH.1), lt_of_some k⟩
    obtain ⟨cur', k'⟩ := hrb i hi b z
    rw [k] at k'
    simp at k'
  -- what was shared, other than row i and the array, is as it was
  have keep : ∀ b, H b → b ≠ D.ab → (rw_ i).ownBlock ≠ some b → w'.heap[b]? = w.heap[b]? := fun b hb h1 h2 => hs b (hlt b hb) h1 h2
  have bab : ∀ b, D.BI b → b ≠ D.ab ∧ (rw_ i).ownBlock ≠ some b := fun b hb => ⟨fun z => h.abH.2 (z ▸ hb), fun z => by obtain ⟨_, _, _, k⟩ := h4 i hi; exact (k b z).2 hb⟩
  have lists : ∀ (G : Nat → Prop) (l : List Ans) (ys : List Value), AnsRow w (fun b => H b ∧ ¬ D.BI b) l ys → AnsRow w' (fun b => ((H b ∧ (rw_ i).ownBlock ≠ some b) ∨ v'.ownBlock = some b ∨ lv.ownBlock = some b) ∧ ¬ D.BI b) l ys := by
    intro G l
    induction l with
    | nil => exact fun ys h => h
    | cons x l ih =>
      rintro ys ⟨lv', ys', e, k1, k2, k3⟩
      have hb' : ∀ b, lv'.ownBlock = some b → b ≠ D.ab ∧ (rw_ i).ownBlock ≠ some b := fun b hb => by
        have hb' : ∃ cur, w.heap[b]? = some (.cells cur 2 (0, 0)) := by
          rcases k1.2 with ⟨e, _⟩ | ⟨g, cap, cur, e, _, k, _⟩
          · rw [e] at hb; simp [Value.ownBlock] at hb
          · rw [e] at hb; simp only [Value.ownBlock, Option.some.injEq] at hb; subst hb; exact ⟨cur, k⟩
        obtain ⟨cur, k⟩ := hb'
        refine ⟨fun z => ?_, fun z => ?_⟩
        · rw [z, h1] at k; simp at k
        · obtain ⟨cur', k'⟩ := hrb i hi b z
          rw [k] at k'; simp at k'
      exact ⟨lv', ys', e, own_same k1 fun b hb => keep b (k2 b hb).1 (hb' b hb).1 (hb' b hb).2, fun b hb => ⟨.inl ⟨(k2 b hb).1, (hb' b hb).2⟩, (k2 b hb).2⟩, ih _ k3⟩
  refine ⟨D.at_ _ _ _ h.at_ fun b hb => keep b (h.bi b hb) (bab b hb).1 (bab b hb).2, fun b hb => .inl ⟨h.bi b hb, (bab b hb).2⟩, ⟨.inl ⟨h.abH.1, fun z => by obtain ⟨cur, k⟩ := hrb i hi _ z; rw [h1] at k; simp at k⟩, h.abH.2⟩, fun b hb => ?_, ?_, fun b c t r hb hv => ?_, fun b hb z => ?_⟩
  · rcases hb with ⟨hb, z2⟩ | hb | hb
    · by_cases z1 : b = D.ab
      · rw [z1]; exact ⟨_, _, _, hab, by decide⟩
      · obtain ⟨c, t, r, k1, k2⟩ := h.near b hb
        exact ⟨c, t, r, (keep b hb z1 z2).trans k1, k2⟩
    · rcases hown.2 with ⟨e, _⟩ | ⟨g, cap, cur, e, _, k, _⟩
      · rw [e] at hb; simp [Value.ownBlock] at hb
      · rw [e] at hb; simp only [Value.ownBlock, Option.some.injEq] at hb; subst hb; exact ⟨_, _, _, k, by decide⟩
    · obtain ⟨cur, k⟩ := hlb b hb
      obtain ⟨k1, k2, k3⟩ := lvi b hb
      exact ⟨_, _, _, (hs b k3 k2 k1).trans k, by decide⟩
  · have vnew : ∀ b, v'.ownBlock = some b → ¬ D.BI b ∧ ∀ j, j < D.n → j ≠ i → (rw_ j).ownBlock ≠ some b := fun b hb => by
      rcases hv' b hb with z | z
      · obtain ⟨_, _, _, kk⟩ := h4 i hi
        exact ⟨(kk b z).2, fun j hj hji z2 => hji (h5 j i b hj hi z2 z)⟩
      · exact ⟨fun z2 => by have := hlt b (h.bi b z2); omega, fun j hj _ z2 => by obtain ⟨cur, k⟩ := hrb j hj b z2; have := lt_of_some k; omega⟩
    refine ⟨fun j => if j = i then v' else rw_ j, _, hab, by simpa using h2, fun j hj => ?_, fun j hj => ?_, fun j l b hj hl z1 z2 => ?_⟩
    · rw [Array.getElem?_setIfInBounds]
      by_cases e : j = i
      · subst e; simp [h2, hj]
      · rw [if_neg (fun z => e z.symm), h3 j hj]; simp [e]
    · by_cases e : j = i
      · subst e
        refine ⟨xs ++ [.bool a.ok, .int .i64 a.n, lv], by simpa [OpsD.push] using hown, ?_, fun b hb => ?_⟩
        · have := AnsRow.snoc (a := a) (lv := lv) (w := w') (G := fun b => ((H b ∧ (rw_ j).ownBlock ≠ some b) ∨ v'.ownBlock = some b ∨ lv.ownBlock = some b) ∧ ¬ D.BI b) (own_same hls fun b hb => hs b (lvi b hb).2.2 (lvi b hb).2.1 (lvi b hb).1) (fun b hb => ⟨.inr (.inr hb), fun z => hlv b hb (h.bi b z)⟩) (lists H _ _ hans)
          simpa [OpsD.push] using this
        · simp only [if_true] at hb
          exact ⟨.inr (.inl hb), (vnew b hb).1⟩
      · obtain ⟨ys, k1, k2, k3⟩ := h4 j hj
        have hne : ∀ b, (rw_ j).ownBlock = some b → b ≠ D.ab ∧ (rw_ i).ownBlock ≠ some b := fun b hb => by
          obtain ⟨cur, k⟩ := hrb j hj b hb
          refine ⟨fun z => ?_, fun z => e (h5 j i b hj hi hb z)⟩
          rw [z, h1] at k; simp at k
        refine ⟨ys, ?_, ?_, fun b hb => ?_⟩
        · simp only [e, if_false, OpsD.push]
          exact own_same k1 fun b hb => keep b (k3 b hb).1 (hne b hb).1 (hne b hb).2
        · simp only [e, if_false, OpsD.push]
          exact lists H _ _ k2
        · simp only [e, if_false] at hb
          exact ⟨.inl ⟨(k3 b hb).1, (hne b hb).2⟩, (k3 b hb).2⟩
    · by_cases e1 : j = i <;> by_cases e2 : l = i
      · rw [e1, e2]
      · simp only [e1, e2, if_true, if_false] at z1 z2
        exact absurd z2 ((vnew b z1).2 l hl e2)
      · simp only [e1, e2, if_true, if_false] at z1 z2
        exact absurd z1 ((vnew b z2).2 j hj e1)
      · simp only [e1, e2, if_false] at z1 z2
        exact h5 j l b hj hl z1 z2
  · obtain ⟨r', k⟩ := h.rb b c t r hb hv
    exact ⟨r', (hs b (lt_of_some k) (fun z => h.rbH b hb (z ▸ h.abH.1)) (fun z => by obtain ⟨_, _, _, kk⟩ := h4 i hi; exact h.rbH b hb (kk b z).1)).trans k⟩
  · obtain ⟨c0, t0, r0, hv0⟩ := D.rbc b hb
    obtain ⟨r', k⟩ := h.rb b c0 t0 r0 hb hv0
    rcases z with z | z | z
    · exact h.rbH b hb z.1
    · rcases hv' b z with z | z
      · obtain ⟨_, _, _, kk⟩ := h4 i hi
        exact h.rbH b hb (kk b z).1
      · have := lt_of_some k; omega
    · exact hlr b z hb
end Go.Proofs.Yteainbnoemkfcaa
/- DERIVED. Threads that do operations (package turn: doing): a thread's function is its tree. -/
namespace Go.Proofs.Yteainbnoemkfcaa
open Go.RowKit Go.Turn Go.Tame Go.Conc
set_option linter.unusedVariables false
def OpsD.shd (D : OpsD) (os : Os) (out : Array (Nat × ByteArray)) : Shd where
  S := D.St
  RB := D.RB
  rv := D.rv
  os := os
  out := out
  Rep := RepO D
  rep := RepO.law D
  near := fun _ _ _ b h hb => h.near b hb
/-- What an operation does. -/
abbrev OpsD.DoT (D : OpsD) : Type := OpI → D.St → (Ans → D.St → Tree D.St D.St) → Tree D.St D.St
/-- A thread: 'own': what it has answered so far. -/
def thrT (D : OpsD) (doT : D.DoT) (i : Nat) : List OpI → List Ans → D.St → Tree D.St D.St
  | [], _, st => .ret st
  | o :: l, own, st => doT o st fun a st' => if st'.2 i = own then thrT D doT i l (own ++ [a]) (D.push i a st') else .cut
/-- A thread from its birth. -/
def brT (D : OpsD) (doT : Nat → D.DoT) (i : Nat) (st : D.St) : Tree D.St D.St := if st.2 i = [] then thrT D (doT i) i (D.ops i) [] st else .cut
/-- The law of Step, in the logic of a thread, over these states. -/
def StepO (D : OpsD) (L : Lg Try.prog (Tree D.St D.St)) (Cap : (Nat → Prop) → World → Prop) (sb : Nat) : Prop :=
  ∀ s H k w, RepO D s H w → Cap H w → Ccalls L 79 #[.pointer (some ⟨sb, 0, none⟩)] (.yield s k) w fun u t' w' => u = .tuple #[] ∧ ∃ s' H', t' = k s' ∧ (RepO D s' H' w' ∧ Cap H' w') ∧ Held H w H' w'
/-- The law of an operation. -/
def DoLaw (D : OpsD) (i : Nat) (doT : D.DoT) (f : FuncId) (bound caps : Array Value) : Prop :=
  ∀ (sb : Nat) (L : Lg Try.prog (Tree D.St D.St)) (Cap : (Nat → Prop) → World → Prop), (∀ H w τ n, Cap H w → Cap H (w.re τ n)) → (∀ H w H' w', Cap H w → Held H w H' w' → Cap H' w') → StepO D L Cap sb → ∀ o st H k w, D.good o → RepO D st H w → Cap H w →
    Ccalls L f (bound ++ #[.iface 116 (.pointer (some ⟨sb, 0, none⟩)), .int .i64 i, o.val] ++ caps) (doT o st k) w fun v t' w' => ∃ a st' H' lv, t' = k a st' ∧ v = .agg #[.bool a.ok, .int .i64 a.n, lv] ∧ RepO D st' H' w' ∧ Held H w H' w' ∧ w'.ownsRow w.heap.size 2 1 lv a.ls.length (a.ls.map (Value.int .i64)) ∧ ∀ b, lv.ownBlock = some b → ¬ H' b
/-- What thread i finds. -/
structure ThrOk (D : OpsD) (i : Nat) : Prop where
  lt : i < D.n
  n64 : D.n ≤ 64
  op : D.RB (D.opb i) ∧ D.rv (D.opb i) = .cells #[D.opv i] 34 (0, 0)
  do_ : D.RB D.dob ∧ D.rv D.dob = .cells #[D.fv] 75 (0, 0)
  ib : D.RB (D.ib i) ∧ D.rv (D.ib i) = .cells #[.int .i64 i] 3 (0, 0)
  an : D.RB D.anb ∧ D.rv D.anb = .cells #[.slice (some ⟨D.ab, 0, none⟩) D.n D.n] 29 (0, 0)
  len : (D.ops i).length ≤ 65536
  gd : ∀ o ∈ D.ops i, D.good o
  ops : ∃ A cap, D.opv i = .slice A (D.ops i).length cap ∧ ∀ j (h : j < (D.ops i).length), ∃ b o cs t r, A = some ⟨b, o, none⟩ ∧ D.RB b ∧ D.rv b = .cells cs t r ∧ ∀ m, m < 4 → cs[o + j * 4 + m]? = (D.ops i)[j].cells[m]?
theorem RepO.cell {D : OpsD} {st : D.St} {H : Nat → Prop} {w : World} (h : RepO D st H w) {b : Nat} {c : Array Value} {t : TypeId} {r : Nat × Nat} (hb : D.RB b ∧ D.rv b = .cells c t r) (j : Nat) : w.cell? ⟨b, j, none⟩ = c[j]? := by
  obtain ⟨r', h1⟩ := h.rb b c t r hb.1 hb.2
  exact cell_of_row w b j c t r' h1
theorem Try.infoAns : (Try.prog.info? 46).map (fun i => (i.zero, i.size, i.bytes)) = some (some (.agg #[.bool false, .int .i64 0, .slice none 0 0]), 3, 40) := by kernel_rfl
theorem one_len (v : World) (o1 : Obj) : (v.alloc o1).drew.heap.size = v.heap.size + 1 := by
  show (v.alloc o1).heap.size = _
  simp
/-- The cells of a new block, one by one. -/
theorem news_one (v : World) (cs : Array Value) (t : TypeId) : (v.alloc (.cells cs t)).drew.heap[v.heap.size]? = some (.cells cs t (0, 0)) := heap_alloc_new v _
theorem RepO.re {D : OpsD} {st : D.St} {H : Nat → Prop} {y : World} {τ : Nat → Question → Nat} {n : Nat} (h : RepO D st H (y.re τ n)) : RepO D st H y := RepO.law D st H _ y h (fun _ _ => rfl) (fun b c t r _ h => ⟨r, h⟩)
theorem RepO.lt {D : OpsD} {st : D.St} {H : Nat → Prop} {w : World} (h : RepO D st H w) {b : Nat} (hb : H b) : b < w.heap.size := by
  obtain ⟨c, t, r, h1, _⟩ := h.near b hb
  exact lt_of_some h1
theorem RepO.alloc {D : OpsD} {st : D.St} {H : Nat → Prop} {w : World} (h : RepO D st H w) (o : Obj) : RepO D st H (w.alloc o) :=
  RepO.law D st H w _ h (fun b hb => Below.heap_alloc _ _ _ (h.lt hb)) fun b c t r _ hb => ⟨r, (Below.heap_alloc _ _ _ (lt_of_some hb)).trans hb⟩
theorem RepO.set_ {D : OpsD} {st : D.St} {H : Nat → Prop} {w : World} (h : RepO D st H w) {p : Addr} (hp : ¬ H p.block) (hr : ¬ D.RB p.block) (v : Value) : RepO D st H (w.setCell p v) :=
  RepO.law D st H w _ h (fun b hb => Below.heap_setCell _ _ _ _ (fun e => hp (e ▸ hb))) fun b c t r hb hx => ⟨r, (Below.heap_setCell _ _ _ _ (fun e => hr (e ▸ hb))).trans hx⟩
theorem Held.alloc (H : Nat → Prop) (w : World) (o : Obj) : Held H w H (w.alloc o) := ⟨by simp, fun b c t r hb hn _ => ⟨(Below.heap_alloc _ _ _ (lt_of_some hb)).trans hb, hn⟩⟩
/-- What is new since W0 may be written. -/
theorem held_set {H0 H : Nat → Prop} {W0 w : World} (h : Held H0 W0 H w) {p : Addr} (hp : W0.heap.size ≤ p.block) (v : Value) : Held H0 W0 H (w.setCell p v) :=
  ⟨by have := h.size; simpa [World.setCell] using this, fun b c t r hb hn hr => by
    have := lt_of_some hb
    exact ⟨(Below.heap_setCell _ _ _ _ (by omega)).trans (h.block b c t r hb hn hr).1, (h.block b c t r hb hn hr).2⟩⟩
theorem neq_do (f : Nat) (b c : Array Value) (w : World) : (binOp BinOp.neq 75 (.func (.func f) b c) .nilFunc).run Try.prog w = .ok (.bool true) w := by kernel_rfl
/-- A thread's frames. -/
def frD (s o d ib an : Value) (f : Nat → Value) : Array Value := #[s, o, d, ib, an, f 5, f 6, f 7, f 8, f 9, f 10, f 11, f 12, f 13, f 14, f 15, f 16, f 17, f 18, f 19, f 20, f 21, f 22, f 23, f 24, f 25, f 26, f 27, f 28, f 29, f 30, f 31, f 32]
set_option maxHeartbeats 2000000 in
set_option maxRecDepth 100000 in
theorem thread_law (D : OpsD) (os : Os) (out : Array (Nat × ByteArray)) (Post : Value → World → Prop) (W0 : World) (g : Gs) (b : Nat) (pos : 0 < b) (apart) (inj) (i : Nat) (T : ThrOk D i) (doT : Nat → D.DoT) (fd : FuncId) (bound caps : Array Value) (hfv : D.fv = .func (.func fd) bound caps) (hcall : ∀ args w, (callFunc fd args).run Try.prog w = .ok (.enter fd args) w) (hD : DoLaw D i (doT i) fd bound caps) (st : D.St) (x : World) :
    ThreadLaw ((D.shd os out).env Try.prog Post W0 g b pos apart inj) i #[.pointer (some ⟨D.opb i, 0, none⟩), .pointer (some ⟨D.dob, 0, none⟩), .pointer (some ⟨D.ib i, 0, none⟩), .pointer (some ⟨D.anb, 0, none⟩)] st (brT D doT i st) x := by
  intro L Cap hre hcap hstand hcut H0 w0 hrep0 _ hcap0
  have hrep0 : RepO D st H0 w0 := hrep0
  refine ⟨Try.f52, _, Try.func52, rfl, ?_⟩
  intro bb k mid hQ
  have HQ := Lib.hid hQ
  clear hQ
  simp only [Try.f52, List.size_toArray, List.length_cons, List.length_nil, Nat.reduceAdd, Nat.reduceSub, Array.replicate_succ, Array.replicate_zero, List.push_toArray, List.append_toArray, List.nil_append, List.cons_append]
  obtain ⟨A, cap, hopv, hops⟩ := T.ops
  have hlen := T.len
  by_cases hown0 : st.2 i = []
  rotate_left
  · have : brT D doT i st = .cut := by simp [brT, hown0]
    rw [this]
    exact hcut _ _ _
  rw [show brT D doT i st = thrT D (doT i) i (D.ops i) [] st from by simp [brT, hown0]]
  generalize doT i = doT at hD ⊢
  refine Lg.move _ (fun _ _ => step_seq) id ?_
  refine Lg.code fun K hK y τ n hy => ?_
  subst hy
  have hrep : RepO D st H0 y := RepO.law D st H0 _ y hrep0 (fun _ _ => rfl) (fun b c t r _ h => ⟨r, h⟩)
  have c1 : y.cell? ⟨D.opb i, 0, none⟩ = some (.slice A (D.ops i).length cap) := by have := hrep.cell T.op 0; rw [hopv] at this; exact this
  have Hops := Lib.hid hops
  have Hrep := Lib.hid hrep
  clear hops hopv hrep0 hrep
  go_wp2
  refine hK _ _ (fun _ => rfl) ?_
  clear hK K c1
  have hrlt : ∀ b, D.RB b → b < y.heap.size := fun b hb => by
    obtain ⟨c0, t0, r0, hv0⟩ := D.rbc b hb
    obtain ⟨r', k⟩ := Hrep.out.rb b c0 t0 r0 hb hv0
    exact lt_of_some k
  have hstand' : StepO D L Cap (g.sb i) := fun s H k w hr hc => hstand s H k w hr hc
  have hcapy : Cap H0 y := hre H0 (y.re τ n) y.tape y.drawn hcap0
  clear hstand hcap0
  simp only [Shd.env]
  generalize hsb : g.sb i = sb at *
  refine Lg.family (frD (.iface 116 (.pointer (some ⟨sb, 0, none⟩))) (.pointer (some ⟨D.opb i, 0, none⟩)) (.pointer (some ⟨D.dob, 0, none⟩)) (.pointer (some ⟨D.ib i, 0, none⟩)) (.pointer (some ⟨D.anb, 0, none⟩))) (R := fun f => f 9 = .slice A (D.ops i).length cap ∧ f 10 = .int .i64 (D.ops i).length ∧ f 11 = .int .i64 0) ?_ (by rfl) ⟨rfl, rfl, rfl⟩
  rintro f1 ⟨m9, m10, m11⟩
  refine Lg.move _ (fun _ _ => step_block) (fun h => h) ?_
  refine Lg.loop_fr (frD (.iface 116 (.pointer (some ⟨sb, 0, none⟩))) (.pointer (some ⟨D.opb i, 0, none⟩)) (.pointer (some ⟨D.dob, 0, none⟩)) (.pointer (some ⟨D.ib i, 0, none⟩)) (.pointer (some ⟨D.anb, 0, none⟩))) (fun f t w => ∃ j : Nat, j ≤ (D.ops i).length ∧ ∃ (st' : D.St) (H' : Nat → Prop) (own : List Ans), own.length = j ∧ st'.2 i = own ∧ f 9 = .slice A (D.ops i).length cap ∧ f 10 = .int .i64 (D.ops i).length ∧ f 11 = .int .i64 j ∧ t = thrT D doT i ((D.ops i).drop j) own st' ∧ RepO D st' H' w ∧ Held H0 y H' w) (fun f _ _ => (D.ops i).length - (intOf (f 11)).toNat) ⟨0, Nat.zero_le _, st, H0, [], rfl, hown0, m9, m10, m11, rfl, Hrep.out, Held.refl _ _⟩ ?_
  rintro f2 t w ⟨j, hj, st', H', own, hownl, hown, k9, k10, k11, rfl, hR, hH⟩ hnext
  have HOL := Lib.hid hownl
  have HOW := Lib.hid hown
  clear hownl hown
  have hNext := Lib.hid hnext
  clear hnext m9 m10 m11 f1 Hrep
  simp only [frD, k9, k10, k11]
  refine Lg.move _ (fun _ _ => step_seq) (fun h => h) ?_
  refine Lg.code fun K hK u τ n hu => ?_
  subst hu
  have hR : RepO D st' H' u := RepO.law D st' H' _ u hR (fun _ _ => rfl) (fun b c t r _ h => ⟨r, h⟩)
  have hH : Held H0 y H' u := held_re.1 hH
  have HR := Lib.hid hR
  clear hR
  go_wp2
  refine hK _ _ (fun _ => rfl) ?_
  clear hK K
  refine Lg.move _ (fun _ _ => step_seq) (fun h => h) ?_
  by_cases hlt : j < (D.ops i).length
  · have hd : decide (j < (D.ops i).length) = true := by simpa using hlt
    simp only [hd]
    refine Lg.move _ (fun _ _ => step_cond rfl) (fun h => h) ?_
    refine Lg.move _ (fun _ _ => step_skip) (fun h => h) ?_
    refine Lg.move _ (fun _ _ => step_seq) (fun h => h) ?_
    refine Lg.move _ (fun _ _ => step_block) (fun h => h) ?_
    refine Lg.move _ (fun _ _ => step_seq) (fun h => h) ?_
    -- the operation
    obtain ⟨ob, oo, cs, ct, cr, rfl, ho1, ho2, ho3⟩ := Hops.out j hlt
    generalize hop : (D.ops i)[j] = op at ho3
    refine Lg.code fun K hK v τ n hv => ?_
    subst hv
    have hR : RepO D st' H' v := RepO.law D st' H' _ v HR.out (fun _ _ => rfl) (fun b c t r _ h => ⟨r, h⟩)
    have hH : Held H0 y H' v := held_re.1 hH
    have o0 : v.cell? ⟨ob, oo + j * 4, none⟩ = some (.int .i64 op.kind) := by have := hR.cell ⟨ho1, ho2⟩ (oo + j * 4 + 0); rw [ho3 0 (by omega)] at this; exact this
    have o1 : v.cell? ⟨ob, oo + j * 4 + 1, none⟩ = some (.int .i64 op.a) := by have := hR.cell ⟨ho1, ho2⟩ (oo + j * 4 + 1); rw [ho3 1 (by omega)] at this; exact this
    have o2 : v.cell? ⟨ob, oo + j * 4 + 1 + 1, none⟩ = some (.int .i64 op.b) := by have := hR.cell ⟨ho1, ho2⟩ (oo + j * 4 + 2); rw [ho3 2 (by omega)] at this; exact this
    have o3 : v.cell? ⟨ob, oo + j * 4 + 1 + 1 + 1, none⟩ = some (.int .i64 op.c) := by have := hR.cell ⟨ho1, ho2⟩ (oo + j * 4 + 3); rw [ho3 3 (by omega)] at this; exact this
    have HR2 := Lib.hid hR
    clear hR HR
    go_wp2
    refine hK _ _ (fun _ => rfl) ?_
    clear hK K o0 o1 o2 o3
    have hR1 := HR2.out.alloc (Obj.cells #[.int .i64 op.kind, .int .i64 op.a, .int .i64 op.b, .int .i64 op.c] 49)
    have hH1 := hH.trans (Held.alloc H' v (Obj.cells #[.int .i64 op.kind, .int .i64 op.a, .int .i64 op.b, .int .i64 op.c] 49))
    have hb7 := Blk.new v 49 #[.int .i64 op.kind, .int .i64 op.a, .int .i64 op.b, .int .i64 op.c]
    have hn7 : ¬ H' v.heap.size := fun z => by have := HR2.out.lt z; omega
    have hy7 : y.heap.size ≤ v.heap.size := hH.size
    clear HR2 hH
    generalize v.alloc (Obj.cells #[.int .i64 op.kind, .int .i64 op.a, .int .i64 op.b, .int .i64 op.c] 49) = z at hR1 hH1 hb7 ⊢
    generalize v.heap.size = b7 at hb7 hn7 hy7 ⊢
    refine Lg.move _ (fun _ _ => step_seq) (fun h => h) ?_
    refine Lg.code fun K hK v τ2 n2 hv => ?_
    subst hv
    have hR1 := hR1.re
    have hH1 : Held H0 y H' v := held_re.1 hH1
    have hb7 : Blk v b7 _ _ := hb7
    have HR1 := Lib.hid hR1
    have HB7 := Lib.hid hb7
    clear hR1 hb7
    go_wp2
    refine hK _ _ (fun _ => rfl) ?_
    clear hK K
    have hR2 := HR1.out.alloc (Obj.cells #[.bool false, .int .i64 0, .slice none 0 0] 46)
    have hH2 := hH1.trans (Held.alloc H' v (Obj.cells #[.bool false, .int .i64 0, .slice none 0 0] 46))
    have hb8 := Blk.new v 46 #[.bool false, .int .i64 0, .slice none 0 0]
    have hn8 : ¬ H' v.heap.size := fun z => by have := HR1.out.lt z; omega
    have hy8 : y.heap.size ≤ v.heap.size := hH1.size
    have hb7 := HB7.out.alloc (Obj.cells #[.bool false, .int .i64 0, .slice none 0 0] 46)
    clear HR1 hH1 HB7
    generalize v.alloc (Obj.cells #[.bool false, .int .i64 0, .slice none 0 0] 46) = z at hR2 hH2 hb7 hb8 ⊢
    generalize v.heap.size = b8 at hb8 hn8 hy8 ⊢
    refine Lg.move _ (fun _ _ => step_seq) (fun h => h) ?_
    refine Lg.move _ (fun _ _ => step_seq) (fun h => h) ?_
    refine Lg.code fun K hK v τ2 n2 hv => ?_
    subst hv
    have hR2 := hR2.re
    have hH2 : Held H0 y H' v := held_re.1 hH2
    have hb7 : Blk v b7 _ _ := hb7
    have hb8 : Blk v b8 _ _ := hb8
    have c1 : v.cell? ⟨D.dob, 0, none⟩ = some (.func (.func fd) bound caps) := by have := hR2.cell T.do_ 0; rw [hfv] at this; exact this
    have hq := neq_do fd bound caps
    have HR2 := Lib.hid hR2
    have HB7 := Lib.hid hb7
    have HB8 := Lib.hid hb8
    clear hR2 hb7 hb8
    go_wp2
    refine hK _ _ (fun _ => rfl) ?_
    clear hK K c1 hq
    refine Lg.move _ (fun _ _ => step_cond rfl) (fun h => h) ?_
    refine Lg.move _ (fun _ _ => step_region) (fun h => h) ?_
    refine Lg.pre 0 4 2 (by simp) fun K hK z τ3 n3 hz => ?_
    subst hz
    have hR3 := HR2.out.re
    have hH3 : Held H0 y H' z := held_re.1 hH2
    have hb7 : Blk z b7 _ _ := HB7.out
    have hb8 : Blk z b8 _ _ := HB8.out
    have c1 : z.cell? ⟨D.dob, 0, none⟩ = some (.func (.func fd) bound caps) := by have := hR3.cell T.do_ 0; rw [hfv] at this; exact this
    have c2 : z.cell? ⟨D.ib i, 0, none⟩ = some (.int .i64 i) := hR3.cell T.ib 0
    have o0 : z.cell? ⟨b7, 0, none⟩ = some (.int .i64 op.kind) := hb7.cell 0
    have o1 : z.cell? ⟨b7, 1, none⟩ = some (.int .i64 op.a) := hb7.cell 1
    have o2 : z.cell? ⟨b7, 2, none⟩ = some (.int .i64 op.b) := hb7.cell 2
    have o3 : z.cell? ⟨b7, 3, none⟩ = some (.int .i64 op.c) := hb7.cell 3
    have HR3 := Lib.hid hR3
    have HB8 := Lib.hid hb8
    clear hR3 hb7 hb8 HR2 HB7 hH2
    simp only [List.drop_zero, List.take_succ_cons, List.take_zero]
    go_wp2
    refine hK _ _ (fun _ => rfl) ?_
    clear hK K c1 c2 o0 o1 o2 o3
    have hdrop : thrT D doT i ((D.ops i).drop j) own st' = doT op st' fun a s => if s.2 i = own then thrT D doT i ((D.ops i).drop (j + 1)) (own ++ [a]) (D.push i a s) else .cut := by
      rw [List.drop_eq_getElem_cons hlt, hop]; rfl
    rw [hdrop]
    refine Lg.call (i := 4) (rest := [5]) (f := fd) (args := bound ++ #[.iface 116 (.pointer (some ⟨sb, 0, none⟩)), .int .i64 i, op.val] ++ caps) rfl rfl (fun y => ?_) (hD sb L Cap hre hcap hstand' op st' H' _ z (T.gd op (hop ▸ List.getElem_mem hlt)) HR3.out (hcap _ _ _ _ hcapy hH3)) ?_
    · go_simp
      simp [OpI.val]
    rintro vv t' w' ⟨a, st2, H2, lv, rfl, rfl, hR4, hH4, hlv, hlvn⟩
    by_cases hst2 : st2.2 i = own
    rotate_left
    · rw [if_neg hst2]
      exact hcut _ _ _
    rw [if_pos hst2]
    rw [Frame.finish_at]
    walk_nrm
    have HST := Lib.hid hst2
    clear hst2
    obtain ⟨hb8', hn8'⟩ := hH4.block b8 _ _ (0, 0) HB8.out hn8 (.inl (by decide))
    have hH5 : Held H0 y H2 w' := hH3.trans hH4
    have hy8' : b8 < z.heap.size := HB8.out.lt
    obtain ⟨lA, lc, rfl⟩ : ∃ A c, lv = .slice A a.ls.length c := own_slice hlv
    have hlw : ∀ b, (Value.slice lA a.ls.length lc).ownBlock = some b → z.heap.size ≤ b := fun b hb => by
      rcases hlv.2 with ⟨e, _⟩ | ⟨g, cap, cur, e, k, _⟩
      · rw [e] at hb; simp [Value.ownBlock] at hb
      · rw [e] at hb; simp only [Value.ownBlock, Option.some.injEq] at hb; omega
    clear hH3 hH4 HR3 HB8 hn8 hn7 hdrop
    refine (show L.T _ (Frame.at _ ⟨_, []⟩ (.inRegion _ (List.range' 5 (1 + 0)) :: _)) mid w' from ?_)
    refine Lg.pre 5 1 0 (by simp) fun K hK v τ2 n2 hv => ?_
    subst hv
    have hR5 := hR4.re
    have hH5 : Held H0 y H2 v := held_re.1 hH5
    have hlv : v.ownsRow z.heap.size 2 1 (.slice lA a.ls.length lc) a.ls.length (a.ls.map (Value.int .i64)) := hlv
    have hb8 : Blk v b8 46 #[.bool false, .int .i64 0, .slice none 0 0] := hb8'
    have o0 : v.cell? ⟨b8, 0, none⟩ = some (.bool false) := hb8.cell 0
    have o1 : v.cell? ⟨b8, 1, none⟩ = some (.int .i64 0) := hb8.cell 1
    have o2 : v.cell? ⟨b8, 2, none⟩ = some (.slice none 0 0) := hb8.cell 2
    have z0 : v.frozen? ⟨b8, 0, none⟩ = false := hb8.frozen 0
    have z1 : v.frozen? ⟨b8, 1, none⟩ = false := hb8.frozen 1
    have z2 : v.frozen? ⟨b8, 2, none⟩ = false := hb8.frozen 2
    have HR5 := Lib.hid hR5
    have HB8 := Lib.hid hb8
    have HLV := Lib.hid hlv
    have HLW := Lib.hid hlw
    have HLN := Lib.hid hlvn
    clear hR4 hR5 hb8 hb8' hlv hlw hlvn
    simp only [List.drop_succ_cons, List.drop_zero, List.take_succ_cons, List.take_zero]
    go_wp2
    refine hK _ _ (fun _ => rfl) ?_
    clear hK K o0 o1 o2 z0 z1 z2
    have hnr8 : ¬ D.RB b8 := fun z => by have := hrlt _ z; omega
    have hR6 := ((HR5.out.set_ (p := ⟨b8, 0, none⟩) hn8' hnr8 (.bool a.ok)).set_ (p := ⟨b8, 1, none⟩) hn8' hnr8 (.int .i64 a.n)).set_ (p := ⟨b8, 2, none⟩) hn8' hnr8 (.slice lA a.ls.length lc)
    have hH6 := held_set (held_set (held_set hH5 (p := ⟨b8, 0, none⟩) hy8 (.bool a.ok)) (p := ⟨b8, 1, none⟩) hy8 (.int .i64 a.n)) (p := ⟨b8, 2, none⟩) hy8 (.slice lA a.ls.length lc)
    have hb86 := ((HB8.out.set_ 0 (.bool a.ok)).set_ 1 (.int .i64 a.n)).set_ 2 (.slice lA a.ls.length lc)
    have hlvne : ∀ b, (Value.slice lA a.ls.length lc).ownBlock = some b → b ≠ b8 := fun b hb => by
      rcases HLV.out.2 with ⟨e, _⟩ | ⟨g, cp, cur, e, _, k, _⟩
      · rw [e] at hb; simp [Value.ownBlock] at hb
      · rw [e] at hb; simp only [Value.ownBlock, Option.some.injEq] at hb; subst hb
        exact blk_ne (show Blk v _ _ _ from k) HB8.out (by decide)
    have hlv6 := own_same (w' := ((v.setCell ⟨b8, 0, none⟩ (.bool a.ok)).setCell ⟨b8, 1, none⟩ (.int .i64 a.n)).setCell ⟨b8, 2, none⟩ (.slice lA a.ls.length lc)) HLV.out fun b hb => by
      have := hlvne b hb
      rw [Below.heap_setCell _ _ _ _ this, Below.heap_setCell _ _ _ _ this, Below.heap_setCell _ _ _ _ this]
    clear HR5 hH5 HB8 HLV hlvne
    generalize ((v.setCell ⟨b8, 0, none⟩ (.bool a.ok)).setCell ⟨b8, 1, none⟩ (.int .i64 a.n)).setCell ⟨b8, 2, none⟩ (.slice lA a.ls.length lc) = w6 at hR6 hH6 hb86 hlv6 ⊢
    refine Lg.move _ (fun _ _ => step_region_end) (fun h => h) ?_
    refine Lg.code fun K hK v τ2 n2 hv => ?_
    subst hv
    have hR6 := hR6.re
    have hH6 : Held H0 y H2 v := held_re.1 hH6
    have hb86 : Blk v b8 46 #[.bool a.ok, .int .i64 a.n, .slice lA a.ls.length lc] := hb86
    have hlv6 : v.ownsRow z.heap.size 2 1 (.slice lA a.ls.length lc) a.ls.length (a.ls.map (Value.int .i64)) := hlv6
    obtain ⟨rw_, ca, r1, r2, r3, r4, r5⟩ := hR6.rows
    obtain ⟨xs, q1, q2, q3⟩ := r4 i T.lt
    have ti := T.lt
    have tn := T.n64
    obtain ⟨rA, rc, hrw⟩ : ∃ A c, rw_ i = .slice A (st2.2 i).length c := own_slice q1
    have c1 : v.cell? ⟨D.anb, 0, none⟩ = some (.slice (some ⟨D.ab, 0, none⟩) D.n D.n) := hR6.cell T.an 0
    have c2 : v.cell? ⟨D.ib i, 0, none⟩ = some (.int .i64 i) := hR6.cell T.ib 0
    have c3 : v.cell? ⟨D.ab, i, none⟩ = some (rw_ i) := (cell_of_row v D.ab i ca _ _ r1).trans (r3 i ti)
    have o0 : v.cell? ⟨b8, 0, none⟩ = some (.bool a.ok) := hb86.cell 0
    have o1 : v.cell? ⟨b8, 1, none⟩ = some (.int .i64 a.n) := hb86.cell 1
    have o2 : v.cell? ⟨b8, 2, none⟩ = some (.slice lA a.ls.length lc) := hb86.cell 2
    have z3 : v.frozen? ⟨D.ab, i, none⟩ = false := (show Blk v D.ab _ _ from r1).frozen i
    have lln : (st2.2 i).length = j := by rw [HST.out]; exact HOL.out
    have hcap1 : (st2.2 i).length + 1 ≤ maxLen := by unfold maxLen; omega
    have hby : ((st2.2 i).length + 1) * 40 ≤ 140737488355328 := by omega
    have ownb : ∀ b cur t, v.heap[b]? = some (.cells cur t (0, 0)) → t ≠ 46 → (rw_ i).ownBlock ≠ some b := fun b cur t hb ht hz => by
      rcases q1.2 with ⟨e, _⟩ | ⟨g, cp, cur', e, _, k, _⟩
      · rw [e] at hz; simp [Value.ownBlock] at hz
      · rw [e] at hz; simp only [Value.ownBlock, Option.some.injEq] at hz; subst hz
        rw [hb] at k
        simp only [Option.some.injEq, Obj.cells.injEq] at k
        exact ht k.2.1
    have l8 : b8 < v.heap.size := hb86.lt
    have lab : D.ab < v.heap.size := lt_of_some r1
    have lan : D.anb < v.heap.size := lt_of_cell c1
    have lib : D.ib i < v.heap.size := lt_of_cell c2
    have nab : (rw_ i).ownBlock ≠ some D.ab := ownb _ _ _ r1 (by decide)
    have nan : (rw_ i).ownBlock ≠ some D.anb := fun hz => hR6.rbH _ T.an.1 (q3 _ hz).1
    have nib : (rw_ i).ownBlock ≠ some (D.ib i) := fun hz => hR6.rbH _ T.ib.1 (q3 _ hz).1
    have n8 : (rw_ i).ownBlock ≠ some b8 := fun hz => hn8' (q3 _ hz).1
    obtain ⟨i0, hi0, hz0, hz1, hz2⟩ := info_parts Try.infoAns
    rw [hrw] at c3 nab nan nib n8
    have hq1 := q1
    rw [hrw] at hq1
    have HR6 := Lib.hid hR6
    have HH6 := Lib.hid hH6
    have HB8 := Lib.hid hb86
    have HLV := Lib.hid hlv6
    have HQ1 := Lib.hid hq1
    have R1 := Lib.hid r1
    have R2 := Lib.hid r2
    have R3 := Lib.hid r3
    have R4 := Lib.hid r4
    have R5 := Lib.hid r5
    have Q1 := Lib.hid q1
    have Q2 := Lib.hid q2
    have Q3 := Lib.hid q3
    have HRW := Lib.hid hrw
    have LLN := Lib.hid lln
    have OWB := Lib.hid ownb
    clear hR6 hH6 hb86 hlv6 r1 r2 r3 r4 r5 q1 q2 q3 hrw lln ownb hq1
    refine wp_region_last (S := fun w' => w'.cell? ⟨D.anb, 0, none⟩ = some (.slice (some ⟨D.ab, 0, none⟩) D.n D.n) ∧ w'.cell? ⟨D.ib i, 0, none⟩ = some (.int .i64 i) ∧ w'.cell? ⟨D.ab, i, none⟩ = some (.slice rA (st2.2 i).length rc) ∧ w'.cell? ⟨b8, 0, none⟩ = some (.bool a.ok) ∧ w'.cell? ⟨b8, 1, none⟩ = some (.int .i64 a.n) ∧ w'.cell? ⟨b8, 2, none⟩ = some (.slice lA a.ls.length lc)) 10 (by kernel_rfl) (by kernel_rfl) (by kernel_rfl) ?_
    simp only [idle, List.modify_toArray, List.modify_succ_cons, List.modify_zero_cons, List.size_toArray, List.length_cons, List.length_nil, Nat.reduceAdd]
    have HS : v.drew.cell? ⟨D.anb, 0, none⟩ = some (.slice (some ⟨D.ab, 0, none⟩) D.n D.n) ∧ v.drew.cell? ⟨D.ib i, 0, none⟩ = some (.int .i64 i) ∧ v.drew.cell? ⟨D.ab, i, none⟩ = some (.slice rA (st2.2 i).length rc) ∧ v.drew.cell? ⟨b8, 0, none⟩ = some (.bool a.ok) ∧ v.drew.cell? ⟨b8, 1, none⟩ = some (.int .i64 a.n) ∧ v.drew.cell? ⟨b8, 2, none⟩ = some (.slice lA a.ls.length lc) := ⟨c1, c2, c3, o0, o1, o2⟩
    refine wpAnyH_read (i := 0) (some 22) rfl rfl (by kernel_rfl) (by kernel_rfl) (by kernel_rfl) (fun _ _ _ h => h) rfl HS ?_
    apply Exists.intro
    refine ⟨fun wq hw => ?_, ?_⟩
    · obtain ⟨hw1, hw2, hw3, hw4, hw5, hw6⟩ := hw
      go_simp
      rfl
    simp only [Act.put, List.setIfInBounds_toArray, List.set_cons_zero, List.set_cons_succ]
    refine wpAnyH_read (i := 1) (some 23) rfl rfl (by kernel_rfl) (by kernel_rfl) (by kernel_rfl) (fun _ _ _ h => h) rfl HS ?_
    apply Exists.intro
    refine ⟨fun wq hw => ?_, ?_⟩
    · obtain ⟨hw1, hw2, hw3, hw4, hw5, hw6⟩ := hw
      go_simp
      rfl
    simp only [Act.put, List.setIfInBounds_toArray, List.set_cons_zero, List.set_cons_succ]
    refine wpAnyH_read (i := 2) (some 24) rfl rfl (by kernel_rfl) (by kernel_rfl) (by kernel_rfl) (fun _ _ _ h => h) rfl HS ?_
    apply Exists.intro
    refine ⟨fun wq hw => ?_, ?_⟩
    · obtain ⟨hw1, hw2, hw3, hw4, hw5, hw6⟩ := hw
      go_simp
      rfl
    simp only [Act.put, List.setIfInBounds_toArray, List.set_cons_zero, List.set_cons_succ]
    refine wpAnyH_read (i := 3) (some 25) rfl rfl (by kernel_rfl) (by kernel_rfl) (by kernel_rfl) (fun _ _ _ h => h) rfl HS ?_
    apply Exists.intro
    refine ⟨fun wq hw => ?_, ?_⟩
    · obtain ⟨hw1, hw2, hw3, hw4, hw5, hw6⟩ := hw
      go_simp
      rfl
    simp only [Act.put, List.setIfInBounds_toArray, List.set_cons_zero, List.set_cons_succ]
    refine wpAnyH_read (i := 4) (some 26) rfl rfl (by kernel_rfl) (by kernel_rfl) (by kernel_rfl) (fun _ _ _ h => h) rfl HS ?_
    apply Exists.intro
    refine ⟨fun wq hw => ?_, ?_⟩
    · obtain ⟨hw1, hw2, hw3, hw4, hw5, hw6⟩ := hw
      go_simp
      rfl
    simp only [Act.put, List.setIfInBounds_toArray, List.set_cons_zero, List.set_cons_succ]
    refine wpAnyH_read (i := 5) (some 27) rfl rfl (by kernel_rfl) (by kernel_rfl) (by kernel_rfl) (fun _ _ _ h => h) rfl HS ?_
    apply Exists.intro
    refine ⟨fun wq hw => ?_, ?_⟩
    · obtain ⟨hw1, hw2, hw3, hw4, hw5, hw6⟩ := hw
      go_simp
      rfl
    simp only [Act.put, List.setIfInBounds_toArray, List.set_cons_zero, List.set_cons_succ]
    refine wpAnyH_read (i := 6) (some 28) rfl rfl (by kernel_rfl) (by kernel_rfl) (by kernel_rfl) (fun _ _ _ h => h) rfl HS ?_
    apply Exists.intro
    refine ⟨fun wq hw => ?_, ?_⟩
    · obtain ⟨hw1, hw2, hw3, hw4, hw5, hw6⟩ := hw
      go_simp
      rfl
    simp only [Act.put, List.setIfInBounds_toArray, List.set_cons_zero, List.set_cons_succ]
    clear HS
    refine wpAnyH_one (i := 7) (by kernel_rfl) rfl rfl fun K hK => ?_
    go_simp
    refine hK _ _ ⟨(one_cell' v _ _ 0 lan).trans c1, (one_cell' v _ _ 0 lib).trans c2, (one_cell' v _ _ i lab).trans c3, (one_cell' v _ _ 0 l8).trans o0, (one_cell' v _ _ 1 l8).trans o1, (one_cell' v _ _ 2 l8).trans o2⟩ ?_
    clear hK K
    refine wpAnyH_one (i := 8) (by kernel_rfl) rfl rfl fun K hK => ?_
    refine wp_append_lies _ _ _ _ rfl 0 46 i0 _ 3 40 Try.underlying44 hi0 hz0 hz1 hz2 rfl (by omega) (.slice rA (st2.2 i).length rc) (st2.2 i).length xs rfl (HQ1.out.alloc _).drew ⟨v.heap.size, 0, none⟩ 1 1 [.bool a.ok, .int .i64 a.n, .slice lA a.ls.length lc] rfl rfl (World.news_of_block (cs := #[.bool a.ok, .int .i64 a.n, .slice lA a.ls.length lc]) (t := 46) (fr := (0, 0)) (news_one v _ _)) (by simp [Value.oneCell']) (by omega) hcap1 hby (by omega) (v.heap.size + 1) (one_len _ _) fun gg cap' w1 hown1 hgrow hat hgl => ?_
    have ln1 := one_len v (Obj.cells #[.bool a.ok, .int .i64 a.n, .slice lA a.ls.length lc] 46)
    have key : ∀ b, b < v.heap.size → (Value.slice rA (st2.2 i).length rc).ownBlock ≠ some b → w1.heap[b]? = v.heap[b]? := fun b hb hne => (hgrow.block b (by rw [ln1]; omega) (fun z => hne z.symm)).trans (Below.heap_alloc _ _ _ hb)
    have kan := (World.cell?_of_block (w := v) (w' := w1) (a := ⟨D.anb, 0, none⟩) (key _ lan nan)).trans c1
    have kib := (World.cell?_of_block (w := v) (w' := w1) (a := ⟨D.ib i, 0, none⟩) (key _ lib nib)).trans c2
    have kab := (World.cell?_of_block (w := v) (w' := w1) (a := ⟨D.ab, i, none⟩) (key _ lab nab)).trans c3
    have k80 := (World.cell?_of_block (w := v) (w' := w1) (a := ⟨b8, 0, none⟩) (key _ l8 n8)).trans o0
    have k81 := (World.cell?_of_block (w := v) (w' := w1) (a := ⟨b8, 1, none⟩) (key _ l8 n8)).trans o1
    have k82 := (World.cell?_of_block (w := v) (w' := w1) (a := ⟨b8, 2, none⟩) (key _ l8 n8)).trans o2
    have kz := (World.frozen?_of_block (w := v) (w' := w1) (a := ⟨D.ab, i, none⟩) (key _ lab nab)).trans z3
    refine hK _ _ ⟨kan, kib, kab, k80, k81, k82⟩ ?_
    clear hK K
    have HS : w1.cell? ⟨D.anb, 0, none⟩ = some (.slice (some ⟨D.ab, 0, none⟩) D.n D.n) ∧ w1.cell? ⟨D.ib i, 0, none⟩ = some (.int .i64 i) ∧ w1.cell? ⟨D.ab, i, none⟩ = some (.slice rA (st2.2 i).length rc) ∧ w1.cell? ⟨b8, 0, none⟩ = some (.bool a.ok) ∧ w1.cell? ⟨b8, 1, none⟩ = some (.int .i64 a.n) ∧ w1.cell? ⟨b8, 2, none⟩ = some (.slice lA a.ls.length lc) := ⟨kan, kib, kab, k80, k81, k82⟩
    simp only [Act.put, List.setIfInBounds_toArray, List.set_cons_zero, List.set_cons_succ, List.getElem_toArray, List.getElem_cons_zero, List.getElem_cons_succ]
    refine wpAnyH_read (i := 9) (some 31) rfl rfl (by kernel_rfl) (by kernel_rfl) (by kernel_rfl) (fun _ _ _ h => h) rfl HS ?_
    apply Exists.intro
    refine ⟨fun wq hw => ?_, ?_⟩
    · obtain ⟨hw1, hw2, hw3, hw4, hw5, hw6⟩ := hw
      go_simp
      rfl
    simp only [Act.put, List.setIfInBounds_toArray, List.set_cons_zero, List.set_cons_succ]
    refine wpAnyH_read (i := 10) none rfl rfl (by kernel_rfl) (by kernel_rfl) (by kernel_rfl) (fun _ _ _ h => h) rfl HS ?_
    apply Exists.intro
    refine ⟨fun wq hw => ?_, ?_⟩
    · go_simp
      rfl
    simp only [Act.put]
    clear HS
    refine wpAnyH_done (by kernel_rfl) ?_ _
    simp only [Exit.then]
    refine wpOps_list (m := 10) rfl ?_
    have HG := Lib.hid hgrow
    have HO1 := Lib.hid hown1
    have HAT := Lib.hid hat
    have KEY := Lib.hid key
    clear hgrow hown1 hat key kan kib k80 k81 k82 c1 c2 c3 o0 o1 o2
    go_wp2
    refine hK _ _ (fun _ => rfl) ?_
    clear hK K
    -- the answer has been laid behind
    have hv' : ∀ b, (Value.slice (some ⟨gg, 0, none⟩) ((st2.2 i).length + 1) cap').ownBlock = some b → (rw_ i).ownBlock = some b ∨ v.heap.size ≤ b := fun b hb => by
      simp only [Value.ownBlock, Option.some.injEq] at hb
      subst hb
      rcases HAT.out with h | h
      · exact .inl (by rw [HRW.out]; exact h)
      · exact .inr (by omega)
    have ab1 : Blk w1 D.ab 44 ca := (KEY.out _ lab nab).trans R1.out
    have gne : gg ≠ D.ab := by
      rcases HO1.out.2 with ⟨e, _⟩ | ⟨g, cp, cur, e, _, k, _⟩
      · cases e
      · cases e
        exact blk_ne (show Blk w1 _ _ _ from k) ab1 (by decide)
    have hfin : ∀ b, b < v.heap.size → b ≠ D.ab → (rw_ i).ownBlock ≠ some b → (w1.setCell ⟨D.ab, i, none⟩ (.slice (some ⟨gg, 0, none⟩) ((st2.2 i).length + 1) cap')).heap[b]? = v.heap[b]? := fun b hb h1 h2 => (Below.heap_setCell _ _ _ _ h1).trans (KEY.out b hb (by rw [← HRW.out]; exact h2))
    have hRn := RepO.push HR6.out ti (a := a) (lv := .slice lA a.ls.length lc) (v' := .slice (some ⟨gg, 0, none⟩) ((st2.2 i).length + 1) cap') (w' := w1.setCell ⟨D.ab, i, none⟩ (.slice (some ⟨gg, 0, none⟩) ((st2.2 i).length + 1) cap')) R1.out R2.out R3.out R4.out R5.out Q1.out Q2.out (own_base HLV.out (Nat.zero_le _)) HLN.out (fun b hb hrbb => by have := HLW.out b hb; have := hrlt _ hrbb; omega)
      (own_same HO1.out fun b hb => by
        simp only [Value.ownBlock, Option.some.injEq] at hb
        subst hb
        exact Below.heap_setCell _ _ _ _ gne) hv' (ab1.set_ i _) hfin
    have hHn : Held H0 y (fun b => (H2 b ∧ (rw_ i).ownBlock ≠ some b) ∨ (Value.slice (some ⟨gg, 0, none⟩) ((st2.2 i).length + 1) cap').ownBlock = some b ∨ (Value.slice lA a.ls.length lc).ownBlock = some b) (w1.setCell ⟨D.ab, i, none⟩ (.slice (some ⟨gg, 0, none⟩) ((st2.2 i).length + 1) cap')) := by
      have hsz := HG.out.size
      rw [ln1] at hsz
      refine ⟨by have := HH6.out.size; simp [World.setCell]; omega, fun b c t r hb hn hr => ?_⟩
      obtain ⟨e1, e2⟩ := HH6.out.block b c t r hb hn hr
      have hby' := lt_of_some hb
      have hsv := HH6.out.size
      refine ⟨(hfin b (lt_of_some e1) (fun z => e2 (z ▸ HR6.out.abH.1)) (fun z => e2 (Q3.out b z).1)).trans e1, ?_⟩
      rintro (⟨z, _⟩ | z | z)
      · exact e2 z
      · rcases hv' b z with z | z
        · exact e2 (Q3.out b z).1
        · omega
      · have := HLW.out b z; omega
    have hrow : (D.push i a st2).2 i = own ++ [a] := by simp [OpsD.push, HST.out]
    clear HR6 HH6 HB8 HLV HQ1 R1 R2 R3 R4 R5 Q1 Q2 Q3 HRW LLN OWB hfin hv' ab1 KEY HAT HO1 HG HLW HLN
    generalize w1.setCell ⟨D.ab, i, none⟩ (.slice (some ⟨gg, 0, none⟩) ((st2.2 i).length + 1) cap') = w9 at hRn hHn ⊢
    refine Lg.move _ (fun _ _ => step_inBlock) (fun h => h) ?_
    refine Lg.code fun K hK v τ2 n2 hv => ?_
    subst hv
    have hRn := hRn.re
    have hHn := held_re.1 hHn
    have HRn := Lib.hid hRn
    clear hRn
    go_wp2
    refine hK _ _ (fun _ => rfl) ?_
    clear hK K
    refine Lg.family (frD (.iface 116 (.pointer (some ⟨sb, 0, none⟩))) (.pointer (some ⟨D.opb i, 0, none⟩)) (.pointer (some ⟨D.dob, 0, none⟩)) (.pointer (some ⟨D.ib i, 0, none⟩)) (.pointer (some ⟨D.anb, 0, none⟩))) (R := fun f => f 9 = .slice (some ⟨ob, oo, none⟩) (D.ops i).length cap ∧ f 10 = .int .i64 (D.ops i).length ∧ f 11 = .int .i64 ((j + 1 : Nat) : Int)) ?_ (by rfl) ⟨rfl, rfl, by go_num⟩
    rintro f' ⟨e9, e10, e11⟩
    exact hNext.out f' _ _ ⟨j + 1, by omega, _, _, own ++ [a], by simp [HOL.out], hrow, e9, e10, e11, rfl, HRn.out, hHn⟩ (by rw [e11, k11]; simp [intOf]; omega)
  · have hd : decide (j < (D.ops i).length) = false := by simpa using hlt
    simp only [hd]
    refine Lg.move _ (fun _ _ => step_cond rfl) (fun h => h) ?_
    refine Lg.move _ (fun _ _ => step_exit rfl) (fun h => h) ?_
    have hjn : j = (D.ops i).length := by omega
    have hdr : thrT D doT i ((D.ops i).drop j) own st' = .ret st' := by rw [hjn, List.drop_length]; rfl
    rw [hdr]
    refine HQ.out .normal (.ret st') _ _ ⟨rfl, .tuple #[], fun y τ n _ => ?_, st', H', rfl, HR.out, hcap _ _ _ _ hcapy hH⟩
    simp [results]
end Go.Proofs.Yteainbnoemkfcaa
/- DERIVED. Threads that do operations, as pure trees: each pushes onto its own row alone, and no walk ends in the unknown. -/
namespace Go.Proofs.Yteainbnoemkfcaa
open Go.RowKit Go.Turn Go.Tame Go.Conc
open Go.ConcN (upd upd_ne upd_same)
set_option linter.unusedVariables false
section
variable {D : OpsD}
/-- The other threads' rows stay. -/
def OKt (D : OpsD) (i : Nat) : Tree D.St D.St → D.St → Prop
  | .ret s, σ => ∀ l, l ≠ i → s.2 l = σ.2 l
  | .yield s k, σ => (∀ l, l ≠ i → s.2 l = σ.2 l) ∧ ∀ σ', σ'.2 i = s.2 i → OKt D i (k σ') σ'
  | .cut, _ => False
theorem OKt.congr {i : Nat} {t : Tree D.St D.St} {σ σ' : D.St} (h : OKt D i t σ) (e : ∀ l, l ≠ i → σ.2 l = σ'.2 l) : OKt D i t σ' := by
  cases t with
  | ret s => exact fun l hl => (h l hl).trans (e l hl)
  | yield s k => exact ⟨fun l hl => (h.1 l hl).trans (e l hl), h.2⟩
  | cut => exact h
theorem OKt.ne {i : Nat} {t : Tree D.St D.St} {σ : D.St} (h : OKt D i t σ) : t ≠ .cut := fun e => by rw [e] at h; exact h
/-- The machine's invariant. -/
def OpsMI (D : OpsD) (m : Mach D.St) : Prop := ∀ i, i < D.n → ∀ k, m.th i = .wait k → ∀ σ : D.St, σ.2 i = m.s.2 i → OKt D i (k σ) σ
theorem OpsMI.did {m : Mach D.St} (h : OpsMI D m) {i : Nat} {t : Tree D.St D.St} (ht : OKt D i t m.s) : OpsMI D (m.did i t) ∧ ∀ l, l ≠ i → (m.did i t).s.2 l = m.s.2 l := by
  cases t with
  | cut => exact ht.elim
  | ret s =>
    refine ⟨fun l hl k hk σ hσ => ?_, ht⟩
    by_cases e : l = i
    · subst e; simp [Mach.did, upd_same] at hk
    · simp only [Mach.did, upd_ne _ _ e] at hk
      exact h l hl k hk σ (hσ.trans (ht l e))
  | yield s k0 =>
    refine ⟨fun l hl k hk σ hσ => ?_, ht.1⟩
    by_cases e : l = i
    · subst e
      simp only [Mach.did, upd_same, Stg.wait.injEq] at hk
      subst hk
      exact ht.2 σ hσ
    · simp only [Mach.did, upd_ne _ _ e] at hk
      exact h l hl k hk σ (hσ.trans (ht.1 l e))
theorem ops_minv (D : OpsD) (n : Nat) (hn : n = D.n) : MInv (OpsMI D) n := by
  subst hn
  exact ⟨fun m i k hm hi hk => by
    have ht := hm i hi k hk m.s rfl
    exact ⟨ht.ne, (hm.did ht).1⟩⟩
/-- An operation minds its own row. -/
def DoOk (D : OpsD) (i : Nat) (doT : D.DoT) : Prop := ∀ o, D.good o → ∀ σ k, (∀ a σ', σ'.2 i = σ.2 i → OKt D i (k a σ') σ') → OKt D i (doT o σ k) σ
theorem thr_ok {i : Nat} {doT : D.DoT} (hD : DoOk D i doT) : ∀ (l : List OpI) (own : List Ans) (σ : D.St), (∀ o ∈ l, D.good o) → σ.2 i = own → OKt D i (thrT D doT i l own σ) σ
  | [], own, σ, _, _ => fun _ _ => rfl
  | o :: l, own, σ, hg, h => by
    refine hD o (hg o (by simp)) σ _ fun a σ' hσ => ?_
    have e : σ'.2 i = own := hσ.trans h
    rw [if_pos e]
    exact (thr_ok hD l (own ++ [a]) (D.push i a σ') (fun o ho => hg o (by simp [ho])) (by simp [OpsD.push, e])).congr fun l hl => by simp [OpsD.push, hl]
theorem br_ok {doT : Nat → D.DoT} {i : Nat} (hD : DoOk D i (doT i)) (hg : ∀ o ∈ D.ops i, D.good o) {σ : D.St} (h : σ.2 i = []) : OKt D i (brT D doT i σ) σ := by
  unfold brT
  rw [if_pos h]
  exact thr_ok hD _ _ _ hg h
/-- The births. -/
theorem ops_born {doT : Nat → D.DoT} (hD : ∀ i, i < D.n → DoOk D i (doT i)) (hg : ∀ i, i < D.n → ∀ o ∈ D.ops i, D.good o) (s0 : D.St) (h0 : ∀ i, i < D.n → s0.2 i = []) :
    ∀ j, j ≤ D.n → OpsMI D (Mach.born (brT D doT) ⟨s0, fun _ => .unborn⟩ j) ∧ ∀ l, l < D.n → j ≤ l → (Mach.born (brT D doT) ⟨s0, fun _ => .unborn⟩ j).s.2 l = []
  | 0, _ => ⟨fun i hi k hk => by simp [Mach.born] at hk, fun l hl _ => h0 l hl⟩
  | j + 1, hj => by
    obtain ⟨h1, h2⟩ := ops_born hD hg s0 h0 j (by omega)
    obtain ⟨h3, h4⟩ := h1.did (br_ok (hD j (by omega)) (hg j (by omega)) (h2 j (by omega) (Nat.le_refl _)))
    exact ⟨h3, fun l hl hjl => (h4 l (by omega)).trans (h2 l hl (by omega))⟩
theorem ops_born_ne {doT : Nat → D.DoT} (hD : ∀ i, i < D.n → DoOk D i (doT i)) (hg : ∀ i, i < D.n → ∀ o ∈ D.ops i, D.good o) (s0 : D.St) (h0 : ∀ i, i < D.n → s0.2 i = []) (j : Nat) (hj : j < D.n) :
    brT D doT j (Mach.born (brT D doT) ⟨s0, fun _ => .unborn⟩ j).s ≠ .cut :=
  (br_ok (hD j hj) (hg j hj) ((ops_born hD hg s0 h0 j (by omega)).2 j hj (Nat.le_refl _))).ne
end
/-- The state that operations are done on. -/
structure Inner where
  A : Type
  At : A → World → Prop
  BI : Nat → Prop
  at_ : ∀ a w w', At a w → (∀ b, BI b → w'.heap[b]? = w.heap[b]?) → At a w'
/-- What is fixed but for the inner state. -/
structure OpsB where
  n : Nat
  ab : Nat
  dob : Nat
  anb : Nat
  opb : Nat → Nat
  ib : Nat → Nat
  fv : Value
  ops : Nat → List OpI
  opv : Nat → Value
  RB : Nat → Prop
  rv : Nat → Obj
  rbc : ∀ b, RB b → ∃ c t r, rv b = .cells c t r
def OpsB.on (B : OpsB) (I : Inner) (good : OpI → Prop) : OpsD where
  n := B.n
  ab := B.ab
  dob := B.dob
  anb := B.anb
  opb := B.opb
  ib := B.ib
  fv := B.fv
  ops := B.ops
  opv := B.opv
  good := good
  RB := B.RB
  rv := B.rv
  rbc := B.rbc
  A := I.A
  At := I.At
  BI := I.BI
  at_ := I.at_
end Go.Proofs.Yteainbnoemkfcaa
namespace Go.Proofs.Yteainbnoemkfcaa
open Go.RowKit

theorem size_nil (w : World) : Calls Try.prog 14 #[.pointer none] w fun e w' => e = .returned (.int .i64 0) ∧ w = w' := by
  go_enter Try.func14, Try.ntmps14
  go_wp2
  go_ret
  exact ⟨rfl, rfl⟩
theorem size_ring (a : Addr) (sa : Option Addr) (n c : Nat) (w : World) (h : w.cell? a = some (.slice sa n c)) : Calls Try.prog 14 #[.pointer (some a)] w fun e w' => e = .returned (.int .i64 n) ∧ w = w' := by
  go_enter Try.func14, Try.ntmps14
  go_wp2
  go_ret
  exact ⟨rfl, rfl⟩
theorem good_yes (a : Addr) (sa : Option Addr) (n c : Nat) (q : Int) (w : World) (h : w.cell? a = some (.slice sa n c)) (hn : 0 < n) (h0 : 0 ≤ q) (h1 : q < 4611686018427387904) :
    Calls Try.prog 38 #[.pointer (some a), .int .i64 q] w fun e w' => e = .returned (.bool true) ∧ w = w' := by
  go_enter Try.func38, Try.ntmps38
  go_wp2
  go_ret
  exact ⟨by simp, rfl⟩
theorem slot_yes (a : Addr) (sa : Option Addr) (n c : Nat) (q : Int) (w : World) (h : w.cell? a = some (.slice sa n c)) (hn : 0 < n) (h2 : n ≤ 65536) (h0 : 0 ≤ q) (h1 : q < 4611686018427387904) :
    Calls Try.prog 18 #[.pointer (some a), .int .i64 q] w fun e w' => e = .returned (.int .i64 (q % n)) ∧ w = w' := by
  go_enter Try.func18, Try.ntmps18
  go_wp2_with (go_at_call 38; refine (good_yes a sa n c q _ h hn h0 h1).mono ?_; rintro e w' ⟨rfl, rfl⟩)
  go_ret
  exact ⟨rfl, rfl⟩
theorem lap_yes (a : Addr) (sa : Option Addr) (n c : Nat) (q : Int) (w : World) (h : w.cell? a = some (.slice sa n c)) (hn : 0 < n) (h2 : n ≤ 65536) (h0 : 0 ≤ q) (h1 : q < 4611686018427387904) :
    Calls Try.prog 19 #[.pointer (some a), .int .i64 q] w fun e w' => e = .returned (.int .i64 (q / n)) ∧ w = w' := by
  go_enter Try.func19, Try.ntmps19
  go_wp2_with (go_at_call 38; refine (good_yes a sa n c q _ h hn h0 h1).mono ?_; rintro e w' ⟨rfl, rfl⟩)
  go_ret
  exact ⟨rfl, rfl⟩
theorem step_nil (w : World) : Calls Try.prog 40 #[.nilIface] w fun e w' => e = .returned (.tuple #[]) ∧ w = w' := by
  go_enter Try.func40, Try.ntmps40
  go_wp2
  go_end0
  exact ⟨rfl, rfl⟩
theorem atomic_store (a : Addr) (v : Int) (u : Int) (w : World) (h : w.cell? a = some (.int .i64 u)) (hf : w.frozen? a = false) : Calls Try.prog 36 #[.pointer (some a), .int .i64 v] w fun e w' => e = .returned (.tuple #[]) ∧ w.setCell a (.int .i64 v) = w' := by
  have hst := run_call_store (P := Try.prog) Try.func50 (by kernel_rfl) (by kernel_rfl) (by kernel_rfl) (by kernel_rfl) (k := .i64) (y := v) h hf
  go_enter Try.func36, Try.ntmps36
  go_wp2
  go_end0
  exact ⟨rfl, rfl⟩
theorem atomic_load (a : Addr) (v : Int) (w : World) (h : w.cell? a = some (.int .i64 v)) : Calls Try.prog 39 #[.pointer (some a)] w fun e w' => e = .returned (.int .i64 v) ∧ w = w' := by
  have hld := run_call_load (P := Try.prog) Try.func51 (by kernel_rfl) (by kernel_rfl) (by kernel_rfl) .i64 (by kernel_rfl) h
  go_enter Try.func39, Try.ntmps39
  go_wp2
  go_ret
  exact ⟨rfl, rfl⟩

def upd (f : Nat → Int) (i : Nat) (x : Int) : Nat → Int := fun j => if j = i then x else f j

/-- The ring behind pointer r: n slots of which the cells are the stamps and the values. -/
structure RingAt (w : World) (rb sb n : Nat) (st va : Nat → Int) : Prop where
  ring : w.cell? ⟨rb, 0, none⟩ = some (.slice (some ⟨sb, 0, none⟩) n n)
  stamp : ∀ i, i < n → w.cell? ⟨sb, i * 2, none⟩ = some (.int .i64 (st i))
  value : ∀ i, i < n → w.cell? ⟨sb, i * 2 + 1, none⟩ = some (.int .i64 (va i))
  free : ∀ i, w.frozen? ⟨sb, i, none⟩ = false
  pos : 0 < n
  most : n ≤ 65536
  ne : rb ≠ sb
  rlt : rb < w.heap.size
  glt : sb < w.heap.size
theorem upd_upd (f : Nat → Int) (i : Nat) (x y : Int) : upd (upd f i x) i y = upd f i y := by
  funext j
  unfold upd
  split <;> rfl
theorem upd_same (f : Nat → Int) (i : Nat) (x : Int) : upd f i x i = x := if_pos rfl
theorem upd_ne (f : Nat → Int) {i j : Nat} (x : Int) (h : j ≠ i) : upd f i x j = f j := if_neg h
section
variable {w w' : World} {rb sb n : Nat} {st va : Nat → Int}
theorem RingAt.setStamp (H : RingAt w rb sb n st va) {i : Nat} (hi : i < n) (x : Int) : RingAt (w.setCell ⟨sb, i * 2, none⟩ (.int .i64 x)) rb sb n (upd st i x) va where
  ring := (World.cell?_setCell_other _ _ _ _ (by intro e; injection e with e; exact H.ne e.symm)).trans H.ring
  stamp := fun j hj => by
    unfold upd
    by_cases e : j = i
    · subst e; rw [if_pos rfl]; exact World.cell?_setCell_same _ _ _ (H.stamp j hj)
    · rw [if_neg e]; exact (World.cell?_setCell_other _ _ _ _ (by simp <;> omega)).trans (H.stamp j hj)
  value := fun j hj => (World.cell?_setCell_other _ _ _ _ (by simp <;> omega)).trans (H.value j hj)
  free := fun j => by rw [World.frozen?_setCell]; exact H.free j
  pos := H.pos
  most := H.most
  ne := H.ne
  rlt := by simpa using H.rlt
  glt := by simpa using H.glt
theorem RingAt.setValue (H : RingAt w rb sb n st va) {i : Nat} (hi : i < n) (x : Int) : RingAt (w.setCell ⟨sb, i * 2 + 1, none⟩ (.int .i64 x)) rb sb n st (upd va i x) where
  ring := (World.cell?_setCell_other _ _ _ _ (by intro e; injection e with e; exact H.ne e.symm)).trans H.ring
  stamp := fun j hj => (World.cell?_setCell_other _ _ _ _ (by simp <;> omega)).trans (H.stamp j hj)
  value := fun j hj => by
    unfold upd
    by_cases e : j = i
    · subst e; rw [if_pos rfl]; exact World.cell?_setCell_same _ _ _ (H.value j hj)
    · rw [if_neg e]; exact (World.cell?_setCell_other _ _ _ _ (by simp <;> omega)).trans (H.value j hj)
  free := fun j => by rw [World.frozen?_setCell]; exact H.free j
  pos := H.pos
  most := H.most
  ne := H.ne
  rlt := by simpa using H.rlt
  glt := by simpa using H.glt
theorem RingAt.drewN (H : RingAt w rb sb n st va) (k : Nat) : RingAt (w.drewN k) rb sb n st va := ⟨H.ring, H.stamp, H.value, H.free, H.pos, H.most, H.ne, H.rlt, H.glt⟩
theorem RingAt.kept {S : Nat → Prop} (H : RingAt w rb sb n st va) (hk : Kept S w w') (h1 : ¬ S rb) (h2 : ¬ S sb) : RingAt w' rb sb n st va where
  ring := (World.cell?_of_block (w := w) (hk.block rb H.rlt h1)).trans H.ring
  stamp := fun i hi => (World.cell?_of_block (w := w) (a := ⟨sb, i * 2, none⟩) (hk.block sb H.glt h2)).trans (H.stamp i hi)
  value := fun i hi => (World.cell?_of_block (w := w) (a := ⟨sb, i * 2 + 1, none⟩) (hk.block sb H.glt h2)).trans (H.value i hi)
  free := fun i => (World.frozen?_of_block (w := w) (a := ⟨sb, i, none⟩) (hk.block sb H.glt h2)).trans (H.free i)
  pos := H.pos
  most := H.most
  ne := H.ne
  rlt := Nat.lt_of_lt_of_le H.rlt hk.size
  glt := Nat.lt_of_lt_of_le H.glt hk.size
end

theorem slots_step_none : Stepper.none.Steps Try.prog 40 := fun k w _ => (step_nil w).mono fun _ _ ⟨h, hw⟩ => ⟨h, trivial, hw ▸ Kept.refl _ _, by rw [hw]⟩

theorem put_x (X : Stepper) (hs : X.Steps Try.prog 40) (t rb sb n : Nat) (st va : Nat → Int) (q v : Int) (w : World) (H : RingAt w rb sb n st va) (h0 : 0 ≤ q) (h1 : q < 4611686018427387904) (A : X.at_ t w) (n1 : ¬ X.own rb) (n2 : ¬ X.own sb) :
    Calls Try.prog 23 #[.pointer (some ⟨rb, 0, none⟩), X.v, .int .i64 q, .int .i64 v] w fun e w' => e = .returned (.int .i64 0) ∧
      RingAt w' rb sb n (upd st (q % n).toNat (2 * (q / n))) (upd va (q % n).toNat v) ∧ Kept (fun b => b = sb ∨ X.own b) w w' ∧ w'.heap.size = w.heap.size ∧ X.at_ (t + 3) w' := by
  have hn := H.pos
  have h2 := H.most
  have hr := H.ring
  have hb0 : 0 ≤ q % (n : Int) := Int.emod_nonneg _ (by omega)
  have hb1 : q % (n : Int) < n := Int.emod_lt_of_pos _ (by omega)
  have hd0 : 0 ≤ q / (n : Int) := Int.ediv_nonneg h0 (by omega)
  have hd1 : q / (n : Int) ≤ q := Int.ediv_le_self _ h0
  have HH := Lib.hid H
  have HA := Lib.hid A
  have HN1 := Lib.hid n1
  have HN2 := Lib.hid n2
  have n3 : ∀ b, X.own b → ¬ b = sb := fun b h e => HN2.out (e ▸ h)
  have HN3 := Lib.hid n3
  clear H A n1 n2 n3
  go_enter Try.func23, Try.ntmps23
  go_wp2_with (go_at_call 38; refine (good_yes _ _ n _ q _ hr hn h0 h1).mono ?_; rintro e w' ⟨rfl, rfl⟩)
  go_quiet (first | (go_at_call 18; exact quietS (slot_yes _ _ n _ q _ hr hn h2 h0 h1)) | (go_at_call 19; exact quietS (lap_yes _ _ n _ q _ hr hn h2 h0 h1)))
  generalize hi : (q % (n : Int)).toNat = i at *
  have hi' : i < n := by omega
  have HI := Lib.hid hi
  clear hi
  have H1 := HH.out.drewN nq
  have A1 := X.keep HA.out (Kept.drewN (fun _ => False) w nq) (fun _ _ h => h)
  go_wp2_with fail
  refine (hs t _ A1).mono ?_
  rintro e w1 ⟨rfl, A1, K1, Z1⟩
  have H1 := H1.kept K1 HN1.out HN2.out
  go_wp2_with fail
  refine (atomic_store _ _ _ _ (H1.stamp i hi') (H1.free _)).mono ?_
  rintro e w' ⟨rfl, rfl⟩
  have H2 := H1.setStamp hi' (2 * (q / n) - 1)
  have A2 := X.keep A1 (Kept.setCell (S := (· = sb)) w1 (p := ⟨sb, i * 2, none⟩) rfl (.int .i64 (2 * (q / n) - 1))) HN3.out
  have K2 := K1
  go_wp2_with fail
  refine (hs _ _ A2).mono ?_
  rintro e w2 ⟨rfl, A2, K2, Z2⟩
  have H2 := H2.kept K2 HN1.out HN2.out
  go_wp2_with fail
  refine (atomic_store _ _ _ _ (H2.value i hi') (H2.free _)).mono ?_
  rintro e w' ⟨rfl, rfl⟩
  have H3 := H2.setValue hi' v
  have A3 := X.keep A2 (Kept.setCell (S := (· = sb)) w2 (p := ⟨sb, i * 2 + 1, none⟩) rfl (.int .i64 v)) HN3.out
  go_wp2_with fail
  refine (hs _ _ A3).mono ?_
  rintro e w3 ⟨rfl, A3, K3, Z3⟩
  have H3 := H3.kept K3 HN1.out HN2.out
  go_wp2_with fail
  refine (atomic_store _ _ _ _ (H3.stamp i hi') (H3.free _)).mono ?_
  rintro e w' ⟨rfl, rfl⟩
  have H4 := H3.setStamp hi' (2 * (q / n))
  have A4 := X.keep A3 (Kept.setCell (S := (· = sb)) w3 (p := ⟨sb, i * 2, none⟩) rfl (.int .i64 (2 * (q / n)))) HN3.out
  have HZ := Lib.hid (And.intro Z1 (And.intro Z2 Z3))
  have HK := Lib.hid (And.intro K1 (And.intro K2 K3))
  have HX := Lib.hid (And.intro H4 A4)
  clear Z1 Z2 Z3 K1 K2 K3 H1 H2 H3 H4 A1 A2 A3 A4 hr
  go_wp2
  go_ret
  rw [HI.out]
  have z := HZ.out
  have k := HK.out
  simp at z
  refine ⟨rfl, by rw [← upd_upd st i (2 * (q / n) - 1)]; exact HX.out.1, ?_, by simp; omega, HX.out.2⟩
  have L : ∀ {a b : World}, Kept X.own a b → Kept (fun b => b = sb ∨ X.own b) a b := fun h => h.mono (fun _ _ e => .inr e)
  exact (((((Kept.drewN _ _ nq).trans (L k.1)).trans (Kept.setCell _ (.inl rfl) _)).trans (L k.2.1)).trans (Kept.setCell _ (.inl rfl) _)).trans ((L k.2.2).trans (Kept.setCell _ (.inl rfl) _))

theorem get_ok (X : Stepper) (hs : X.Steps Try.prog 40) (t rb sb n : Nat) (st va : Nat → Int) (q : Int) (w : World) (H : RingAt w rb sb n st va) (h0 : 0 ≤ q) (h1 : q < 4611686018427387904) (he : st (q % n).toNat = 2 * (q / n)) (A : X.at_ t w) (n1 : ¬ X.own rb) (n2 : ¬ X.own sb) :
    Calls Try.prog 25 #[.pointer (some ⟨rb, 0, none⟩), X.v, .int .i64 q] w fun e w' => e = .returned (.tuple #[.int .i64 (va (q % n).toNat), .int .i64 0]) ∧ Kept X.own w w' ∧ w'.heap.size = w.heap.size ∧ X.at_ (t + 3) w' := by
  have HE := Lib.hid he
  clear he
  have hn := H.pos
  have h2 := H.most
  have hr := H.ring
  have hb0 : 0 ≤ q % (n : Int) := Int.emod_nonneg _ (by omega)
  have hb1 : q % (n : Int) < n := Int.emod_lt_of_pos _ (by omega)
  have hd0 : 0 ≤ q / (n : Int) := Int.ediv_nonneg h0 (by omega)
  have hd1 : q / (n : Int) ≤ q := Int.ediv_le_self _ h0
  have HH := Lib.hid H
  have HA := Lib.hid A
  have HN1 := Lib.hid n1
  have HN2 := Lib.hid n2
  clear H A n1 n2
  go_enter Try.func25, Try.ntmps25
  go_wp2_with (go_at_call 38; refine (good_yes _ _ n _ q _ hr hn h0 h1).mono ?_; rintro e w' ⟨rfl, rfl⟩)
  go_quiet (first | (go_at_call 18; exact quietS (slot_yes _ _ n _ q _ hr hn h2 h0 h1)) | (go_at_call 19; exact quietS (lap_yes _ _ n _ q _ hr hn h2 h0 h1)))
  generalize hi : (q % (n : Int)).toNat = i at *
  have hi' : i < n := by omega
  have HI := Lib.hid hi
  clear hi
  have H1 := HH.out.drewN nq
  have A1 := X.keep HA.out (Kept.drewN (fun _ => False) w nq) (fun _ _ h => h)
  go_wp2_with fail
  refine (hs t _ A1).mono ?_
  rintro e w1 ⟨rfl, A1, K1, Z1⟩
  have H1 := H1.kept K1 HN1.out HN2.out
  have S1 := H1.stamp i hi'
  rw [HE.out] at S1
  have hS := Lib.hid S1
  clear S1
  go_wp2_with fail
  refine (atomic_load _ _ _ hS.out).mono ?_
  rintro e w' ⟨rfl, rfl⟩
  go_wp2_with fail
  refine (hs _ _ A1).mono ?_
  rintro e w2 ⟨rfl, A2, K2, Z2⟩
  have H2 := H1.kept K2 HN1.out HN2.out
  go_wp2_with fail
  refine (atomic_load _ _ _ (H2.value i hi')).mono ?_
  rintro e w' ⟨rfl, rfl⟩
  go_wp2_with fail
  refine (hs _ _ A2).mono ?_
  rintro e w3 ⟨rfl, A3, K3, Z3⟩
  have H3 := H2.kept K3 HN1.out HN2.out
  have S3 := H3.stamp i hi'
  rw [HE.out] at S3
  have hS3 := Lib.hid S3
  clear S3
  go_wp2_with fail
  refine (atomic_load _ _ _ hS3.out).mono ?_
  rintro e w' ⟨rfl, rfl⟩
  have HZ := Lib.hid (And.intro Z1 (And.intro Z2 Z3))
  have HK := Lib.hid (And.intro K1 (And.intro K2 K3))
  have HX := Lib.hid A3
  clear Z1 Z2 Z3 K1 K2 K3 H1 H2 H3 A1 A2 A3 hr
  go_wp2
  go_ret2
  have z := HZ.out
  have k := HK.out
  simp at z
  rw [HI.out]
  exact ⟨rfl, (((Kept.drewN _ _ nq).trans k.1).trans k.2.1).trans k.2.2, by omega, HX.out⟩
theorem get_none (X : Stepper) (hs : X.Steps Try.prog 40) (t rb sb n : Nat) (st va : Nat → Int) (q : Int) (w : World) (H : RingAt w rb sb n st va) (h0 : 0 ≤ q) (h1 : q < 4611686018427387904) (he : st (q % n).toNat < 2 * (q / n)) (A : X.at_ t w) (n1 : ¬ X.own rb) (n2 : ¬ X.own sb) :
    Calls Try.prog 25 #[.pointer (some ⟨rb, 0, none⟩), X.v, .int .i64 q] w fun e w' => e = .returned (.tuple #[.int .i64 0, .int .i64 6]) ∧ Kept X.own w w' ∧ w'.heap.size = w.heap.size ∧ X.at_ (t + 1) w' := by
  have hn := H.pos
  have h2 := H.most
  have hr := H.ring
  have hb0 : 0 ≤ q % (n : Int) := Int.emod_nonneg _ (by omega)
  have hb1 : q % (n : Int) < n := Int.emod_lt_of_pos _ (by omega)
  have hd0 : 0 ≤ q / (n : Int) := Int.ediv_nonneg h0 (by omega)
  have hd1 : q / (n : Int) ≤ q := Int.ediv_le_self _ h0
  have HH := Lib.hid H
  have HA := Lib.hid A
  have HN1 := Lib.hid n1
  have HN2 := Lib.hid n2
  clear H A n1 n2
  go_enter Try.func25, Try.ntmps25
  go_wp2_with (go_at_call 38; refine (good_yes _ _ n _ q _ hr hn h0 h1).mono ?_; rintro e w' ⟨rfl, rfl⟩)
  go_quiet (first | (go_at_call 18; exact quietS (slot_yes _ _ n _ q _ hr hn h2 h0 h1)) | (go_at_call 19; exact quietS (lap_yes _ _ n _ q _ hr hn h2 h0 h1)))
  generalize hi : (q % (n : Int)).toNat = i at *
  have hi' : i < n := by omega
  have HI := Lib.hid hi
  clear hi
  have H1 := HH.out.drewN nq
  have A1 := X.keep HA.out (Kept.drewN (fun _ => False) w nq) (fun _ _ h => h)
  go_wp2_with fail
  refine (hs t _ A1).mono ?_
  rintro e w1 ⟨rfl, A1, K1, Z1⟩
  have H1 := H1.kept K1 HN1.out HN2.out
  have S1 := H1.stamp i hi'
  have hS := Lib.hid S1
  clear S1
  go_wp2_with fail
  refine (atomic_load _ _ _ hS.out).mono ?_
  rintro e w' ⟨rfl, rfl⟩
  have HZ := Lib.hid Z1
  have HK := Lib.hid K1
  have HX := Lib.hid A1
  clear Z1 K1 H1 A1 hr
  go_wp2
  go_ret2
  have z := HZ.out
  simp at z
  exact ⟨rfl, (Kept.drewN _ _ nq).trans HK.out, by omega, HX.out⟩
theorem get_lost (X : Stepper) (hs : X.Steps Try.prog 40) (t rb sb n : Nat) (st va : Nat → Int) (q : Int) (w : World) (H : RingAt w rb sb n st va) (h0 : 0 ≤ q) (h1 : q < 4611686018427387904) (he : 2 * (q / n) < st (q % n).toNat) (A : X.at_ t w) (n1 : ¬ X.own rb) (n2 : ¬ X.own sb) :
    Calls Try.prog 25 #[.pointer (some ⟨rb, 0, none⟩), X.v, .int .i64 q] w fun e w' => e = .returned (.tuple #[.int .i64 0, .int .i64 10]) ∧ Kept X.own w w' ∧ w'.heap.size = w.heap.size ∧ X.at_ (t + 1) w' := by
  have hn := H.pos
  have h2 := H.most
  have hr := H.ring
  have hb0 : 0 ≤ q % (n : Int) := Int.emod_nonneg _ (by omega)
  have hb1 : q % (n : Int) < n := Int.emod_lt_of_pos _ (by omega)
  have hd0 : 0 ≤ q / (n : Int) := Int.ediv_nonneg h0 (by omega)
  have hd1 : q / (n : Int) ≤ q := Int.ediv_le_self _ h0
  have HH := Lib.hid H
  have HA := Lib.hid A
  have HN1 := Lib.hid n1
  have HN2 := Lib.hid n2
  clear H A n1 n2
  go_enter Try.func25, Try.ntmps25
  go_wp2_with (go_at_call 38; refine (good_yes _ _ n _ q _ hr hn h0 h1).mono ?_; rintro e w' ⟨rfl, rfl⟩)
  go_quiet (first | (go_at_call 18; exact quietS (slot_yes _ _ n _ q _ hr hn h2 h0 h1)) | (go_at_call 19; exact quietS (lap_yes _ _ n _ q _ hr hn h2 h0 h1)))
  generalize hi : (q % (n : Int)).toNat = i at *
  have hi' : i < n := by omega
  have HI := Lib.hid hi
  clear hi
  have H1 := HH.out.drewN nq
  have A1 := X.keep HA.out (Kept.drewN (fun _ => False) w nq) (fun _ _ h => h)
  go_wp2_with fail
  refine (hs t _ A1).mono ?_
  rintro e w1 ⟨rfl, A1, K1, Z1⟩
  have H1 := H1.kept K1 HN1.out HN2.out
  have S1 := H1.stamp i hi'
  have hS := Lib.hid S1
  clear S1
  go_wp2_with fail
  refine (atomic_load _ _ _ hS.out).mono ?_
  rintro e w' ⟨rfl, rfl⟩
  have HZ := Lib.hid Z1
  have HK := Lib.hid K1
  have HX := Lib.hid A1
  clear Z1 K1 H1 A1 hr
  go_wp2
  go_ret2
  have z := HZ.out
  simp at z
  exact ⟨rfl, (Kept.drewN _ _ nq).trans HK.out, by omega, HX.out⟩

theorem Try.slotInfo : (Try.prog.info? 85).map (fun i => (i.zero, i.size, i.bytes)) = some (some (.agg #[.int .i64 0, .int .i64 0]), 2, 16) := by kernel_rfl
theorem made_zero (n j : Nat) (h : j < n * 2) : (madeCells #[.int .i64 0, .int .i64 0] (n * 2))[j]? = some (.int .i64 0) := by
  unfold madeCells
  rw [Array.getElem?_map, Array.getElem?_range, if_pos h]
  rcases Nat.mod_two_eq_zero_or_one j with e | e <;> simp [e]
theorem ring_made (w : World) (n : Nat) (hn : 0 < n) (h2 : n ≤ 65536) :
    RingAt ((w.alloc (.cells (madeCells #[.int .i64 0, .int .i64 0] (n * 2)) 85)).alloc (.cells #[.slice (some ⟨w.heap.size, 0, none⟩) n n] 66)) (w.heap.size + 1) w.heap.size n (fun _ => 0) (fun _ => 0) := by
  have b0 := Blk.new w 85 (madeCells #[.int .i64 0, .int .i64 0] (n * 2))
  have b1 := b0.alloc (.cells #[.slice (some ⟨w.heap.size, 0, none⟩) n n] 66)
  have b2 := Blk.new (w.alloc (.cells (madeCells #[.int .i64 0, .int .i64 0] (n * 2)) 85)) 66 #[.slice (some ⟨w.heap.size, 0, none⟩) n n]
  rw [World.size_alloc] at b2
  exact { ring := b2.cell 0, stamp := fun i hi => (b1.cell _).trans (made_zero n _ (by omega)), value := fun i hi => (b1.cell _).trans (made_zero n _ (by omega)), free := fun i => b1.frozen i, pos := hn, most := h2, ne := by omega, rlt := by simp, glt := by simp; omega }

theorem fill_succ (k : Nat) (a b : Int) : (fun j => if j < k + 1 then a else b) = upd (fun j => if j < k then a else b) k a := by
  funext j
  unfold upd
  dsimp only
  by_cases h : j = k
  · subst h; simp
  · rw [if_neg h]; by_cases h' : j < k
    · rw [if_pos h', if_pos (by omega)]
    · rw [if_neg h', if_neg (by omega)]
/-- A block of cells of which none is frozen. -/
def NearB (w : World) (b : Nat) : Prop := ∃ c t, w.heap[b]? = some (.cells c t (0, 0))
theorem NearB.set_ {w : World} {d i : Nat} {v : Value} {b : Nat} (h : NearB w b) : NearB (w.setCell ⟨d, i, none⟩ v) b := by
  obtain ⟨c, t, h⟩ := h
  by_cases e : b = d
  · subst e
    exact ⟨_, _, (show Blk w b t c from h).set_ i v⟩
  · exact ⟨c, t, (Below.heap_setCell _ _ _ _ e).trans h⟩
theorem new_near (n : Nat) (w : World) (hn : 0 < n) (h2 : n ≤ 65536) (hb : (bits BinOp.and IntKind.i64 (n : Int) ((n : Int) - 1) != 0) = false) : Calls Try.prog 12 #[.int .i64 n] w fun e w' => e = .returned (.tuple #[.pointer (some ⟨w.heap.size + 1, 0, none⟩), .int .i64 0]) ∧
    RingAt w' (w.heap.size + 1) w.heap.size n (fun _ => -2) (fun _ => 0) ∧ Below w.heap.size w w' ∧ w'.heap.size = w.heap.size + 2 ∧ NearB w' w.heap.size ∧ NearB w' (w.heap.size + 1) := by
  obtain ⟨i0, hi, hz0, hz1, hz2⟩ := info_parts Try.slotInfo
  have hmk := fun wx => run_make (P := Try.prog) wx 64 85 i0 _ Try.underlying64 hi hz0 .i64 .i64 n n (by omega) (by omega) (by rw [hz2]; omega) (by omega)
  simp only [Int.toNat_natCast, hz1, Value.cells] at hmk
  have h1 : (1 : Int) ≤ n := by omega
  have h3 : (n : Int) ≤ 65536 := by omega
  have hr := ring_made w n hn h2
  have hbel : Below w.heap.size w ((w.alloc (.cells (madeCells #[.int .i64 0, .int .i64 0] (n * 2)) 85)).alloc (.cells #[.slice (some ⟨w.heap.size, 0, none⟩) n n] 66)) := ((Below.refl _ _).alloc (Nat.le_refl _) _).alloc (by simp) _
  have hnear : NearB ((w.alloc (.cells (madeCells #[.int .i64 0, .int .i64 0] (n * 2)) 85)).alloc (.cells #[.slice (some ⟨w.heap.size, 0, none⟩) n n] 66)) w.heap.size ∧ NearB ((w.alloc (.cells (madeCells #[.int .i64 0, .int .i64 0] (n * 2)) 85)).alloc (.cells #[.slice (some ⟨w.heap.size, 0, none⟩) n n] 66)) (w.heap.size + 1) := by
    have hb := Blk.new (w.alloc (.cells (madeCells #[.int .i64 0, .int .i64 0] (n * 2)) 85)) 66 #[.slice (some ⟨w.heap.size, 0, none⟩) n n]
    rw [World.size_alloc] at hb
    exact ⟨⟨_, _, (Blk.new w 85 (madeCells #[.int .i64 0, .int .i64 0] (n * 2))).alloc _⟩, ⟨_, _, hb⟩⟩
  have HR := Lib.hid hr
  have HB := Lib.hid (And.intro hbel hnear)
  clear hr hbel hnear hz1 hz2 hz0 hi
  go_enter Try.func12, Try.ntmps12
  go_wp2
  go_loopw [28] (fun i wr => ∃ k : Nat, k ≤ n ∧ i = .int .i64 k ∧ RingAt wr (w.heap.size + 1) w.heap.size n (fun j => if j < k then -2 else 0) (fun _ => 0) ∧ (Below w.heap.size w wr ∧ NearB wr w.heap.size ∧ NearB wr (w.heap.size + 1)) ∧ wr.heap.size = w.heap.size + 2) (fun i _ => n - (intOf i).toNat)
  case atStart => exact ⟨0, Nat.zero_le _, rfl, by simpa using HR.out, HB.out, by simp⟩
  case round =>
    obtain ⟨k, hk, rfl, H, hbl, hsz⟩ := hrel
    have hring := H.ring
    have HH := Lib.hid H
    have HS := Lib.hid hsz
    clear hmk hb H hsz
    by_cases hlt : k < n
    · go_wp2_with (go_at_call 36; refine (atomic_store _ _ _ _ (HH.out.stamp k hlt) (HH.out.free _)).mono ?_; rintro e w' ⟨rfl, rfl⟩)
      go_roundw
      case rel =>
        refine ⟨k + 1, by omega, by go_num, ?_, ⟨hbl.1.setCell (by simp) _, hbl.2.1.set_, hbl.2.2.set_⟩, by simpa using HS.out⟩
        rw [fill_succ]
        exact HH.out.setStamp hlt (-2)
      case measure => simp [intOf]; omega
    · go_wp2
      go_ret2
      refine ⟨rfl, ⟨HH.out.ring, fun i hi => ?_, HH.out.value, HH.out.free, HH.out.pos, HH.out.most, HH.out.ne, HH.out.rlt, HH.out.glt⟩, hbl.1, HS.out, hbl.2⟩
      have h := HH.out.stamp i hi
      rwa [if_pos (by omega)] at h
theorem new_ok (n : Nat) (w : World) (hn : 0 < n) (h2 : n ≤ 65536) (hb : (bits BinOp.and IntKind.i64 (n : Int) ((n : Int) - 1) != 0) = false) : Calls Try.prog 12 #[.int .i64 n] w fun e w' => e = .returned (.tuple #[.pointer (some ⟨w.heap.size + 1, 0, none⟩), .int .i64 0]) ∧
    RingAt w' (w.heap.size + 1) w.heap.size n (fun _ => -2) (fun _ => 0) ∧ Below w.heap.size w w' ∧ w'.heap.size = w.heap.size + 2 :=
  (new_near n w hn h2 hb).mono fun _ _ ⟨h1, h2, h3, h4, _⟩ => ⟨h1, h2, h3, h4⟩
end Go.Proofs.Yteainbnoemkfcaa
