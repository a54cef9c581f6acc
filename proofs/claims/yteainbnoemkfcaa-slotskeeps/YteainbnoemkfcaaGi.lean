/- DERIVED. A run by a schedule on a ring of slots (package slots: Play), whatever is handed in. -/
import Derived.Test.YteainbnoemkfcaaGh
import Derived.Test.YteainbnoemkfcaaGg
set_option linter.unusedVariables false
namespace Go.Proofs.Yteainbnoemkfcaa
open Go.RowKit Go.Turn Go.Tame Go.Conc
def thereT {A R : Type} (l : RLens A) (n : Nat) (q : Int) (s : A × R) (k : Bool → A × R → Tree (A × R) (A × R)) : Tree (A × R) (A × R) :=
  .yield s fun s1 => k ((l.get s1.1).1 (q % n).toNat == 2 * (q / n)) s1
set_option maxHeartbeats 2000000 in
set_option maxRecDepth 100000 in
theorem slots_there {D : OpsD} {l : RLens D.A} {rb sb rn : Nat} (R : RingIn D l rb sb rn) {L : Lg Try.prog (Tree D.St D.St)} {Cap : (Nat → Prop) → World → Prop} {V : Value} (hk : CapK Cap) (hS : SStep D L Cap 40 V) (hrn : 0 < rn) (h2 : rn ≤ 65536) (q : Int) (h0 : 0 ≤ q) (h1 : q < 4611686018427387904) (H0 : Nat → Prop) (w0 : World) (s : D.St) (H : Nat → Prop) (k) (w : World) (hn : Now D Cap H0 w0 s H w) :
    Ccalls L 26 #[.pointer (some ⟨rb, 0, none⟩), V, .int .i64 q] (thereT l rn q s k) w fun u t' w' => ∃ b s' H', u = .bool b ∧ t' = k b s' ∧ Now D Cap H0 w0 s' H' w' := by
  have hb0 : 0 ≤ q % (rn : Int) := Int.emod_nonneg _ (by omega)
  have hb1 : q % (rn : Int) < rn := Int.emod_lt_of_pos _ (by omega)
  have hd0 : 0 ≤ q / (rn : Int) := Int.ediv_nonneg h0 (by omega)
  have hd1 : q / (rn : Int) ≤ q := Int.ediv_le_self _ h0
  intro c mid hR
  have HR := Lib.hid hR
  have HN := Lib.hid hn
  clear hR hn
  rw [show Frame.enter Try.prog 26 #[.pointer (some ⟨rb, 0, none⟩), V, .int .i64 q] .normal = Frame.at { (default : Frame) with fn := 26, kind := .normal } ⟨#[.pointer (some ⟨rb, 0, none⟩), V, .int .i64 q] ++ Array.replicate (Try.f26.ntmps - 3) undef, []⟩ [.code (Try.f26.body.getD .skip)] from by simp [Frame.enter, Frame.at, Try.func26]; rfl]
  simp only [Try.f26, Option.getD_some, Nat.reduceSub, Array.replicate_succ, Array.replicate_zero, List.push_toArray, List.append_toArray, List.nil_append, List.cons_append]
  unfold thereT
  refine Lg.move _ (fun _ _ => step_seq) (fun h => h) ?_
  refine Lg.code fun K hK y τ n' hy => ?_
  subst hy
  have hn := HN.out.re hk
  clear HN
  have hr := (R.at_ _ _ _ hn.rep).r.ring
  have HN := Lib.hid hn
  clear hn
  go_wp2
  refine hK _ _ (fun _ => rfl) ?_
  clear hK K hr
  refine Lg.move _ (fun _ _ => step_seq) (fun h => h) ?_
  refine Lg.code fun K hK y τ n' hy => ?_
  subst hy
  have hn := HN.out.re hk
  clear HN
  have hr := (R.at_ _ _ _ hn.rep).r.ring
  have HN := Lib.hid hn
  clear hn
  go_wp2_with (go_at_call 38; refine (good_yes _ _ rn _ q _ hr hrn h0 h1).mono ?_; rintro e w' ⟨rfl, rfl⟩)
  refine hK _ _ (fun _ => rfl) ?_
  clear hK K hr
  refine Lg.move _ (fun _ _ => step_seq) (fun h => h) ?_
  refine Lg.move _ (fun _ _ => step_region) (fun h => h) ?_
  refine Lg.pre 0 1 1 (by simp) fun K hK z τ n' hz => ?_
  subst hz
  go_wp2
  refine hK _ _ (fun _ => rfl) ?_
  clear hK K
  refine Lg.call (i := 1) (rest := []) (f := 40) (args := #[V]) rfl rfl (fun y => by go_simp) (hS _ _ _ _ _ _ (HN.out.re hk)) ?_
  rintro vv t' w' ⟨rfl, s, H, rfl, hn⟩
  clear HN
  rw [Frame.finish_at]
  walk_nrm
  refine Lg.move _ (fun _ _ => step_region_end) (fun h => h) ?_
  have HN := Lib.hid hn
  clear hn
  refine Lg.move _ (fun _ _ => step_seq) (fun h => h) ?_
  refine Lg.code fun K hK y τ n' hy => ?_
  subst hy
  have hn := HN.out.re hk
  clear HN
  have hat := R.at_ _ _ _ hn.rep
  have s0 := hat.r.stamp (q % (rn : Int)).toNat (by omega)
  have hr := hat.r.ring
  have HN := Lib.hid hn
  clear hn hat
  go_quiet (first | (go_at_call 18; exact quietS (slot_yes _ _ rn _ q _ hr hrn h2 h0 h1)) | (go_at_call 19; exact quietS (lap_yes _ _ rn _ q _ hr hrn h2 h0 h1)) | (go_at_call 39; exact quietS (atomic_load _ _ _ s0)))
  refine hK _ _ (fun _ => rfl) ?_
  clear hK K hr s0
  have hn := HN.out.drewN hk nq
  generalize World.drewN _ nq = y' at hn ⊢
  clear HN
  refine Lg.move _ (fun _ _ => step_ret) (fun h => h) ?_
  refine Lg.leave rfl Try.func26 rfl (v := .bool _) (fun _ _ _ _ => by simp [results, Try.f26]) (HR.out _ _ _ ⟨_, _, H, rfl, rfl, hn⟩)
def highT {A R : Type} (l : RLens A) (n : Nat) : Nat → Int → A × R → (Int → A × R → Tree (A × R) (A × R)) → Tree (A × R) (A × R)
  | 0, q, s, k => k (q - 1) s
  | j + 1, q, s, k => thereT l n q s fun b s' => if b then highT l n j (q + 1) s' k else k (q - 1) s'
abbrev frH (f : Nat → Value) : Array Value := #[f 0, f 1, f 2, f 3, f 4, f 5, f 6, f 7, f 8, f 9, f 10, f 11, f 12, f 13, f 14, f 15, f 16, f 17, f 18, f 19, f 20, f 21, f 22, f 23, f 24, f 25, f 26, f 27, f 28, f 29, f 30, f 31, f 32, f 33, f 34, f 35, f 36, f 37, f 38, f 39, f 40, f 41, f 42, f 43, f 44, f 45]
set_option maxHeartbeats 4000000 in
set_option maxRecDepth 100000 in
theorem slots_highest {D : OpsD} {l : RLens D.A} {rb sb rn : Nat} (R : RingIn D l rb sb rn) {L : Lg Try.prog (Tree D.St D.St)} {Cap : (Nat → Prop) → World → Prop} {V : Value} (hk : CapK Cap) (hS : SStep D L Cap 40 V) (hrn : 0 < rn) (h2 : rn ≤ 65536) (a b : Int) (h0 : 0 ≤ a) (h1 : a < 4611686018427387904) (hab : a ≤ b) (hb : b < 9223372036854775808) (H0 : Nat → Prop) (w0 : World) (s : D.St) (H : Nat → Prop) (k) (w : World) (hn : Now D Cap H0 w0 s H w) :
    Ccalls L 27 #[.pointer (some ⟨rb, 0, none⟩), V, .int .i64 a, .int .i64 b] (highT l rn (highN rn a b) a s k) w fun u t' w' => ∃ x s' H', u = .int .i64 x ∧ t' = k x s' ∧ Now D Cap H0 w0 s' H' w' := by
  intro c mid hR
  have HR := Lib.hid hR
  have HN := Lib.hid hn
  clear hR hn
  rw [show Frame.enter Try.prog 27 #[.pointer (some ⟨rb, 0, none⟩), V, .int .i64 a, .int .i64 b] .normal = Frame.at { (default : Frame) with fn := 27, kind := .normal } ⟨#[.pointer (some ⟨rb, 0, none⟩), V, .int .i64 a, .int .i64 b] ++ Array.replicate (Try.f27.ntmps - 4) undef, []⟩ [.code (Try.f27.body.getD .skip)] from by simp [Frame.enter, Frame.at, Try.func27]; rfl]
  simp only [Try.f27, Option.getD_some, Nat.reduceSub, Array.replicate_succ, Array.replicate_zero, List.push_toArray, List.append_toArray, List.nil_append, List.cons_append]
  refine Lg.move _ (fun _ _ => step_seq) (fun h => h) ?_
  refine Lg.code fun K hK y τ n' hy => ?_
  subst hy
  have hn := HN.out.re hk
  clear HN
  have hr := (R.at_ _ _ _ hn.rep).r.ring
  have HN := Lib.hid hn
  clear hn
  go_wp2
  refine hK _ _ (fun _ => rfl) ?_
  clear hK K hr
  refine Lg.move _ (fun _ _ => step_seq) (fun h => h) ?_
  refine Lg.code fun K hK y τ n' hy => ?_
  subst hy
  have hn := HN.out.re hk
  clear HN
  have hr := (R.at_ _ _ _ hn.rep).r.ring
  have HN := Lib.hid hn
  clear hn
  go_wp2_with (go_at_call 38; refine (good_yes _ _ rn _ a _ hr hrn h0 h1).mono ?_; rintro e w' ⟨rfl, rfl⟩)
  refine hK _ _ (fun _ => rfl) ?_
  clear hK K hr
  obtain ⟨Y, e1⟩ : ∃ Y, (if a + (rn : Int) - 1 < b then a + (rn : Int) - 1 else b) = Y := ⟨_, rfl⟩
  obtain ⟨M, e2⟩ : ∃ M, (if 4611686018427387903 < Y then 4611686018427387903 else Y) = M := ⟨_, rfl⟩
  obtain ⟨m0, m1, m2, m3⟩ : a - 1 ≤ M ∧ M ≤ 4611686018427387903 ∧ (M + 1 - a).toNat = highN rn a b ∧ a ≤ M := by
    unfold highN
    rw [← e2, ← e1]
    split <;> split <;> omega
  generalize highN rn a b = kk at m2 ⊢
  have hkk := Lib.hid m2
  clear m2
  refine Lg.move _ (fun _ _ => step_seq) (fun h => h) ?_
  refine Lg.code fun K hK y τ n' hy => ?_
  subst hy
  have hn := HN.out.re hk
  clear HN
  have hr := (R.at_ _ _ _ hn.rep).r.ring
  have HN := Lib.hid hn
  clear hn
  go_wp2_with (go_at_call 14; refine (size_ring _ _ rn _ _ hr).mono ?_; rintro e w' ⟨rfl, rfl⟩)
  refine hK _ _ (fun _ => rfl) ?_
  clear hK K hr e1 e2 hab hb
  refine Lg.move _ (fun _ _ => step_seq) (fun h => h) ?_
  refine Lg.move _ (fun _ _ => step_seq) (fun h => h) ?_
  refine Lg.code fun K hK y τ n' hy => ?_
  subst hy
  have hn := HN.out.re hk
  clear HN
  have HN := Lib.hid hn
  clear hn
  go_wp2
  refine hK _ _ (fun _ => rfl) ?_
  clear hK K
  refine Lg.move _ (fun _ _ => step_block) (fun h => h) ?_
  refine Lg.family frH (R := fun f => f 0 = .pointer (some ⟨rb, 0, none⟩) ∧ f 1 = V ∧ f 9 = .int .i64 M ∧ f 10 = .int .i64 a) ?_ (by rfl) ⟨rfl, rfl, rfl, rfl⟩
  rintro f1 ⟨n0, n1, n9, n10⟩
  refine Lg.loop_fr frH (fun f t w => ∃ j : Nat, j ≤ kk ∧ ∃ s' H', f 0 = .pointer (some ⟨rb, 0, none⟩) ∧ f 1 = V ∧ f 9 = .int .i64 M ∧ f 10 = .int .i64 (a + j) ∧ t = highT l rn (kk - j) (a + j) s' k ∧ Now D Cap H0 w0 s' H' w) (fun f _ _ => kk - (intOf (f 10) - a).toNat) ⟨0, Nat.zero_le _, s, H, n0, n1, n9, by simpa using n10, by simp, HN.out⟩ ?_
  clear HN n0 n1 n9 n10 f1 s H
  rintro f2 t w2 ⟨j, hj, s, H, k0, k1, k9, k10, rfl, hn⟩ hnext
  have HX := Lib.hid hnext
  have HN := Lib.hid hn
  clear hnext hn
  simp only [frH, k0, k1, k9, k10]
  have hkk' := hkk.out
  refine Lg.move _ (fun _ _ => step_seq) (fun h => h) ?_
  refine Lg.move _ (fun _ _ => step_seq) (fun h => h) ?_
  refine Lg.code fun K hK y τ n' hy => ?_
  subst hy
  have hn := HN.out.re hk
  clear HN
  have HN := Lib.hid hn
  clear hn
  go_wp2
  refine hK _ _ (fun _ => rfl) ?_
  clear hK K
  by_cases hlt : j < kk
  · have hle : decide (a + (j : Int) ≤ M) = true := decide_eq_true (by omega)
    simp only [hle]
    refine Lg.move _ (fun _ _ => step_cond (t := true) rfl) (fun h => h) ?_
    refine Lg.move _ (fun _ _ => step_skip) (fun h => h) ?_
    refine Lg.move _ (fun _ _ => step_seq) (fun h => h) ?_
    refine Lg.move _ (fun _ _ => step_block) (fun h => h) ?_
    refine Lg.move _ (fun _ _ => step_seq) (fun h => h) ?_
    refine Lg.move _ (fun _ _ => step_region) (fun h => h) ?_
    refine Lg.pre 0 3 2 (by simp) fun K hK z τ n' hz => ?_
    subst hz
    have hn := HN.out.re hk
    clear HN
    simp only [List.drop_zero, List.take_succ_cons, List.take_zero]
    have HN := Lib.hid hn
    clear hn
    go_wp2
    refine hK _ _ (fun _ => rfl) ?_
    clear hK K
    rw [show highT l rn (kk - j) (a + j) s k = thereT l rn (a + j) s fun b s' => if b then highT l rn (kk - (j + 1)) (a + ((j + 1 : Nat) : Int)) s' k else k (a + j - 1) s' from by
      rw [show kk - j = (kk - (j + 1)) + 1 from by omega, show a + ((j + 1 : Nat) : Int) = a + j + 1 from by omega]; rfl]
    refine Lg.call (i := 3) (rest := [4]) (f := 26) (args := #[.pointer (some ⟨rb, 0, none⟩), V, .int .i64 (a + j)]) rfl rfl (fun y => by go_simp) (slots_there R hk hS hrn h2 (a + j) (by omega) (by omega) H0 w0 s H _ z HN.out) ?_
    rintro vv t' w' ⟨bb, s, H, rfl, rfl, hn⟩
    clear HN
    have HN := Lib.hid hn
    clear hn
    rw [Frame.finish_at]
    walk_nrm
    refine (show L.T _ (Frame.at _ ⟨_, []⟩ (.inRegion _ (List.range' 4 (1 + 0)) :: _)) (c :: mid) w' from ?_)
    refine Lg.pre 4 1 0 (by simp) fun K hK z τ n' hz => ?_
    subst hz
    have hn := HN.out.re hk
    clear HN
    simp only [List.drop_succ_cons, List.drop_zero, List.take_succ_cons, List.take_zero]
    have HN := Lib.hid hn
    clear hn
    go_wp2
    refine hK _ _ (fun _ => rfl) ?_
    clear hK K
    refine Lg.move _ (fun _ _ => step_region_end) (fun h => h) ?_
    cases bb with
    | true =>
      refine Lg.move _ (fun _ _ => step_cond (t := false) rfl) (fun h => h) ?_
      refine Lg.move _ (fun _ _ => step_skip) (fun h => h) ?_
      refine Lg.move _ (fun _ _ => step_inBlock) (fun h => h) ?_
      refine Lg.code fun K hK y τ n' hy => ?_
      subst hy
      have hn := HN.out.re hk
      clear HN
      have HN := Lib.hid hn
      clear hn
      go_wp2
      refine hK _ _ (fun _ => rfl) ?_
      clear hK K
      refine Lg.family frH (R := fun f => f 0 = .pointer (some ⟨rb, 0, none⟩) ∧ f 1 = V ∧ f 9 = .int .i64 M ∧ f 10 = .int .i64 (a + ((j + 1 : Nat) : Int))) ?_ (by rfl) ⟨rfl, rfl, rfl, by simp; omega⟩
      rintro f' ⟨p0, p1, p9, p10⟩
      exact HX.out f' _ _ ⟨j + 1, by omega, s, H, p0, p1, p9, p10, rfl, HN.out⟩ (by rw [p10, k10]; simp only [intOf]; omega)
    | false =>
      refine Lg.move _ (fun _ _ => step_cond (t := true) rfl) (fun h => h) ?_
      refine Lg.move _ (fun _ _ => step_seq) (fun h => h) ?_
      refine Lg.code fun K hK y τ n' hy => ?_
      subst hy
      have hn := HN.out.re hk
      clear HN
      have HN := Lib.hid hn
      clear hn
      go_wp2
      refine hK _ _ (fun _ => rfl) ?_
      clear hK K
      refine Lg.move _ (fun _ _ => step_ret) (fun h => h) ?_
      exact Lg.leave rfl Try.func27 rfl (v := .int .i64 (a + j - 1)) (fun _ _ _ _ => by simp [results, Try.f27]) (HR.out _ _ _ ⟨_, _, H, rfl, rfl, HN.out⟩)
  · have hle : decide (a + (j : Int) ≤ M) = false := decide_eq_false (by omega)
    simp only [hle]
    refine Lg.move _ (fun _ _ => step_cond (t := false) rfl) (fun h => h) ?_
    refine Lg.move _ (fun _ _ => step_exit rfl) (fun h => h) ?_
    refine Lg.move _ (fun _ _ => step_seq) (fun h => h) ?_
    refine Lg.code fun K hK y τ n' hy => ?_
    subst hy
    have hn := HN.out.re hk
    clear HN
    have HN := Lib.hid hn
    clear hn
    go_wp2
    refine hK _ _ (fun _ => rfl) ?_
    clear hK K
    have hjk : j = kk := by omega
    subst hjk
    rw [show highT l rn (j - j) (a + j) s k = k (a + j - 1) s from by rw [Nat.sub_self]; rfl, show a + (j : Int) - 1 = M from by omega]
    refine Lg.move _ (fun _ _ => step_ret) (fun h => h) ?_
    exact Lg.leave rfl Try.func27 rfl (v := .int .i64 M) (fun _ _ _ _ => by simp [results, Try.f27]) (HR.out _ _ _ ⟨_, _, H, rfl, rfl, HN.out⟩)
end Go.Proofs.Yteainbnoemkfcaa
namespace Go.Proofs.Yteainbnoemkfcaa
open Go.RowKit Go.Turn Go.Tame Go.Conc
structure OutRow (D : OpsD) (w0 : World) (H : Nat → Prop) (w : World) (v : Value) (ls : List Int) : Prop where
  own : w.ownsRow w0.heap.size 2 1 v ls.length (ls.map (Value.int .i64))
  nh : ∀ b, v.ownBlock = some b → ¬ H b ∧ ¬ D.RB b
section
variable {D : OpsD} {Cap : (Nat → Prop) → World → Prop} {H0 H H' : Nat → Prop} {w0 w w' y : World} {s s' : D.St} {v : Value} {ls : List Int}
theorem OutRow.nil : OutRow D w0 H w (.slice none 0 0) [] := ⟨own_nil _ _ _ _, fun b hb => by simp [Value.ownBlock] at hb⟩
theorem OutRow.blk (h : OutRow D w0 H w v ls) {b : Nat} (hb : v.ownBlock = some b) : w0.heap.size ≤ b ∧ ∃ cur, w.heap[b]? = some (.cells cur 2 (0, 0)) := by
  rcases h.own.2 with ⟨e, _⟩ | ⟨g, cap, cur, e, hg, k, _⟩
  · rw [e] at hb; simp [Value.ownBlock] at hb
  · rw [e] at hb; simp only [Value.ownBlock, Option.some.injEq] at hb; subst hb; exact ⟨hg, cur, k⟩
theorem OutRow.held (h : OutRow D w0 H w v ls) (hh : Held H w H' w') : OutRow D w0 H' w' v ls := by
  have key : ∀ b, v.ownBlock = some b → w'.heap[b]? = w.heap[b]? ∧ ¬ H' b := fun b hb => by
    obtain ⟨_, cur, k⟩ := h.blk hb
    obtain ⟨h1, h2⟩ := hh.block b cur _ (0, 0) k (h.nh b hb).1 (.inl (by decide))
    exact ⟨h1.trans k.symm, h2⟩
  exact ⟨own_same h.own fun b hb => (key b hb).1, fun b hb => ⟨(key b hb).2, (h.nh b hb).2⟩⟩
theorem OutRow.re {τ : Nat → Question → Nat} {n : Nat} (h : OutRow D w0 H (y.re τ n) v ls) : OutRow D w0 H y v ls := ⟨h.own, h.nh⟩
theorem OutRow.kept (h : OutRow D w0 H w v ls) (hk : Kept (fun _ => False) w w') : OutRow D w0 H w' v ls :=
  ⟨own_same h.own fun b hb => by obtain ⟨_, cur, k⟩ := h.blk hb; exact hk.block b (lt_of_some k) id, h.nh⟩
theorem Now.grown (h : Now D Cap H0 w0 s H w) {row : Option Nat} (hg : w.grownBy w' row) (hr : ∀ b, row = some b → w0.heap.size ≤ b ∧ ¬ H b ∧ ¬ D.RB b) : Now D Cap H0 w0 s H w' := by
  have same : ∀ b, b < w.heap.size → (H b ∨ D.RB b ∨ b < w0.heap.size) → w'.heap[b]? = w.heap[b]? := fun b hb hc => hg.block b hb fun e => by
    obtain ⟨h1, h2, h3⟩ := hr b e.symm
    rcases hc with hc | hc | hc
    · exact h2 hc
    · exact h3 hc
    · omega
  refine ⟨RepO.law D s H w w' h.rep (fun b hb => same b (h.rep.lt hb) (.inl hb)) fun b c t r hb hx => ⟨r, (same b (lt_of_some hx) (.inr (.inl hb))).trans hx⟩, h.cap0, ⟨Nat.le_trans h.held.size hg.size, fun b c t r hb hn hr => ?_⟩⟩
  obtain ⟨h1, h2⟩ := h.held.block b c t r hb hn hr
  exact ⟨(same b (lt_of_some h1) (.inr (.inr (lt_of_some hb)))).trans h1, h2⟩
end
def gathT {A R : Type} (l : RLens A) (n : Nat) : Nat → Int → List Int → A × R → (List Int → Int → A × R → Tree (A × R) (A × R)) → Tree (A × R) (A × R)
  | 0, _, acc, s, k => k acc 0 s
  | j + 1, q, acc, s, k => if 4611686018427387904 ≤ q then k acc 0 s else
      getT l n q s fun v e s' => if e = 0 then gathT l n j (q + 1) (acc ++ [v]) s' k else if acc = [] then k [] e s' else k acc 0 s'
abbrev frG (f : Nat → Value) : Array Value := #[f 0, f 1, f 2, f 3, f 4, f 5, f 6, f 7, f 8, f 9, f 10, f 11, f 12, f 13, f 14, f 15, f 16, f 17, f 18, f 19, f 20, f 21, f 22, f 23, f 24, f 25, f 26, f 27, f 28, f 29, f 30, f 31, f 32, f 33, f 34, f 35, f 36, f 37, f 38, f 39, f 40, f 41, f 42, f 43, f 44, f 45, f 46, f 47, f 48]
set_option maxHeartbeats 4000000 in
set_option maxRecDepth 100000 in
theorem slots_gather {D : OpsD} {l : RLens D.A} {rb sb rn : Nat} (R : RingIn D l rb sb rn) {L : Lg Try.prog (Tree D.St D.St)} {Cap : (Nat → Prop) → World → Prop} {V : Value} (hk : CapK Cap) (hS : SStep D L Cap 40 V) (hrn : 0 < rn) (h2 : rn ≤ 65536) (a m : Int) (h0 : 0 ≤ a) (h1 : a < 4611686018427387904) (H0 : Nat → Prop) (w0 : World) (s : D.St) (H : Nat → Prop) (k) (w : World) (hn : Now D Cap H0 w0 s H w) :
    Ccalls L 28 #[.pointer (some ⟨rb, 0, none⟩), V, .int .i64 a, .int .i64 m] (gathT l rn (min m.toNat rn) a [] s k) w fun u t' w' => ∃ ls e v s' H', u = .tuple #[v, .int .i64 e] ∧ t' = k ls e s' ∧ Now D Cap H0 w0 s' H' w' ∧ OutRow D w0 H' w' v ls := by
  intro c mid hR
  have HR := Lib.hid hR
  have HN := Lib.hid hn
  clear hR hn
  rw [show Frame.enter Try.prog 28 #[.pointer (some ⟨rb, 0, none⟩), V, .int .i64 a, .int .i64 m] .normal = Frame.at { (default : Frame) with fn := 28, kind := .normal } ⟨#[.pointer (some ⟨rb, 0, none⟩), V, .int .i64 a, .int .i64 m] ++ Array.replicate (Try.f28.ntmps - 4) undef, []⟩ [.code (Try.f28.body.getD .skip)] from by simp [Frame.enter, Frame.at, Try.func28]; rfl]
  simp only [Try.f28, Option.getD_some, Nat.reduceSub, Array.replicate_succ, Array.replicate_zero, List.push_toArray, List.append_toArray, List.nil_append, List.cons_append]
  refine Lg.move _ (fun _ _ => step_seq) (fun h => h) ?_
  refine Lg.code fun K hK y τ n' hy => ?_
  subst hy
  have hn := HN.out.re hk
  clear HN
  have hr := (R.at_ _ _ _ hn.rep).r.ring
  have HN := Lib.hid hn
  clear hn
  go_wp2
  refine hK _ _ (fun _ => rfl) ?_
  clear hK K hr
  refine Lg.move _ (fun _ _ => step_seq) (fun h => h) ?_
  refine Lg.code fun K hK y τ n' hy => ?_
  subst hy
  have hn := HN.out.re hk
  clear HN
  have hr := (R.at_ _ _ _ hn.rep).r.ring
  have HN := Lib.hid hn
  clear hn
  go_wp2_with (go_at_call 38; refine (good_yes _ _ rn _ a _ hr hrn h0 h1).mono ?_; rintro e w' ⟨rfl, rfl⟩)
  refine hK _ _ (fun _ => rfl) ?_
  clear hK K hr
  refine Lg.move _ (fun _ _ => step_seq) (fun h => h) ?_
  refine Lg.code fun K hK y τ n' hy => ?_
  subst hy
  have hn := HN.out.re hk
  clear HN
  have HN := Lib.hid hn
  clear hn
  go_wp2
  refine hK _ _ (fun _ => rfl) ?_
  clear hK K
  refine Lg.move _ (fun _ _ => step_seq) (fun h => h) ?_
  refine Lg.move _ (fun _ _ => step_block) (fun h => h) ?_
  refine Lg.family frG (R := fun f => f 0 = .pointer (some ⟨rb, 0, none⟩) ∧ f 1 = V ∧ f 2 = .int .i64 a ∧ f 3 = .int .i64 m ∧ f 10 = .slice none 0 0) ?_ (by rfl) ⟨rfl, rfl, rfl, rfl, rfl⟩
  rintro f1 ⟨n0, n1, n2, n3, n10⟩
  refine Lg.loop_fr frG (fun f t w => ∃ ls : List Int, ls.length ≤ min m.toNat rn ∧ ∃ s' H', f 0 = .pointer (some ⟨rb, 0, none⟩) ∧ f 1 = V ∧ f 2 = .int .i64 a ∧ f 3 = .int .i64 m ∧ t = gathT l rn (min m.toNat rn - ls.length) (a + ls.length) ls s' k ∧ Now D Cap H0 w0 s' H' w ∧ OutRow D w0 H' w (f 10) ls) (fun f _ _ => min m.toNat rn - (match f 10 with | .slice _ n _ => n | _ => 0)) ⟨[], Nat.zero_le _, s, H, n0, n1, n2, n3, by simp, HN.out, by rw [n10]; exact OutRow.nil⟩ ?_
  clear HN n0 n1 n2 n3 n10 f1 s H
  rintro f2 t w2 ⟨ls, hj, s, H, k0, k1, k2, k3, rfl, hn, hout⟩ hnext
  obtain ⟨oA, oc, k10⟩ : ∃ A c, f2 10 = .slice A ls.length c := own_slice hout.own
  rw [k10] at hout
  have HX := Lib.hid hnext
  have HN := Lib.hid hn
  have HO := Lib.hid hout
  clear hnext hn hout
  simp only [frG, k0, k1, k2, k3, k10]
  refine Lg.move _ (fun _ _ => step_seq) (fun h => h) ?_
  refine Lg.move _ (fun _ _ => step_seq) (fun h => h) ?_
  by_cases hlt : ls.length < min m.toNat rn
  · have hl1 : decide ((ls.length : Int) < m) = true := decide_eq_true (by omega)
    have hl2 : decide (ls.length < rn) = true := decide_eq_true (by omega)
    refine Lg.code fun K hK y τ n' hy => ?_
    subst hy
    have hn := HN.out.re hk
    have hr := (R.at_ _ _ _ hn.rep).r.ring
    have hout := HO.out.re
    clear HN HO
    have HN := Lib.hid hn
    have HO := Lib.hid hout
    clear hn hout
    go_wp2_with (go_at_call 14; refine (size_ring _ _ rn _ _ hr).mono ?_; rintro e w' ⟨rfl, rfl⟩)
    refine hK _ _ (fun _ => rfl) ?_
    clear hK K hr hl1 hl2
    refine Lg.move _ (fun _ _ => step_cond (t := true) rfl) (fun h => h) ?_
    refine Lg.move _ (fun _ _ => step_skip) (fun h => h) ?_
    refine Lg.move _ (fun _ _ => step_block) (fun h => h) ?_
    refine Lg.move _ (fun _ _ => step_seq) (fun h => h) ?_
    refine Lg.move _ (fun _ _ => step_region) (fun h => h) ?_
    refine Lg.pre 0 6 6 (by simp) fun K hK z τ n' hz => ?_
    subst hz
    have hn := HN.out.re hk
    have hout := HO.out.re
    clear HN HO
    have HN := Lib.hid hn
    have HO := Lib.hid hout
    clear hn hout
    simp only [List.drop_zero, List.take_succ_cons, List.take_zero]
    go_wp2
    refine hK _ _ (fun _ => rfl) ?_
    clear hK K
    obtain ⟨j, hjj⟩ : ∃ j, min m.toNat rn - ls.length = j + 1 := ⟨min m.toNat rn - ls.length - 1, by omega⟩
    have ej : j = min m.toNat rn - (ls.length + 1) := by omega
    have HJ := Lib.hid ej
    rw [hjj]
    clear hjj ej
    by_cases hbig : 4611686018427387904 ≤ a + (ls.length : Int)
    · rw [show gathT l rn (j + 1) (a + ls.length) ls s k = k ls 0 s from if_pos hbig]
      have hne : ((ls.length : Int) == 0) = false := by simp only [beq_eq_false_iff_ne]; omega
      have hring := (R.at_ _ _ _ HN.out.rep).r.ring
      have hbad : ∀ τ n', BadAt (some ⟨rb, 0, none⟩) (a + ls.length) (z.re τ n') := fun τ n' => bad_high _ _ _ _ _ _ (show (z.re τ n').cell? _ = _ from hring) hbig
      refine Lg.call (i := 6) (rest := [7, 8, 9, 10, 11]) (f := 25) (args := #[.pointer (some ⟨rb, 0, none⟩), V, .int .i64 (a + ls.length)]) rfl rfl (fun y => by go_simp) (ccalls_lone (R := fun v t w' => v = .tuple #[.int .i64 0, .int .i64 1] ∧ t = k ls 0 s ∧ Now D Cap H0 w0 s H w' ∧ OutRow D w0 H w' (.slice oA ls.length oc) ls) fun y τ n' hy => ?_) ?_
      · have hb : BadAt (some ⟨rb, 0, none⟩) (a + ls.length) y := by
          have := hbad y.tape y.drawn
          have hr2 : y.cell? ⟨rb, 0, none⟩ = some (.slice (some ⟨sb, 0, none⟩) rn rn) := by rw [hy] at hring; exact hring
          exact bad_high _ _ _ _ _ _ hr2 hbig
        refine (get_bad hb V).mono ?_
        rintro e w' ⟨rfl, rfl⟩
        exact ⟨_, rfl, rfl, rfl, by have := HN.out; rw [hy] at this; exact this.re hk, by have := HO.out; rw [hy] at this; exact this.re⟩
      rintro vv t' w' ⟨rfl, rfl, hn, hout⟩
      clear HN HO hring hbad
      have HN := Lib.hid hn
      have HO := Lib.hid hout
      clear hn hout
      rw [Frame.finish_at]
      walk_nrm
      refine (show L.T _ (Frame.at _ ⟨_, []⟩ (.inRegion _ (List.range' 7 (5 + 0)) :: _)) (c :: mid) w' from ?_)
      refine Lg.pre 7 5 0 (by simp) fun K hK z τ n' hz => ?_
      subst hz
      have hn := HN.out.re hk
      have hout := HO.out.re
      clear HN HO
      have HN := Lib.hid hn
      have HO := Lib.hid hout
      clear hn hout
      simp only [List.drop_succ_cons, List.drop_zero, List.take_succ_cons, List.take_zero]
      go_wp2
      refine hK _ _ (fun _ => rfl) ?_
      clear hK K
      refine Lg.move _ (fun _ _ => step_region_end) (fun h => h) ?_
      refine Lg.move _ (fun _ _ => step_seq) (fun h => h) ?_
      refine Lg.move _ (fun _ _ => step_seq) (fun h => h) ?_
      have hz1 : ((1 : Int) != 0) = true := by decide
      refine Lg.code fun K hK y τ n' hy => ?_
      subst hy
      have hn := HN.out.re hk
      have hout := HO.out.re
      clear HN HO
      have HN := Lib.hid hn
      have HO := Lib.hid hout
      clear hn hout
      go_wp2
      refine hK _ _ (fun _ => rfl) ?_
      clear hK K
      refine Lg.move _ (fun _ _ => step_cond (t := true) rfl) (fun h => h) ?_
      refine Lg.move _ (fun _ _ => step_seq) (fun h => h) ?_
      refine Lg.code fun K hK y τ n' hy => ?_
      subst hy
      have hn := HN.out.re hk
      have hout := HO.out.re
      clear HN HO
      have HN := Lib.hid hn
      have HO := Lib.hid hout
      clear hn hout
      go_wp2
      refine hK _ _ (fun _ => rfl) ?_
      clear hK K
      refine Lg.move _ (fun _ _ => step_exit rfl) (fun h => h) ?_
      refine Lg.move _ (fun _ _ => step_seq) (fun h => h) ?_
      refine Lg.code fun K hK y τ n' hy => ?_
      subst hy
      have hn := HN.out.re hk
      have hout := HO.out.re
      clear HN HO
      have HN := Lib.hid hn
      have HO := Lib.hid hout
      clear hn hout
      go_wp2
      refine hK _ _ (fun _ => rfl) ?_
      clear hK K
      refine Lg.move _ (fun _ _ => step_ret) (fun h => h) ?_
      exact Lg.leave rfl Try.func28 rfl (v := .tuple #[.slice oA ls.length oc, .int .i64 0]) (fun _ _ _ _ => by simp [results, Try.f28]) (HR.out _ _ _ ⟨_, _, _, _, _, rfl, rfl, HN.out, HO.out⟩)
    · rw [show gathT l rn (j + 1) (a + ls.length) ls s k = getT l rn (a + ls.length) s fun v e s' => if e = 0 then gathT l rn j (a + ls.length + 1) (ls ++ [v]) s' k else if ls = [] then k [] e s' else k ls 0 s' from if_neg hbig]
      refine Lg.call (i := 6) (rest := [7, 8, 9, 10, 11]) (f := 25) (args := #[.pointer (some ⟨rb, 0, none⟩), V, .int .i64 (a + ls.length)]) rfl rfl (fun y => by go_simp) (slots_get R hk hS hrn h2 (a + ls.length) (by omega) (by omega) H z s H _ z (HN.out.here hk)) ?_
      rintro vv t' w' ⟨x, e, s', H', rfl, rfl, hn'⟩
      have hout := HO.out.held hn'.held
      have hn := HN.out.on hn'
      clear HN HO hn'
      have HN := Lib.hid hn
      have HO := Lib.hid hout
      clear hn hout
      rw [Frame.finish_at]
      walk_nrm
      refine (show L.T _ (Frame.at _ ⟨_, []⟩ (.inRegion _ (List.range' 7 (5 + 0)) :: _)) (c :: mid) w' from ?_)
      refine Lg.pre 7 5 0 (by simp) fun K hK z τ n' hz => ?_
      subst hz
      have hn := HN.out.re hk
      have hout := HO.out.re
      clear HN HO
      have HN := Lib.hid hn
      have HO := Lib.hid hout
      clear hn hout
      simp only [List.drop_succ_cons, List.drop_zero, List.take_succ_cons, List.take_zero]
      go_wp2
      refine hK _ _ (fun _ => rfl) ?_
      clear hK K
      refine Lg.move _ (fun _ _ => step_region_end) (fun h => h) ?_
      refine Lg.move _ (fun _ _ => step_seq) (fun h => h) ?_
      refine Lg.move _ (fun _ _ => step_seq) (fun h => h) ?_
      by_cases he : e = 0
      · subst he
        rw [if_pos rfl]
        refine Lg.code fun K hK y τ n' hy => ?_
        subst hy
        have hn := HN.out.re hk
        have hout := HO.out.re
        clear HN HO
        have HN := Lib.hid hn
        have HO := Lib.hid hout
        clear hn hout
        go_wp2
        refine hK _ _ (fun _ => rfl) ?_
        clear hK K
        refine Lg.move _ (fun _ _ => step_cond (t := false) rfl) (fun h => h) ?_
        refine Lg.move _ (fun _ _ => step_skip) (fun h => h) ?_
        refine Lg.move _ (fun _ _ => step_region) (fun h => h) ?_
        refine Lg.pre 0 3 2 (by simp) fun K hK y τ n' hy => ?_
        subst hy
        have hn := HN.out.re hk
        have hout := HO.out.re
        clear HN HO
        have HN := Lib.hid hn
        have HO := Lib.hid hout
        clear hn hout
        simp only [List.drop_zero, List.take_succ_cons, List.take_zero]
        go_wp2
        refine hK _ _ (fun _ => rfl) ?_
        clear hK K
        have hnb := Blk.new y 2 #[.int .i64 x]
        have hn := HN.out.alloc (.cells #[.int .i64 x] 2)
        have hout := HO.out.kept (Kept.alloc y (.cells #[.int .i64 x] 2))
        clear HN HO
        generalize y.alloc (.cells #[.int .i64 x] 2) = z3 at hn hout hnb ⊢
        generalize y.heap.size = nb at hnb ⊢
        obtain ⟨i0, hi0, hz0, hz1', hz2⟩ := info_parts Try.info64
        refine Lg.pre 3 2 0 (by simp) fun K hK q τ n' hq => ?_
        subst hq
        have hn := hn.re hk
        have hout := hout.re
        have hnb : Blk q nb _ _ := hnb
        have hsize : w0.heap.size ≤ q.heap.size := hn.held.size
        simp only [List.drop_succ_cons, List.drop_zero, List.take_succ_cons, List.take_zero]
        refine wpList_append_lies _ rfl _ _ _ rfl w0.heap.size 2 i0 _ 1 8 Try.underlying22 hi0 hz0 hz1' hz2 rfl (by omega) (.slice oA ls.length oc) ls.length _ rfl hout.own ⟨nb, 0, none⟩ 1 1 [.int .i64 x] rfl rfl (World.news_of_block (cs := #[.int .i64 x]) (t := 2) (fr := (0, 0)) hnb) (by simp [Value.oneCell']) (by omega) (by unfold maxLen; omega) (by omega) hsize _ rfl ?_
        intro g cp' w1 hown hgrow hat hlt1
        have hrowH : ∀ b, (Value.slice oA ls.length oc).ownBlock = some b → w0.heap.size ≤ b ∧ ¬ H' b ∧ ¬ D.RB b := fun b hb => ⟨(hout.blk hb).1, hout.nh b hb⟩
        have hn2 := hn.grown hgrow fun b hb => hrowH b hb.symm.symm
        have hout2 : OutRow D w0 H' w1 (.slice (some ⟨g, 0, none⟩) (ls.length + 1) cp') (ls ++ [x]) := by
          refine ⟨by rw [List.length_append, List.map_append]; exact hown, fun b hb => ?_⟩
          simp only [Value.ownBlock, Option.some.injEq] at hb
          subst hb
          rcases hat with hat | hat
          · exact (hrowH _ hat).2
          · exact ⟨fun z => by have := hn.rep.lt z; omega, fun z => by have := hn.rlt z; omega⟩
        have HN := Lib.hid hn2
        have HO := Lib.hid hout2
        clear hn hn2 hout hout2 hown hgrow hat hlt1 hnb hrowH hsize
        go_wp2
        refine hK _ _ (fun _ => rfl) ?_
        clear hK K
        refine Lg.move _ (fun _ _ => step_region_end) (fun h => h) ?_
        refine Lg.move _ (fun _ _ => step_inBlock) (fun h => h) ?_
        refine Lg.family frG (R := fun f => f 0 = .pointer (some ⟨rb, 0, none⟩) ∧ f 1 = V ∧ f 2 = .int .i64 a ∧ f 3 = .int .i64 m ∧ f 10 = .slice (some ⟨g, 0, none⟩) (ls.length + 1) cp') ?_ (by rfl) ⟨rfl, rfl, rfl, rfl, rfl⟩
        rintro f' ⟨p0, p1, p2, p3, p10⟩
        exact HX.out f' _ _ ⟨ls ++ [x], by simp; omega, s', H', p0, p1, p2, p3, by rw [HJ.out, List.length_append, List.length_singleton, show (a + ((ls.length + 1 : Nat) : Int)) = a + ls.length + 1 from by omega], HN.out, by rw [p10]; exact HO.out⟩ (by rw [p10, k10]; simp only; omega)
      · rw [if_neg he]
        have hz1 : (e != 0) = true := by simpa using he
        refine Lg.code fun K hK y τ n' hy => ?_
        subst hy
        have hn := HN.out.re hk
        have hout := HO.out.re
        clear HN HO
        have HN := Lib.hid hn
        have HO := Lib.hid hout
        clear hn hout
        go_wp2
        refine hK _ _ (fun _ => rfl) ?_
        clear hK K
        refine Lg.move _ (fun _ _ => step_cond (t := true) rfl) (fun h => h) ?_
        by_cases hls : ls = []
        · subst hls
          rw [if_pos rfl]
          refine Lg.move _ (fun _ _ => step_seq) (fun h => h) ?_
          refine Lg.move _ (fun _ _ => step_seq) (fun h => h) ?_
          refine Lg.code fun K hK y τ n' hy => ?_
          subst hy
          have hn := HN.out.re hk
          have hout := HO.out.re
          clear HN HO
          have HN := Lib.hid hn
          have HO := Lib.hid hout
          clear hn hout
          go_wp2
          refine hK _ _ (fun _ => rfl) ?_
          clear hK K
          refine Lg.move _ (fun _ _ => step_cond (t := true) rfl) (fun h => h) ?_
          refine Lg.move _ (fun _ _ => step_seq) (fun h => h) ?_
          refine Lg.code fun K hK y τ n' hy => ?_
          subst hy
          have hn := HN.out.re hk
          have hout := HO.out.re
          clear HN HO
          have HN := Lib.hid hn
          have HO := Lib.hid hout
          clear hn hout
          go_wp2
          refine hK _ _ (fun _ => rfl) ?_
          clear hK K
          refine Lg.move _ (fun _ _ => step_ret) (fun h => h) ?_
          exact Lg.leave rfl Try.func28 rfl (v := .tuple #[.slice none 0 0, .int .i64 e]) (fun _ _ _ _ => by simp [results, Try.f28]) (HR.out _ _ _ ⟨[], e, _, _, _, rfl, rfl, HN.out, OutRow.nil⟩)
        · rw [if_neg hls]
          have hne : ((ls.length : Int) == 0) = false := by
            have := List.length_pos_iff.2 hls
            simp only [beq_eq_false_iff_ne]; omega
          refine Lg.move _ (fun _ _ => step_seq) (fun h => h) ?_
          refine Lg.code fun K hK y τ n' hy => ?_
          subst hy
          have hn := HN.out.re hk
          have hout := HO.out.re
          clear HN HO
          have HN := Lib.hid hn
          have HO := Lib.hid hout
          clear hn hout
          go_wp2
          refine hK _ _ (fun _ => rfl) ?_
          clear hK K
          refine Lg.move _ (fun _ _ => step_exit rfl) (fun h => h) ?_
          refine Lg.move _ (fun _ _ => step_seq) (fun h => h) ?_
          refine Lg.code fun K hK y τ n' hy => ?_
          subst hy
          have hn := HN.out.re hk
          have hout := HO.out.re
          clear HN HO
          have HN := Lib.hid hn
          have HO := Lib.hid hout
          clear hn hout
          go_wp2
          refine hK _ _ (fun _ => rfl) ?_
          clear hK K
          refine Lg.move _ (fun _ _ => step_ret) (fun h => h) ?_
          exact Lg.leave rfl Try.func28 rfl (v := .tuple #[.slice oA ls.length oc, .int .i64 0]) (fun _ _ _ _ => by simp [results, Try.f28]) (HR.out _ _ _ ⟨_, _, _, _, _, rfl, rfl, HN.out, HO.out⟩)
  · have ej : min m.toNat rn - ls.length = 0 := by omega
    rw [ej, show gathT l rn 0 (a + ls.length) ls s k = k ls 0 s from rfl]
    refine Lg.code fun K hK y τ n' hy => ?_
    subst hy
    have hn := HN.out.re hk
    have hr := (R.at_ _ _ _ hn.rep).r.ring
    have hout := HO.out.re
    clear HN HO
    have HN := Lib.hid hn
    have HO := Lib.hid hout
    clear hn hout
    by_cases hlm : (ls.length : Int) < m
    · have hlr : ¬ ls.length < rn := by omega
      go_wp2_with (go_at_call 14; refine (size_ring _ _ rn _ _ hr).mono ?_; rintro e w' ⟨rfl, rfl⟩)
      refine hK _ _ (fun _ => rfl) ?_
      clear hK K hr
      refine Lg.move _ (fun _ _ => step_cond (t := false) rfl) (fun h => h) ?_
      refine Lg.move _ (fun _ _ => step_exit rfl) (fun h => h) ?_
      refine Lg.move _ (fun _ _ => step_seq) (fun h => h) ?_
      refine Lg.code fun K hK y τ n' hy => ?_
      subst hy
      have hn := HN.out.re hk
      have hout := HO.out.re
      clear HN HO
      have HN := Lib.hid hn
      have HO := Lib.hid hout
      clear hn hout
      go_wp2
      refine hK _ _ (fun _ => rfl) ?_
      clear hK K
      refine Lg.move _ (fun _ _ => step_ret) (fun h => h) ?_
      exact Lg.leave rfl Try.func28 rfl (v := .tuple #[.slice oA ls.length oc, .int .i64 0]) (fun _ _ _ _ => by simp [results, Try.f28]) (HR.out _ _ _ ⟨_, _, _, _, _, rfl, rfl, HN.out, HO.out⟩)
    · go_wp2_with (go_at_call 14; refine (size_ring _ _ rn _ _ hr).mono ?_; rintro e w' ⟨rfl, rfl⟩)
      refine hK _ _ (fun _ => rfl) ?_
      clear hK K hr
      refine Lg.move _ (fun _ _ => step_cond (t := false) rfl) (fun h => h) ?_
      refine Lg.move _ (fun _ _ => step_exit rfl) (fun h => h) ?_
      refine Lg.move _ (fun _ _ => step_seq) (fun h => h) ?_
      refine Lg.code fun K hK y τ n' hy => ?_
      subst hy
      have hn := HN.out.re hk
      have hout := HO.out.re
      clear HN HO
      have HN := Lib.hid hn
      have HO := Lib.hid hout
      clear hn hout
      go_wp2
      refine hK _ _ (fun _ => rfl) ?_
      clear hK K
      refine Lg.move _ (fun _ _ => step_ret) (fun h => h) ?_
      exact Lg.leave rfl Try.func28 rfl (v := .tuple #[.slice oA ls.length oc, .int .i64 0]) (fun _ _ _ _ => by simp [results, Try.f28]) (HR.out _ _ _ ⟨_, _, _, _, _, rfl, rfl, HN.out, HO.out⟩)
end Go.Proofs.Yteainbnoemkfcaa
namespace Go.Proofs.Yteainbnoemkfcaa
open Go.RowKit Go.Turn Go.Tame Go.Conc
def InB (q : Int) : Prop := 0 ≤ q ∧ q < 4611686018427387904
instance (q : Int) : Decidable (InB q) := inferInstanceAs (Decidable (_ ∧ _))
section
variable {A R : Type} (l : RLens A) (n : Nat)
def putG (q v : Int) (s : A × R) (k : Int → A × R → Tree (A × R) (A × R)) : Tree (A × R) (A × R) := if InB q then putT l n q v s (k 0) else k 1 s
def getG (q : Int) (s : A × R) (k : Int → Int → A × R → Tree (A × R) (A × R)) : Tree (A × R) (A × R) := if InB q then getT l n q s k else k 0 1 s
def thereG (q : Int) (s : A × R) (k : Bool → A × R → Tree (A × R) (A × R)) : Tree (A × R) (A × R) := if InB q then thereT l n q s k else k false s
def highG (a b : Int) (s : A × R) (k : Int → A × R → Tree (A × R) (A × R)) : Tree (A × R) (A × R) := if InB a ∧ a ≤ b then highT l n (highN n a b) a s k else k (pre64 a) s
def gathG (a m : Int) (s : A × R) (k : List Int → Int → A × R → Tree (A × R) (A × R)) : Tree (A × R) (A × R) := if InB a then gathT l n (min m.toNat n) a [] s k else k [] 1 s
end
theorem highest_less (a : Addr) (sa : Option Addr) (n c : Nat) (S : Value) (q t : Int) (w : World) (h : w.cell? a = some (.slice sa n c)) (hn : 0 < n) (h0 : 0 ≤ q) (h1 : q < 4611686018427387904) (hlt : t < q) :
    Calls Try.prog 27 #[.pointer (some a), S, .int .i64 q, .int .i64 t] w fun e w' => e = .returned (.int .i64 (pre64 q)) ∧ w = w' := by
  have hb : (q == -9223372036854775808) = false := by simp only [beq_eq_false_iff_ne]; omega
  have hp : pre64 q = q - 1 := if_neg (by omega)
  rw [hp]
  clear hp
  go_enter Try.func27, Try.ntmps27
  go_wp2_with (go_at_call 38; refine (good_yes a sa n c q w h hn h0 h1).mono ?_; rintro e w' ⟨rfl, rfl⟩)
  go_ret
  exact ⟨rfl, rfl⟩
theorem bad_at (a : Addr) (sa : Option Addr) (n c : Nat) (q : Int) (w : World) (h : w.cell? a = some (.slice sa n c)) (hq : ¬ InB q) : BadAt (some a) q w := by
  by_cases h0 : q < 0
  · exact bad_low a sa n c q w h h0
  · exact bad_high a sa n c q w h (by unfold InB at hq; omega)
theorem put_any {D : OpsD} {l : RLens D.A} {rb sb rn : Nat} (R : RingIn D l rb sb rn) {L : Lg Try.prog (Tree D.St D.St)} {Cap : (Nat → Prop) → World → Prop} {V : Value} (hk : CapK Cap) (hS : SStep D L Cap 40 V) (hrn : 0 < rn) (h2 : rn ≤ 65536) (H0 : Nat → Prop) (w0 : World) (s : D.St) (H : Nat → Prop) (w : World) (hn : Now D Cap H0 w0 s H w) (q v : Int) (k : Int → D.St → Tree D.St D.St) : Ccalls L 23 #[.pointer (some ⟨rb, 0, none⟩), V, .int .i64 q, .int .i64 v] (putG l rn q v s k) w fun u t' w' => ∃ e s' H', u = .int .i64 e ∧ t' = k e s' ∧ Now D Cap H0 w0 s' H' w' := by
  by_cases hq : InB q
  · rw [show putG l rn q v s k = putT l rn q v s (k 0) from if_pos hq]
    exact (slots_put R hk hS hrn h2 q v hq.1 hq.2 H0 w0 s H _ w hn).mono fun u t' w' ⟨e, s', H', h1, h2⟩ => ⟨0, s', H', e, h1, h2⟩
  · rw [show putG l rn q v s k = k 1 s from if_neg hq]
    refine ccalls_lone fun y τ n' hy => ?_
    subst hy
    have hn := hn.re hk
    have hb := bad_at ⟨rb, 0, none⟩ _ _ _ q y (R.at_ _ _ _ hn.rep).r.ring hq
    exact (put_bad hb V v).mono fun e w' ⟨h1, h2⟩ => ⟨_, h1, 1, s, H, rfl, rfl, h2 ▸ hn⟩
theorem get_any {D : OpsD} {l : RLens D.A} {rb sb rn : Nat} (R : RingIn D l rb sb rn) {L : Lg Try.prog (Tree D.St D.St)} {Cap : (Nat → Prop) → World → Prop} {V : Value} (hk : CapK Cap) (hS : SStep D L Cap 40 V) (hrn : 0 < rn) (h2 : rn ≤ 65536) (H0 : Nat → Prop) (w0 : World) (s : D.St) (H : Nat → Prop) (w : World) (hn : Now D Cap H0 w0 s H w) (q : Int) (k : Int → Int → D.St → Tree D.St D.St) : Ccalls L 25 #[.pointer (some ⟨rb, 0, none⟩), V, .int .i64 q] (getG l rn q s k) w fun u t' w' => ∃ x e s' H', u = .tuple #[.int .i64 x, .int .i64 e] ∧ t' = k x e s' ∧ Now D Cap H0 w0 s' H' w' := by
  by_cases hq : InB q
  · rw [show getG l rn q s k = getT l rn q s k from if_pos hq]
    exact slots_get R hk hS hrn h2 q hq.1 hq.2 H0 w0 s H _ w hn
  · rw [show getG l rn q s k = k 0 1 s from if_neg hq]
    refine ccalls_lone fun y τ n' hy => ?_
    subst hy
    have hn := hn.re hk
    have hb := bad_at ⟨rb, 0, none⟩ _ _ _ q y (R.at_ _ _ _ hn.rep).r.ring hq
    exact (get_bad hb V).mono fun e w' ⟨h1, h2⟩ => ⟨_, h1, 0, 1, s, H, rfl, rfl, h2 ▸ hn⟩
theorem there_any {D : OpsD} {l : RLens D.A} {rb sb rn : Nat} (R : RingIn D l rb sb rn) {L : Lg Try.prog (Tree D.St D.St)} {Cap : (Nat → Prop) → World → Prop} {V : Value} (hk : CapK Cap) (hS : SStep D L Cap 40 V) (hrn : 0 < rn) (h2 : rn ≤ 65536) (H0 : Nat → Prop) (w0 : World) (s : D.St) (H : Nat → Prop) (w : World) (hn : Now D Cap H0 w0 s H w) (q : Int) (k : Bool → D.St → Tree D.St D.St) : Ccalls L 26 #[.pointer (some ⟨rb, 0, none⟩), V, .int .i64 q] (thereG l rn q s k) w fun u t' w' => ∃ b s' H', u = .bool b ∧ t' = k b s' ∧ Now D Cap H0 w0 s' H' w' := by
  by_cases hq : InB q
  · rw [show thereG l rn q s k = thereT l rn q s k from if_pos hq]
    exact slots_there R hk hS hrn h2 q hq.1 hq.2 H0 w0 s H _ w hn
  · rw [show thereG l rn q s k = k false s from if_neg hq]
    refine ccalls_lone fun y τ n' hy => ?_
    subst hy
    have hn := hn.re hk
    have hb := bad_at ⟨rb, 0, none⟩ _ _ _ q y (R.at_ _ _ _ hn.rep).r.ring hq
    exact (there_bad hb V).mono fun e w' ⟨h1, h2⟩ => ⟨_, h1, false, s, H, rfl, rfl, h2 ▸ hn⟩
theorem high_any {D : OpsD} {l : RLens D.A} {rb sb rn : Nat} (R : RingIn D l rb sb rn) {L : Lg Try.prog (Tree D.St D.St)} {Cap : (Nat → Prop) → World → Prop} {V : Value} (hk : CapK Cap) (hS : SStep D L Cap 40 V) (hrn : 0 < rn) (h2 : rn ≤ 65536) (H0 : Nat → Prop) (w0 : World) (s : D.St) (H : Nat → Prop) (w : World) (hn : Now D Cap H0 w0 s H w) (q b : Int) (hq0 : -9223372036854775808 ≤ q) (hq1 : q < 9223372036854775808) (hb1 : b < 9223372036854775808) (k : Int → D.St → Tree D.St D.St) : Ccalls L 27 #[.pointer (some ⟨rb, 0, none⟩), V, .int .i64 q, .int .i64 b] (highG l rn q b s k) w fun u t' w' => ∃ x s' H', u = .int .i64 x ∧ t' = k x s' ∧ Now D Cap H0 w0 s' H' w' := by
  by_cases hq : InB q
  · by_cases hab : q ≤ b
    · rw [show highG l rn q b s k = highT l rn (highN rn q b) q s k from if_pos ⟨hq, hab⟩]
      exact slots_highest R hk hS hrn h2 q b hq.1 hq.2 hab hb1 H0 w0 s H _ w hn
    · rw [show highG l rn q b s k = k (pre64 q) s from if_neg (fun z => hab z.2)]
      refine ccalls_lone fun y τ n' hy => ?_
      subst hy
      have hn := hn.re hk
      exact (highest_less ⟨rb, 0, none⟩ _ rn rn V q b y (R.at_ _ _ _ hn.rep).r.ring hrn hq.1 hq.2 (by omega)).mono fun e w' ⟨h1, h2⟩ => ⟨_, h1, _, s, H, rfl, rfl, h2 ▸ hn⟩
  · rw [show highG l rn q b s k = k (pre64 q) s from if_neg (fun z => hq z.1)]
    refine ccalls_lone fun y τ n' hy => ?_
    subst hy
    have hn := hn.re hk
    have hb := bad_at ⟨rb, 0, none⟩ _ _ _ q y (R.at_ _ _ _ hn.rep).r.ring hq
    exact (highest_bad hb V b hq0 hq1).mono fun e w' ⟨h1, h2⟩ => ⟨_, h1, _, s, H, rfl, rfl, h2 ▸ hn⟩
theorem gath_any {D : OpsD} {l : RLens D.A} {rb sb rn : Nat} (R : RingIn D l rb sb rn) {L : Lg Try.prog (Tree D.St D.St)} {Cap : (Nat → Prop) → World → Prop} {V : Value} (hk : CapK Cap) (hS : SStep D L Cap 40 V) (hrn : 0 < rn) (h2 : rn ≤ 65536) (H0 : Nat → Prop) (w0 : World) (s : D.St) (H : Nat → Prop) (w : World) (hn : Now D Cap H0 w0 s H w) (q m : Int) (k : List Int → Int → D.St → Tree D.St D.St) : Ccalls L 28 #[.pointer (some ⟨rb, 0, none⟩), V, .int .i64 q, .int .i64 m] (gathG l rn q m s k) w fun u t' w' => ∃ ls e v s' H', u = .tuple #[v, .int .i64 e] ∧ t' = k ls e s' ∧ Now D Cap H0 w0 s' H' w' ∧ OutRow D w0 H' w' v ls := by
  by_cases hq : InB q
  · rw [show gathG l rn q m s k = gathT l rn (min m.toNat rn) q [] s k from if_pos hq]
    exact slots_gather R hk hS hrn h2 q m hq.1 hq.2 H0 w0 s H _ w hn
  · rw [show gathG l rn q m s k = k [] 1 s from if_neg hq]
    refine ccalls_lone fun y τ n' hy => ?_
    subst hy
    have hn := hn.re hk
    have hb := bad_at ⟨rb, 0, none⟩ _ _ _ q y (R.at_ _ _ _ hn.rep).r.ring hq
    exact (gather_bad hb V m).mono fun e w' ⟨h1, h2⟩ => ⟨_, h1, [], 1, _, s, H, rfl, rfl, h2 ▸ hn, OutRow.nil⟩
end Go.Proofs.Yteainbnoemkfcaa
namespace Go.Proofs.Yteainbnoemkfcaa
open Go.RowKit Go.Turn Go.Tame Go.Conc
def GI (o : OpI) : Prop := -9223372036854775808 ≤ o.a ∧ o.a < 9223372036854775808 ∧ o.b < 9223372036854775808
def doG (rn : Nat) : DoQ RSt := fun o st k =>
  if o.kind = 1 then putG idL rn o.a o.b st fun e s => k ⟨e == 0, e, []⟩ s
  else if o.kind = 2 then getG idL rn o.a st fun x e s => k ⟨e == 0, wrap64 (e + x), []⟩ s
  else if o.kind = 3 then thereG idL rn o.a st fun b s => k ⟨b, 0, []⟩ s
  else if o.kind = 4 then highG idL rn o.a o.b st fun x s => k ⟨true, x, []⟩ s
  else if o.kind = 5 then gathG idL rn o.a o.b st fun ls e s => k ⟨e == 0, e, ls⟩ s
  else k ⟨false, 0, []⟩ st
theorem OutRow.far {D : OpsD} {w0 w : World} {H : Nat → Prop} {v : Value} {ls : List Int} {b8 : Nat} {cs : Array Value} (h : OutRow D w0 H w v ls) (hb : Blk w b8 46 cs) (i : Nat) (u : Value) : OutRow D w0 H (w.setCell ⟨b8, i, none⟩ u) v ls :=
  ⟨own_same h.own fun b hb' => Below.heap_setCell _ _ _ _ fun e => by
    obtain ⟨_, cur, k⟩ := h.blk hb'
    exact blk_ne (show Blk w b _ _ from k) hb (by decide) e, h.nh⟩
set_option maxHeartbeats 4000000 in
set_option maxRecDepth 100000 in
theorem ring_doG (B : OpsB) (rb sb rn : Nat) (hrn : 0 < rn) (h2 : rn ≤ 65536) (i : Nat) : DoLaw (B.ring rb sb rn GI) i (doG rn) 32 #[.pointer (some ⟨rb, 0, none⟩)] #[] := by
  intro tb L Cap hre hk hst o st H k w hgood hrep hcap
  have hS := slots_sstep hre hk hst
  have hn : Now (B.ring rb sb rn GI) Cap H w st H w := ⟨hrep, hcap, Held.refl _ _⟩
  generalize (Value.iface 116 (.pointer (some ⟨tb, 0, none⟩))) = V at hS ⊢
  suffices hmain : ∀ w0 H0, w0.heap.size = w.heap.size → Now (B.ring rb sb rn GI) Cap H0 w0 st H w → Ccalls L 32 #[.pointer (some ⟨rb, 0, none⟩), V, .int .i64 i, o.val] (doG rn o st k) w fun v t' w' => ∃ a st' H' lv, t' = k a st' ∧ v = .agg #[.bool a.ok, .int .i64 a.n, lv] ∧ RepO (B.ring rb sb rn GI) st' H' w' ∧ Held H0 w0 H' w' ∧ w'.ownsRow w0.heap.size 2 1 lv a.ls.length (a.ls.map (Value.int .i64)) ∧ ∀ b, lv.ownBlock = some b → ¬ H' b from hmain w H rfl hn
  clear hrep hcap hn
  intro w0 H0 hsz hn c mid hR
  clear hsz
  have HR := Lib.hid hR
  have HN := Lib.hid hn
  clear hR hn
  obtain ⟨ha0, ha1, hb1⟩ := hgood
  obtain ⟨kd, oa, ob, oc⟩ := o
  rw [show Frame.enter Try.prog 32 #[.pointer (some ⟨rb, 0, none⟩), V, .int .i64 i, OpI.val ⟨kd, oa, ob, oc⟩] .normal = Frame.at { (default : Frame) with fn := 32, kind := .normal } ⟨#[.pointer (some ⟨rb, 0, none⟩), V, .int .i64 i, .agg #[.int .i64 kd, .int .i64 oa, .int .i64 ob, .int .i64 oc]] ++ Array.replicate (Try.f32.ntmps - 4) undef, []⟩ [.code (Try.f32.body.getD .skip)] from by simp [Frame.enter, Frame.at, Try.func32]; exact ⟨rfl, rfl⟩]
  simp only [Try.f32, Option.getD_some, Nat.reduceSub, Array.replicate_succ, Array.replicate_zero, List.push_toArray, List.append_toArray, List.nil_append, List.cons_append]
  refine Lg.move _ (fun _ _ => step_seq) (fun h => h) ?_
  refine Lg.code fun K hK y τ n' hy => ?_
  subst hy
  have hn := HN.out.re hk
  clear HN
  have HN := Lib.hid hn
  clear hn
  go_wp2
  refine hK _ _ (fun _ => rfl) ?_
  clear hK K
  have hb7 := (HN.out.own 49 #[.int .i64 kd, .int .i64 oa, .int .i64 ob, .int .i64 oc]).alloc (.cells #[.bool false, .int .i64 0, .slice none 0 0] 46)
  have hb8 := (HN.out.alloc (.cells #[.int .i64 kd, .int .i64 oa, .int .i64 ob, .int .i64 oc] 49)).own 46 #[.bool false, .int .i64 0, .slice none 0 0]
  have hn := (HN.out.alloc (.cells #[.int .i64 kd, .int .i64 oa, .int .i64 ob, .int .i64 oc] 49)).alloc (.cells #[.bool false, .int .i64 0, .slice none 0 0] 46)
  rw [show (y.alloc (.cells #[.int .i64 kd, .int .i64 oa, .int .i64 ob, .int .i64 oc] 49)).heap.size = y.heap.size + 1 from by simp] at hb8
  clear HN
  generalize (y.alloc (.cells #[.int .i64 kd, .int .i64 oa, .int .i64 ob, .int .i64 oc] 49)).alloc (.cells #[.bool false, .int .i64 0, .slice none 0 0] 46) = z at hn hb7 hb8 ⊢
  have hne : y.heap.size ≠ y.heap.size + 1 := by omega
  generalize y.heap.size + 1 = b8 at hb8 hne ⊢
  generalize y.heap.size = b7 at hb7 hne ⊢
  have HN := Lib.hid hn
  have HB7 := Lib.hid hb7
  have HB8 := Lib.hid hb8
  clear hn hb7 hb8
  refine Lg.move _ (fun _ _ => step_seq) (fun h => h) ?_
  refine Lg.code fun K hK y τ n' hy => ?_
  subst hy
  have hn := HN.out.re hk
  have hb7 := HB7.out.re
  have hb8 := HB8.out.re
  clear HN HB7 HB8
  have HN := Lib.hid hn
  have HB7 := Lib.hid hb7
  have HB8 := Lib.hid hb8
  clear hn hb7 hb8
  go_wp2
  refine hK _ _ (fun _ => rfl) ?_
  clear hK K
  refine Lg.move _ (fun _ _ => step_seq) (fun h => h) ?_
  refine Lg.move _ (fun _ _ => step_seq) (fun h => h) ?_
  refine Lg.code fun K hK y τ n' hy => ?_
  subst hy
  have hn := HN.out.re hk
  have hb7 := HB7.out.re
  have hb8 := HB8.out.re
  clear HN HB7 HB8
  have o0 := hb7.blk.cell 0
  have HN := Lib.hid hn
  have HB7 := Lib.hid hb7
  have HB8 := Lib.hid hb8
  clear hn hb7 hb8
  go_wp2
  refine hK _ _ (fun _ => rfl) ?_
  clear hK K o0
  refine Lg.move _ (fun _ _ => step_block) (fun h => h) ?_
  by_cases q1 : kd = 1
  · subst q1
    rw [show doG rn ⟨1, oa, ob, oc⟩ st k = putG idL rn oa ob st fun e s => k ⟨e == 0, e, []⟩ s from if_pos rfl]
    refine Lg.move _ (fun _ _ => step_seq) (fun h => h) ?_
    refine Lg.code fun K hK y τ n' hy => ?_
    subst hy
    have hn := HN.out.re hk
    have hb7 := HB7.out.re
    have hb8 := HB8.out.re
    clear HN HB7 HB8
    have HN := Lib.hid hn
    have HB7 := Lib.hid hb7
    have HB8 := Lib.hid hb8
    clear hn hb7 hb8
    go_wp2
    refine hK _ _ (fun _ => rfl) ?_
    clear hK K
    refine Lg.move _ (fun _ _ => step_cond (t := true) rfl) (fun h => h) ?_
    refine Lg.move _ (fun _ _ => step_seq) (fun h => h) ?_
    refine Lg.move _ (fun _ _ => step_region) (fun h => h) ?_
    refine Lg.pre 0 6 3 (by simp) fun K hK z τ n' hz => ?_
    subst hz
    have hn := HN.out.re hk
    have hb7 := HB7.out.re
    have hb8 := HB8.out.re
    clear HN HB7 HB8
    have o1 := hb7.blk.cell 1
    have o2 := hb7.blk.cell 2
    have HN := Lib.hid hn
    have HB7 := Lib.hid hb7
    have HB8 := Lib.hid hb8
    clear hn hb7 hb8
    simp only [List.drop_zero, List.take_succ_cons, List.take_zero]
    go_wp2
    refine hK _ _ (fun _ => rfl) ?_
    clear hK K o1 o2
    refine Lg.call (i := 6) (rest := [7, 8]) (f := 23) (args := #[.pointer (some ⟨rb, 0, none⟩), V, .int .i64 oa, .int .i64 ob]) rfl rfl (fun y => by go_simp) (put_any (ring_in B rb sb rn GI) hk hS hrn h2 H z st H z (HN.out.here hk) oa ob _) ?_
    rintro vv t' w' ⟨e, s', H', rfl, rfl, hn'⟩
    have hb7 := HB7.out.held hn'.held
    have hb8 := HB8.out.held hn'.held
    have hn := HN.out.on hn'
    clear HN HB7 HB8 hn'
    have HN := Lib.hid hn
    have HB7 := Lib.hid hb7
    have HB8 := Lib.hid hb8
    clear hn hb7 hb8
    rw [Frame.finish_at]
    walk_nrm
    refine (show L.T _ (Frame.at _ ⟨_, []⟩ (.inRegion _ (List.range' 7 (2 + 0)) :: _)) (c :: mid) w' from ?_)
    refine Lg.pre 7 2 0 (by simp) fun K hK z τ n' hz => ?_
    subst hz
    have hn := HN.out.re hk
    have hb7 := HB7.out.re
    have hb8 := HB8.out.re
    clear HN HB7 HB8
    have HN := Lib.hid hn
    have HB7 := Lib.hid hb7
    have HB8 := Lib.hid hb8
    clear hn hb7 hb8
    simp only [List.drop_succ_cons, List.drop_zero, List.take_succ_cons, List.take_zero]
    go_wp2_with (go_at_call 43; refine (told_any e _).mono ?_; rintro e' w' ⟨rfl, hkept⟩; have hn := HN.out.kept hkept; have hb8 := HB8.out.kept hkept; have z0 := hb8.blk.frozen 0; have z1 := hb8.blk.frozen 1; have z2 := hb8.blk.frozen 2; have o0 := hb8.blk.cell 0; have o1 := hb8.blk.cell 1; have o2 := hb8.blk.cell 2; simp at o0 o1 o2)
    refine hK _ _ (fun _ => rfl) ?_
    clear hK K
    clear HN HB7 HB8 o0 o1 o2 z0 z1 z2
    have hout : OutRow (B.ring rb sb rn GI) w0 H' w' (.slice none 0 0) [] := OutRow.nil
    have hbb := ((hb8.set_ 0 (.bool (e == 0))).set_ 1 (.int .i64 (e))).set_ 2 (.slice none 0 0)
    have hnn := ((hn.set_ hb8 0 (.bool (e == 0))).set_ (hb8.set_ 0 (.bool (e == 0))) 1 (.int .i64 (e))).set_ ((hb8.set_ 0 (.bool (e == 0))).set_ 1 (.int .i64 (e))) 2 (.slice none 0 0)
    have hoo : OutRow (B.ring rb sb rn GI) w0 _ _ (.slice none 0 0) ([]) := (hout.far hb8.blk 0 (.bool (e == 0))).far (hb8.set_ 0 (.bool (e == 0))).blk 1 (.int .i64 (e)) |>.far ((hb8.set_ 0 (.bool (e == 0))).set_ 1 (.int .i64 (e))).blk 2 (.slice none 0 0)
    simp only [List.setIfInBounds_toArray, List.set_cons_zero, List.set_cons_succ] at hbb
    generalize World.setCell _ _ _ = w6 at hbb hnn hoo ⊢
    clear hn hb8 hout
    refine Lg.move _ (fun _ _ => step_region_end) (fun h => h) ?_
    refine Lg.move _ (fun _ _ => step_ret) (fun h => h) ?_
    refine Lg.leave rfl Try.func32 rfl (v := .agg #[.bool (e == 0), .int .i64 (e), .slice none 0 0]) (fun y τ n hy => ?_) (HR.out _ _ _ ⟨⟨e == 0, e, []⟩, _, _, _, rfl, rfl, hnn.rep, hnn.held, hoo.own, fun b hb => (hoo.nh b hb).1⟩)
    have c0 : y.cell? ⟨b8, 0, none⟩ = some (.bool (e == 0)) := by have := hbb.blk.cell 0; rw [hy] at this; exact this
    have c1 : y.cell? ⟨b8, 1, none⟩ = some (.int .i64 (e)) := by have := hbb.blk.cell 1; rw [hy] at this; exact this
    have c2 : y.cell? ⟨b8, 2, none⟩ = some (.slice none 0 0) := by have := hbb.blk.cell 2; rw [hy] at this; exact this
    simp [results, Try.f32, go_sem, c0, c1, c2]
  have q1b : (kd == 1) = false := by simpa using q1
  refine Lg.move _ (fun _ _ => step_seq) (fun h => h) ?_
  refine Lg.code fun K hK y τ n' hy => ?_
  subst hy
  have hn := HN.out.re hk
  have hb7 := HB7.out.re
  have hb8 := HB8.out.re
  clear HN HB7 HB8
  have HN := Lib.hid hn
  have HB7 := Lib.hid hb7
  have HB8 := Lib.hid hb8
  clear hn hb7 hb8
  go_wp2
  refine hK _ _ (fun _ => rfl) ?_
  clear hK K
  refine Lg.move _ (fun _ _ => step_cond (t := false) rfl) (fun h => h) ?_
  by_cases q2 : kd = 2
  · subst q2
    rw [show doG rn ⟨2, oa, ob, oc⟩ st k = getG idL rn oa st fun x e s => k ⟨e == 0, wrap64 (e + x), []⟩ s from (if_neg (show ¬ (2 : Int) = 1 by decide)).trans (if_pos rfl)]
    refine Lg.move _ (fun _ _ => step_seq) (fun h => h) ?_
    refine Lg.code fun K hK y τ n' hy => ?_
    subst hy
    have hn := HN.out.re hk
    have hb7 := HB7.out.re
    have hb8 := HB8.out.re
    clear HN HB7 HB8
    have HN := Lib.hid hn
    have HB7 := Lib.hid hb7
    have HB8 := Lib.hid hb8
    clear hn hb7 hb8
    go_wp2
    refine hK _ _ (fun _ => rfl) ?_
    clear hK K
    refine Lg.move _ (fun _ _ => step_cond (t := true) rfl) (fun h => h) ?_
    refine Lg.move _ (fun _ _ => step_seq) (fun h => h) ?_
    refine Lg.move _ (fun _ _ => step_region) (fun h => h) ?_
    refine Lg.pre 0 4 6 (by simp) fun K hK z τ n' hz => ?_
    subst hz
    have hn := HN.out.re hk
    have hb7 := HB7.out.re
    have hb8 := HB8.out.re
    clear HN HB7 HB8
    have o1 := hb7.blk.cell 1
    have HN := Lib.hid hn
    have HB7 := Lib.hid hb7
    have HB8 := Lib.hid hb8
    clear hn hb7 hb8
    simp only [List.drop_zero, List.take_succ_cons, List.take_zero]
    go_wp2
    refine hK _ _ (fun _ => rfl) ?_
    clear hK K o1
    refine Lg.call (i := 4) (rest := [5, 6, 7, 8, 9]) (f := 25) (args := #[.pointer (some ⟨rb, 0, none⟩), V, .int .i64 oa]) rfl rfl (fun y => by go_simp) (get_any (ring_in B rb sb rn GI) hk hS hrn h2 H z st H z (HN.out.here hk) oa _) ?_
    rintro vv t' w' ⟨x, e, s', H', rfl, rfl, hn'⟩
    have hb7 := HB7.out.held hn'.held
    have hb8 := HB8.out.held hn'.held
    have hn := HN.out.on hn'
    clear HN HB7 HB8 hn'
    have HN := Lib.hid hn
    have HB7 := Lib.hid hb7
    have HB8 := Lib.hid hb8
    clear hn hb7 hb8
    rw [Frame.finish_at]
    walk_nrm
    refine (show L.T _ (Frame.at _ ⟨_, []⟩ (.inRegion _ (List.range' 5 (5 + 0)) :: _)) (c :: mid) w' from ?_)
    refine Lg.pre 5 5 0 (by simp) fun K hK z τ n' hz => ?_
    subst hz
    have hn := HN.out.re hk
    have hb7 := HB7.out.re
    have hb8 := HB8.out.re
    clear HN HB7 HB8
    have HN := Lib.hid hn
    have HB7 := Lib.hid hb7
    have HB8 := Lib.hid hb8
    clear hn hb7 hb8
    simp only [List.drop_succ_cons, List.drop_zero, List.take_succ_cons, List.take_zero]
    go_wp2
    refine hK _ _ (fun _ => rfl) ?_
    clear hK K
    refine Lg.move _ (fun _ _ => step_region_end) (fun h => h) ?_
    refine Lg.move _ (fun _ _ => step_seq) (fun h => h) ?_
    refine Lg.code fun K hK y τ n' hy => ?_
    subst hy
    have hn := HN.out.re hk
    have hb7 := HB7.out.re
    have hb8 := HB8.out.re
    clear HN HB7 HB8
    have HN := Lib.hid hn
    have HB7 := Lib.hid hb7
    have HB8 := Lib.hid hb8
    clear hn hb7 hb8
    go_wp2_with (go_at_call 43; refine (told_any e _).mono ?_; rintro e' w' ⟨rfl, hkept⟩)
    refine hK _ _ (fun _ => rfl) ?_
    clear hK K
    have hn0 := HN.out.kept hkept
    have hb80 := HB8.out.kept hkept
    have hne2 : b8 ≠ w'.heap.size := fun h => by have := hb80.blk.lt; omega
    have hb7 := hn0.own 46 #[.bool (e == 0), .int .i64 e, .slice none 0 0]
    have hb8 := hb80.alloc (.cells #[.bool (e == 0), .int .i64 e, .slice none 0 0] 46)
    have hn := hn0.alloc (.cells #[.bool (e == 0), .int .i64 e, .slice none 0 0] 46)
    clear hn0 hb80 HN HB7 HB8 hkept hne
    generalize w'.alloc (.cells #[.bool (e == 0), .int .i64 e, .slice none 0 0] 46) = v at hn hb7 hb8 ⊢
    generalize w'.heap.size = b7' at hb7 hne2 ⊢
    have HN := Lib.hid hn
    have HB7 := Lib.hid hb7
    have HB8 := Lib.hid hb8
    clear hn hb7 hb8
    refine Lg.move _ (fun _ _ => step_seq) (fun h => h) ?_
    refine Lg.code fun K hK y τ n' hy => ?_
    subst hy
    have hn := HN.out.re hk
    have hb7 := HB7.out.re
    have hb8 := HB8.out.re
    clear HN HB7 HB8
    have o1 := hb7.blk.cell 1
    have z1 := hb7.blk.frozen 1
    have HN := Lib.hid hn
    have HB7 := Lib.hid hb7
    have HB8 := Lib.hid hb8
    clear hn hb7 hb8
    go_wp2
    refine hK _ _ (fun _ => rfl) ?_
    clear hK K o1 z1
    have hn := HN.out.set_ HB7.out 1 (.int .i64 (wrap64 (e + x)))
    have hb8 := HB8.out.far hne2 1 (.int .i64 (wrap64 (e + x)))
    have hb7 := HB7.out.set_ 1 (.int .i64 (wrap64 (e + x)))
    simp only [List.setIfInBounds_toArray, List.set_cons_zero, List.set_cons_succ] at hb7
    clear HN HB7 HB8
    generalize World.setCell _ _ _ = y' at hn hb7 hb8 ⊢
    have HN := Lib.hid hn
    have HB7 := Lib.hid hb7
    have HB8 := Lib.hid hb8
    clear hn hb7 hb8
    refine Lg.move _ (fun _ _ => step_seq) (fun h => h) ?_
    refine Lg.move _ (fun _ _ => step_region) (fun h => h) ?_
    refine Lg.pre 0 2 0 (by simp) fun K hK y τ n' hy => ?_
    subst hy
    have hn := HN.out.re hk
    have hb7 := HB7.out.re
    have hb8 := HB8.out.re
    clear HN HB7 HB8
    have p0 := hb7.blk.cell 0
    have p1 := hb7.blk.cell 1
    have p2 := hb7.blk.cell 2
    have o0 := hb8.blk.cell 0
    have o1 := hb8.blk.cell 1
    have o2 := hb8.blk.cell 2
    have z0 := hb8.blk.frozen 0
    have z1 := hb8.blk.frozen 1
    have z2 := hb8.blk.frozen 2
    simp at p0 p1 p2 o0 o1 o2
    simp only [List.drop_zero, List.take_succ_cons, List.take_zero]
    have HN := Lib.hid hn
    have HB8 := Lib.hid hb8
    clear hn hb7 hb8
    go_wp2
    refine hK _ _ (fun _ => rfl) ?_
    clear hK K o0 o1 o2 z0 z1 z2 p0 p1 p2
    have hn := HN.out
    have hb8 := HB8.out
    clear HN HB8
    have hout : OutRow (B.ring rb sb rn GI) w0 H' y (.slice none 0 0) [] := OutRow.nil
    have hbb := ((hb8.set_ 0 (.bool (e == 0))).set_ 1 (.int .i64 (wrap64 (e + x)))).set_ 2 (.slice none 0 0)
    have hnn := ((hn.set_ hb8 0 (.bool (e == 0))).set_ (hb8.set_ 0 (.bool (e == 0))) 1 (.int .i64 (wrap64 (e + x)))).set_ ((hb8.set_ 0 (.bool (e == 0))).set_ 1 (.int .i64 (wrap64 (e + x)))) 2 (.slice none 0 0)
    have hoo : OutRow (B.ring rb sb rn GI) w0 _ _ (.slice none 0 0) ([]) := (hout.far hb8.blk 0 (.bool (e == 0))).far (hb8.set_ 0 (.bool (e == 0))).blk 1 (.int .i64 (wrap64 (e + x))) |>.far ((hb8.set_ 0 (.bool (e == 0))).set_ 1 (.int .i64 (wrap64 (e + x)))).blk 2 (.slice none 0 0)
    simp only [List.setIfInBounds_toArray, List.set_cons_zero, List.set_cons_succ] at hbb
    generalize World.setCell _ _ _ = w6 at hbb hnn hoo ⊢
    clear hn hb8 hout
    refine Lg.move _ (fun _ _ => step_region_end) (fun h => h) ?_
    refine Lg.move _ (fun _ _ => step_ret) (fun h => h) ?_
    refine Lg.leave rfl Try.func32 rfl (v := .agg #[.bool (e == 0), .int .i64 (wrap64 (e + x)), .slice none 0 0]) (fun y τ n hy => ?_) (HR.out _ _ _ ⟨⟨e == 0, wrap64 (e + x), []⟩, _, _, _, rfl, rfl, hnn.rep, hnn.held, hoo.own, fun b hb => (hoo.nh b hb).1⟩)
    have c0 : y.cell? ⟨b8, 0, none⟩ = some (.bool (e == 0)) := by have := hbb.blk.cell 0; rw [hy] at this; exact this
    have c1 : y.cell? ⟨b8, 1, none⟩ = some (.int .i64 (wrap64 (e + x))) := by have := hbb.blk.cell 1; rw [hy] at this; exact this
    have c2 : y.cell? ⟨b8, 2, none⟩ = some (.slice none 0 0) := by have := hbb.blk.cell 2; rw [hy] at this; exact this
    simp [results, Try.f32, go_sem, c0, c1, c2]
  have q2b : (kd == 2) = false := by simpa using q2
  refine Lg.move _ (fun _ _ => step_seq) (fun h => h) ?_
  refine Lg.code fun K hK y τ n' hy => ?_
  subst hy
  have hn := HN.out.re hk
  have hb7 := HB7.out.re
  have hb8 := HB8.out.re
  clear HN HB7 HB8
  have HN := Lib.hid hn
  have HB7 := Lib.hid hb7
  have HB8 := Lib.hid hb8
  clear hn hb7 hb8
  go_wp2
  refine hK _ _ (fun _ => rfl) ?_
  clear hK K
  refine Lg.move _ (fun _ _ => step_cond (t := false) rfl) (fun h => h) ?_
  by_cases q3 : kd = 3
  · subst q3
    rw [show doG rn ⟨3, oa, ob, oc⟩ st k = thereG idL rn oa st fun b s => k ⟨b, 0, []⟩ s from (if_neg (show ¬ (3 : Int) = 1 by decide)).trans ((if_neg (show ¬ (3 : Int) = 2 by decide)).trans (if_pos rfl))]
    refine Lg.move _ (fun _ _ => step_seq) (fun h => h) ?_
    refine Lg.code fun K hK y τ n' hy => ?_
    subst hy
    have hn := HN.out.re hk
    have hb7 := HB7.out.re
    have hb8 := HB8.out.re
    clear HN HB7 HB8
    have HN := Lib.hid hn
    have HB7 := Lib.hid hb7
    have HB8 := Lib.hid hb8
    clear hn hb7 hb8
    go_wp2
    refine hK _ _ (fun _ => rfl) ?_
    clear hK K
    refine Lg.move _ (fun _ _ => step_cond (t := true) rfl) (fun h => h) ?_
    refine Lg.move _ (fun _ _ => step_seq) (fun h => h) ?_
    refine Lg.move _ (fun _ _ => step_region) (fun h => h) ?_
    refine Lg.pre 0 4 3 (by simp) fun K hK z τ n' hz => ?_
    subst hz
    have hn := HN.out.re hk
    have hb7 := HB7.out.re
    have hb8 := HB8.out.re
    clear HN HB7 HB8
    have o1 := hb7.blk.cell 1
    have o2 := hb7.blk.cell 2
    have HN := Lib.hid hn
    have HB7 := Lib.hid hb7
    have HB8 := Lib.hid hb8
    clear hn hb7 hb8
    simp only [List.drop_zero, List.take_succ_cons, List.take_zero]
    go_wp2
    refine hK _ _ (fun _ => rfl) ?_
    clear hK K o1 o2
    refine Lg.call (i := 4) (rest := [5, 6]) (f := 26) (args := #[.pointer (some ⟨rb, 0, none⟩), V, .int .i64 oa]) rfl rfl (fun y => by go_simp) (there_any (ring_in B rb sb rn GI) hk hS hrn h2 H z st H z (HN.out.here hk) oa _) ?_
    rintro vv t' w' ⟨bb, s', H', rfl, rfl, hn'⟩
    have hb7 := HB7.out.held hn'.held
    have hb8 := HB8.out.held hn'.held
    have hn := HN.out.on hn'
    clear HN HB7 HB8 hn'
    have HN := Lib.hid hn
    have HB7 := Lib.hid hb7
    have HB8 := Lib.hid hb8
    clear hn hb7 hb8
    rw [Frame.finish_at]
    walk_nrm
    refine (show L.T _ (Frame.at _ ⟨_, []⟩ (.inRegion _ (List.range' 5 (2 + 0)) :: _)) (c :: mid) w' from ?_)
    refine Lg.pre 5 2 0 (by simp) fun K hK z τ n' hz => ?_
    subst hz
    have hn := HN.out.re hk
    have hb7 := HB7.out.re
    have hb8 := HB8.out.re
    clear HN HB7 HB8
    have o0 := hb8.blk.cell 0
    have o1 := hb8.blk.cell 1
    have o2 := hb8.blk.cell 2
    have z0 := hb8.blk.frozen 0
    have z1 := hb8.blk.frozen 1
    have z2 := hb8.blk.frozen 2
    simp at o0 o1 o2
    have HN := Lib.hid hn
    have HB7 := Lib.hid hb7
    have HB8 := Lib.hid hb8
    clear hn hb7 hb8
    simp only [List.drop_succ_cons, List.drop_zero, List.take_succ_cons, List.take_zero]
    go_wp2
    refine hK _ _ (fun _ => rfl) ?_
    clear hK K o0 o1 o2 z0 z1 z2
    have hn := HN.out
    have hb8 := HB8.out
    clear HN HB7 HB8
    have hout : OutRow (B.ring rb sb rn GI) w0 H' z (.slice none 0 0) [] := OutRow.nil
    have hbb := ((hb8.set_ 0 (.bool (bb))).set_ 1 (.int .i64 (0))).set_ 2 (.slice none 0 0)
    have hnn := ((hn.set_ hb8 0 (.bool (bb))).set_ (hb8.set_ 0 (.bool (bb))) 1 (.int .i64 (0))).set_ ((hb8.set_ 0 (.bool (bb))).set_ 1 (.int .i64 (0))) 2 (.slice none 0 0)
    have hoo : OutRow (B.ring rb sb rn GI) w0 _ _ (.slice none 0 0) ([]) := (hout.far hb8.blk 0 (.bool (bb))).far (hb8.set_ 0 (.bool (bb))).blk 1 (.int .i64 (0)) |>.far ((hb8.set_ 0 (.bool (bb))).set_ 1 (.int .i64 (0))).blk 2 (.slice none 0 0)
    simp only [List.setIfInBounds_toArray, List.set_cons_zero, List.set_cons_succ] at hbb
    generalize World.setCell _ _ _ = w6 at hbb hnn hoo ⊢
    clear hn hb8 hout
    refine Lg.move _ (fun _ _ => step_region_end) (fun h => h) ?_
    refine Lg.move _ (fun _ _ => step_ret) (fun h => h) ?_
    refine Lg.leave rfl Try.func32 rfl (v := .agg #[.bool (bb), .int .i64 (0), .slice none 0 0]) (fun y τ n hy => ?_) (HR.out _ _ _ ⟨⟨bb, 0, []⟩, _, _, _, rfl, rfl, hnn.rep, hnn.held, hoo.own, fun b hb => (hoo.nh b hb).1⟩)
    have c0 : y.cell? ⟨b8, 0, none⟩ = some (.bool (bb)) := by have := hbb.blk.cell 0; rw [hy] at this; exact this
    have c1 : y.cell? ⟨b8, 1, none⟩ = some (.int .i64 (0)) := by have := hbb.blk.cell 1; rw [hy] at this; exact this
    have c2 : y.cell? ⟨b8, 2, none⟩ = some (.slice none 0 0) := by have := hbb.blk.cell 2; rw [hy] at this; exact this
    simp [results, Try.f32, go_sem, c0, c1, c2]
  have q3b : (kd == 3) = false := by simpa using q3
  refine Lg.move _ (fun _ _ => step_seq) (fun h => h) ?_
  refine Lg.code fun K hK y τ n' hy => ?_
  subst hy
  have hn := HN.out.re hk
  have hb7 := HB7.out.re
  have hb8 := HB8.out.re
  clear HN HB7 HB8
  have HN := Lib.hid hn
  have HB7 := Lib.hid hb7
  have HB8 := Lib.hid hb8
  clear hn hb7 hb8
  go_wp2
  refine hK _ _ (fun _ => rfl) ?_
  clear hK K
  refine Lg.move _ (fun _ _ => step_cond (t := false) rfl) (fun h => h) ?_
  by_cases q4 : kd = 4
  · subst q4
    rw [show doG rn ⟨4, oa, ob, oc⟩ st k = highG idL rn oa ob st fun x s => k ⟨true, x, []⟩ s from (if_neg (show ¬ (4 : Int) = 1 by decide)).trans ((if_neg (show ¬ (4 : Int) = 2 by decide)).trans ((if_neg (show ¬ (4 : Int) = 3 by decide)).trans (if_pos rfl)))]
    refine Lg.move _ (fun _ _ => step_seq) (fun h => h) ?_
    refine Lg.code fun K hK y τ n' hy => ?_
    subst hy
    have hn := HN.out.re hk
    have hb7 := HB7.out.re
    have hb8 := HB8.out.re
    clear HN HB7 HB8
    have HN := Lib.hid hn
    have HB7 := Lib.hid hb7
    have HB8 := Lib.hid hb8
    clear hn hb7 hb8
    go_wp2
    refine hK _ _ (fun _ => rfl) ?_
    clear hK K
    refine Lg.move _ (fun _ _ => step_cond (t := true) rfl) (fun h => h) ?_
    refine Lg.move _ (fun _ _ => step_seq) (fun h => h) ?_
    refine Lg.move _ (fun _ _ => step_region) (fun h => h) ?_
    refine Lg.pre 0 6 3 (by simp) fun K hK z τ n' hz => ?_
    subst hz
    have hn := HN.out.re hk
    have hb7 := HB7.out.re
    have hb8 := HB8.out.re
    clear HN HB7 HB8
    have o1 := hb7.blk.cell 1
    have o2 := hb7.blk.cell 2
    have HN := Lib.hid hn
    have HB7 := Lib.hid hb7
    have HB8 := Lib.hid hb8
    clear hn hb7 hb8
    simp only [List.drop_zero, List.take_succ_cons, List.take_zero]
    go_wp2
    refine hK _ _ (fun _ => rfl) ?_
    clear hK K o1 o2
    refine Lg.call (i := 6) (rest := [7, 8]) (f := 27) (args := #[.pointer (some ⟨rb, 0, none⟩), V, .int .i64 oa, .int .i64 ob]) rfl rfl (fun y => by go_simp) (high_any (ring_in B rb sb rn GI) hk hS hrn h2 H z st H z (HN.out.here hk) oa ob ha0 ha1 hb1 _) ?_
    rintro vv t' w' ⟨x, s', H', rfl, rfl, hn'⟩
    have hb7 := HB7.out.held hn'.held
    have hb8 := HB8.out.held hn'.held
    have hn := HN.out.on hn'
    clear HN HB7 HB8 hn'
    have HN := Lib.hid hn
    have HB7 := Lib.hid hb7
    have HB8 := Lib.hid hb8
    clear hn hb7 hb8
    rw [Frame.finish_at]
    walk_nrm
    refine (show L.T _ (Frame.at _ ⟨_, []⟩ (.inRegion _ (List.range' 7 (2 + 0)) :: _)) (c :: mid) w' from ?_)
    refine Lg.pre 7 2 0 (by simp) fun K hK z τ n' hz => ?_
    subst hz
    have hn := HN.out.re hk
    have hb7 := HB7.out.re
    have hb8 := HB8.out.re
    clear HN HB7 HB8
    have o0 := hb8.blk.cell 0
    have o1 := hb8.blk.cell 1
    have o2 := hb8.blk.cell 2
    have z0 := hb8.blk.frozen 0
    have z1 := hb8.blk.frozen 1
    have z2 := hb8.blk.frozen 2
    simp at o0 o1 o2
    have HN := Lib.hid hn
    have HB7 := Lib.hid hb7
    have HB8 := Lib.hid hb8
    clear hn hb7 hb8
    simp only [List.drop_succ_cons, List.drop_zero, List.take_succ_cons, List.take_zero]
    go_wp2
    refine hK _ _ (fun _ => rfl) ?_
    clear hK K o0 o1 o2 z0 z1 z2
    have hn := HN.out
    have hb8 := HB8.out
    clear HN HB7 HB8
    have hout : OutRow (B.ring rb sb rn GI) w0 H' z (.slice none 0 0) [] := OutRow.nil
    have hbb := ((hb8.set_ 0 (.bool (true))).set_ 1 (.int .i64 (x))).set_ 2 (.slice none 0 0)
    have hnn := ((hn.set_ hb8 0 (.bool (true))).set_ (hb8.set_ 0 (.bool (true))) 1 (.int .i64 (x))).set_ ((hb8.set_ 0 (.bool (true))).set_ 1 (.int .i64 (x))) 2 (.slice none 0 0)
    have hoo : OutRow (B.ring rb sb rn GI) w0 _ _ (.slice none 0 0) ([]) := (hout.far hb8.blk 0 (.bool (true))).far (hb8.set_ 0 (.bool (true))).blk 1 (.int .i64 (x)) |>.far ((hb8.set_ 0 (.bool (true))).set_ 1 (.int .i64 (x))).blk 2 (.slice none 0 0)
    simp only [List.setIfInBounds_toArray, List.set_cons_zero, List.set_cons_succ] at hbb
    generalize World.setCell _ _ _ = w6 at hbb hnn hoo ⊢
    clear hn hb8 hout
    refine Lg.move _ (fun _ _ => step_region_end) (fun h => h) ?_
    refine Lg.move _ (fun _ _ => step_ret) (fun h => h) ?_
    refine Lg.leave rfl Try.func32 rfl (v := .agg #[.bool (true), .int .i64 (x), .slice none 0 0]) (fun y τ n hy => ?_) (HR.out _ _ _ ⟨⟨true, x, []⟩, _, _, _, rfl, rfl, hnn.rep, hnn.held, hoo.own, fun b hb => (hoo.nh b hb).1⟩)
    have c0 : y.cell? ⟨b8, 0, none⟩ = some (.bool (true)) := by have := hbb.blk.cell 0; rw [hy] at this; exact this
    have c1 : y.cell? ⟨b8, 1, none⟩ = some (.int .i64 (x)) := by have := hbb.blk.cell 1; rw [hy] at this; exact this
    have c2 : y.cell? ⟨b8, 2, none⟩ = some (.slice none 0 0) := by have := hbb.blk.cell 2; rw [hy] at this; exact this
    simp [results, Try.f32, go_sem, c0, c1, c2]
  have q4b : (kd == 4) = false := by simpa using q4
  refine Lg.move _ (fun _ _ => step_seq) (fun h => h) ?_
  refine Lg.code fun K hK y τ n' hy => ?_
  subst hy
  have hn := HN.out.re hk
  have hb7 := HB7.out.re
  have hb8 := HB8.out.re
  clear HN HB7 HB8
  have HN := Lib.hid hn
  have HB7 := Lib.hid hb7
  have HB8 := Lib.hid hb8
  clear hn hb7 hb8
  go_wp2
  refine hK _ _ (fun _ => rfl) ?_
  clear hK K
  refine Lg.move _ (fun _ _ => step_cond (t := false) rfl) (fun h => h) ?_
  by_cases q5 : kd = 5
  · subst q5
    rw [show doG rn ⟨5, oa, ob, oc⟩ st k = gathG idL rn oa ob st fun ls e s => k ⟨e == 0, e, ls⟩ s from (if_neg (show ¬ (5 : Int) = 1 by decide)).trans ((if_neg (show ¬ (5 : Int) = 2 by decide)).trans ((if_neg (show ¬ (5 : Int) = 3 by decide)).trans ((if_neg (show ¬ (5 : Int) = 4 by decide)).trans (if_pos rfl))))]
    refine Lg.move _ (fun _ _ => step_seq) (fun h => h) ?_
    refine Lg.code fun K hK y τ n' hy => ?_
    subst hy
    have hn := HN.out.re hk
    have hb7 := HB7.out.re
    have hb8 := HB8.out.re
    clear HN HB7 HB8
    have HN := Lib.hid hn
    have HB7 := Lib.hid hb7
    have HB8 := Lib.hid hb8
    clear hn hb7 hb8
    go_wp2
    refine hK _ _ (fun _ => rfl) ?_
    clear hK K
    refine Lg.move _ (fun _ _ => step_cond (t := true) rfl) (fun h => h) ?_
    refine Lg.move _ (fun _ _ => step_seq) (fun h => h) ?_
    refine Lg.move _ (fun _ _ => step_region) (fun h => h) ?_
    refine Lg.pre 0 6 6 (by simp) fun K hK z τ n' hz => ?_
    subst hz
    have hn := HN.out.re hk
    have hb7 := HB7.out.re
    have hb8 := HB8.out.re
    clear HN HB7 HB8
    have o1 := hb7.blk.cell 1
    have o2 := hb7.blk.cell 2
    have HN := Lib.hid hn
    have HB7 := Lib.hid hb7
    have HB8 := Lib.hid hb8
    clear hn hb7 hb8
    simp only [List.drop_zero, List.take_succ_cons, List.take_zero]
    go_wp2
    refine hK _ _ (fun _ => rfl) ?_
    clear hK K o1 o2
    have hz0 : w0.heap.size ≤ z.heap.size := HN.out.held.size
    refine Lg.call (i := 6) (rest := [7, 8, 9, 10, 11]) (f := 28) (args := #[.pointer (some ⟨rb, 0, none⟩), V, .int .i64 oa, .int .i64 ob]) rfl rfl (fun y => by go_simp) (gath_any (ring_in B rb sb rn GI) hk hS hrn h2 H z st H z (HN.out.here hk) oa ob _) ?_
    rintro vv t' w' ⟨ls, e, lv, s', H', rfl, rfl, hn', hout⟩
    have hout : OutRow (B.ring rb sb rn GI) w0 H' w' lv ls := ⟨own_base hout.own hz0, hout.nh⟩
    clear hz0
    obtain ⟨lA, lc, rfl⟩ : ∃ A c, lv = .slice A ls.length c := own_slice hout.own
    have hb7 := HB7.out.held hn'.held
    have hb8 := HB8.out.held hn'.held
    have hn := HN.out.on hn'
    clear HN HB7 HB8 hn'
    have HN := Lib.hid hn
    have HB7 := Lib.hid hb7
    have HB8 := Lib.hid hb8
    clear hn hb7 hb8
    rw [Frame.finish_at]
    walk_nrm
    refine (show L.T _ (Frame.at _ ⟨_, []⟩ (.inRegion _ (List.range' 7 (5 + 0)) :: _)) (c :: mid) w' from ?_)
    refine Lg.pre 7 5 0 (by simp) fun K hK z τ n' hz => ?_
    subst hz
    have hn := HN.out.re hk
    have hb7 := HB7.out.re
    have hb8 := HB8.out.re
    clear HN HB7 HB8
    have hout := hout.re
    have HO := Lib.hid hout
    clear hout
    have HN := Lib.hid hn
    have HB7 := Lib.hid hb7
    have HB8 := Lib.hid hb8
    clear hn hb7 hb8
    simp only [List.drop_succ_cons, List.drop_zero, List.take_succ_cons, List.take_zero]
    go_wp2
    refine hK _ _ (fun _ => rfl) ?_
    clear hK K
    refine Lg.move _ (fun _ _ => step_region_end) (fun h => h) ?_
    refine Lg.move _ (fun _ _ => step_seq) (fun h => h) ?_
    refine Lg.code fun K hK y τ n' hy => ?_
    subst hy
    have hout := HO.out.re
    clear HO
    have HO := Lib.hid hout
    clear hout
    have hn := HN.out.re hk
    have hb7 := HB7.out.re
    have hb8 := HB8.out.re
    clear HN HB7 HB8
    have HN := Lib.hid hn
    have HB7 := Lib.hid hb7
    have HB8 := Lib.hid hb8
    clear hn hb7 hb8
    go_wp2_with (go_at_call 43; refine (told_any e _).mono ?_; rintro e' w' ⟨rfl, hkept⟩)
    refine hK _ _ (fun _ => rfl) ?_
    clear hK K
    have hn0 := HN.out.kept hkept
    have hb80 := HB8.out.kept hkept
    have hne2 : b8 ≠ w'.heap.size := fun h => by have := hb80.blk.lt; omega
    have hb7 := hn0.own 46 #[.bool (e == 0), .int .i64 e, .slice none 0 0]
    have hb8 := hb80.alloc (.cells #[.bool (e == 0), .int .i64 e, .slice none 0 0] 46)
    have hn := hn0.alloc (.cells #[.bool (e == 0), .int .i64 e, .slice none 0 0] 46)
    have hout := (HO.out.kept hkept).kept (Kept.alloc w' (.cells #[.bool (e == 0), .int .i64 e, .slice none 0 0] 46))
    clear hn0 hb80 HN HB7 HB8 HO hkept hne
    generalize w'.alloc (.cells #[.bool (e == 0), .int .i64 e, .slice none 0 0] 46) = v at hn hb7 hb8 hout ⊢
    generalize w'.heap.size = b7' at hb7 hne2 ⊢
    have HO := Lib.hid hout
    clear hout
    have HN := Lib.hid hn
    have HB7 := Lib.hid hb7
    have HB8 := Lib.hid hb8
    clear hn hb7 hb8
    refine Lg.move _ (fun _ _ => step_seq) (fun h => h) ?_
    refine Lg.code fun K hK y τ n' hy => ?_
    subst hy
    have hout := HO.out.re
    clear HO
    have HO := Lib.hid hout
    clear hout
    have hn := HN.out.re hk
    have hb7 := HB7.out.re
    have hb8 := HB8.out.re
    clear HN HB7 HB8
    have o2 := hb7.blk.cell 2
    have z2 := hb7.blk.frozen 2
    have HN := Lib.hid hn
    have HB7 := Lib.hid hb7
    have HB8 := Lib.hid hb8
    clear hn hb7 hb8
    go_wp2
    refine hK _ _ (fun _ => rfl) ?_
    clear hK K o2 z2
    have hout := HO.out.far HB7.out.blk 2 (.slice lA ls.length lc)
    have hn := HN.out.set_ HB7.out 2 (.slice lA ls.length lc)
    have hb8 := HB8.out.far hne2 2 (.slice lA ls.length lc)
    have hb7 := HB7.out.set_ 2 (.slice lA ls.length lc)
    simp only [List.setIfInBounds_toArray, List.set_cons_zero, List.set_cons_succ] at hb7
    clear HN HB7 HB8 HO
    generalize World.setCell _ _ _ = y' at hn hb7 hb8 hout ⊢
    have HO := Lib.hid hout
    clear hout
    have HN := Lib.hid hn
    have HB7 := Lib.hid hb7
    have HB8 := Lib.hid hb8
    clear hn hb7 hb8
    refine Lg.move _ (fun _ _ => step_seq) (fun h => h) ?_
    refine Lg.move _ (fun _ _ => step_region) (fun h => h) ?_
    refine Lg.pre 0 2 0 (by simp) fun K hK y τ n' hy => ?_
    subst hy
    have hout := HO.out.re
    clear HO
    have HO := Lib.hid hout
    clear hout
    have hn := HN.out.re hk
    have hb7 := HB7.out.re
    have hb8 := HB8.out.re
    clear HN HB7 HB8
    have p0 := hb7.blk.cell 0
    have p1 := hb7.blk.cell 1
    have p2 := hb7.blk.cell 2
    have o0 := hb8.blk.cell 0
    have o1 := hb8.blk.cell 1
    have o2 := hb8.blk.cell 2
    have z0 := hb8.blk.frozen 0
    have z1 := hb8.blk.frozen 1
    have z2 := hb8.blk.frozen 2
    simp at p0 p1 p2 o0 o1 o2
    simp only [List.drop_zero, List.take_succ_cons, List.take_zero]
    have HN := Lib.hid hn
    have HB8 := Lib.hid hb8
    clear hn hb7 hb8
    go_wp2
    refine hK _ _ (fun _ => rfl) ?_
    clear hK K o0 o1 o2 z0 z1 z2 p0 p1 p2
    have hn := HN.out
    have hb8 := HB8.out
    have hout := HO.out
    clear HN HB8 HO
    have hbb := ((hb8.set_ 0 (.bool (e == 0))).set_ 1 (.int .i64 (e))).set_ 2 (.slice lA ls.length lc)
    have hnn := ((hn.set_ hb8 0 (.bool (e == 0))).set_ (hb8.set_ 0 (.bool (e == 0))) 1 (.int .i64 (e))).set_ ((hb8.set_ 0 (.bool (e == 0))).set_ 1 (.int .i64 (e))) 2 (.slice lA ls.length lc)
    have hoo : OutRow (B.ring rb sb rn GI) w0 _ _ (.slice lA ls.length lc) (ls) := (hout.far hb8.blk 0 (.bool (e == 0))).far (hb8.set_ 0 (.bool (e == 0))).blk 1 (.int .i64 (e)) |>.far ((hb8.set_ 0 (.bool (e == 0))).set_ 1 (.int .i64 (e))).blk 2 (.slice lA ls.length lc)
    simp only [List.setIfInBounds_toArray, List.set_cons_zero, List.set_cons_succ] at hbb
    generalize World.setCell _ _ _ = w6 at hbb hnn hoo ⊢
    clear hn hb8 hout
    refine Lg.move _ (fun _ _ => step_region_end) (fun h => h) ?_
    refine Lg.move _ (fun _ _ => step_ret) (fun h => h) ?_
    refine Lg.leave rfl Try.func32 rfl (v := .agg #[.bool (e == 0), .int .i64 (e), .slice lA ls.length lc]) (fun y τ n hy => ?_) (HR.out _ _ _ ⟨⟨e == 0, e, ls⟩, _, _, _, rfl, rfl, hnn.rep, hnn.held, hoo.own, fun b hb => (hoo.nh b hb).1⟩)
    have c0 : y.cell? ⟨b8, 0, none⟩ = some (.bool (e == 0)) := by have := hbb.blk.cell 0; rw [hy] at this; exact this
    have c1 : y.cell? ⟨b8, 1, none⟩ = some (.int .i64 (e)) := by have := hbb.blk.cell 1; rw [hy] at this; exact this
    have c2 : y.cell? ⟨b8, 2, none⟩ = some (.slice lA ls.length lc) := by have := hbb.blk.cell 2; rw [hy] at this; exact this
    simp [results, Try.f32, go_sem, c0, c1, c2]
  have q5b : (kd == 5) = false := by simpa using q5
  refine Lg.move _ (fun _ _ => step_seq) (fun h => h) ?_
  refine Lg.code fun K hK y τ n' hy => ?_
  subst hy
  have hn := HN.out.re hk
  have hb7 := HB7.out.re
  have hb8 := HB8.out.re
  clear HN HB7 HB8
  have HN := Lib.hid hn
  have HB7 := Lib.hid hb7
  have HB8 := Lib.hid hb8
  clear hn hb7 hb8
  go_wp2
  refine hK _ _ (fun _ => rfl) ?_
  clear hK K
  refine Lg.move _ (fun _ _ => step_cond (t := false) rfl) (fun h => h) ?_
  rw [show doG rn ⟨kd, oa, ob, oc⟩ st k = k ⟨false, 0, []⟩ st from (if_neg q1).trans ((if_neg q2).trans ((if_neg q3).trans ((if_neg q4).trans (if_neg q5))))]
  refine Lg.move _ (fun _ _ => step_skip) (fun h => h) ?_
  refine Lg.move _ (fun _ _ => step_inBlock) (fun h => h) ?_
  refine Lg.move _ (fun _ _ => step_seq) (fun h => h) ?_
  refine Lg.move _ (fun _ _ => step_region) (fun h => h) ?_
  refine Lg.pre 0 2 0 (by simp) fun K hK y τ n' hy => ?_
  subst hy
  have hn := HN.out.re hk
  have hb7 := HB7.out.re
  have hb8 := HB8.out.re
  clear HN HB7 HB8
  have o0 := hb8.blk.cell 0
  have o1 := hb8.blk.cell 1
  have o2 := hb8.blk.cell 2
  have z0 := hb8.blk.frozen 0
  have z1 := hb8.blk.frozen 1
  have z2 := hb8.blk.frozen 2
  simp at o0 o1 o2
  have HN := Lib.hid hn
  have HB7 := Lib.hid hb7
  have HB8 := Lib.hid hb8
  clear hn hb7 hb8
  simp only [List.drop_zero, List.take_succ_cons, List.take_zero]
  go_wp2
  refine hK _ _ (fun _ => rfl) ?_
  clear hK K o0 o1 o2 z0 z1 z2
  have hn := HN.out
  have hb8 := HB8.out
  clear HN HB7 HB8
  have hout : OutRow (B.ring rb sb rn GI) w0 H y (.slice none 0 0) [] := OutRow.nil
  have hbb := ((hb8.set_ 0 (.bool (false))).set_ 1 (.int .i64 (0))).set_ 2 (.slice none 0 0)
  have hnn := ((hn.set_ hb8 0 (.bool (false))).set_ (hb8.set_ 0 (.bool (false))) 1 (.int .i64 (0))).set_ ((hb8.set_ 0 (.bool (false))).set_ 1 (.int .i64 (0))) 2 (.slice none 0 0)
  have hoo : OutRow (B.ring rb sb rn GI) w0 _ _ (.slice none 0 0) ([]) := (hout.far hb8.blk 0 (.bool (false))).far (hb8.set_ 0 (.bool (false))).blk 1 (.int .i64 (0)) |>.far ((hb8.set_ 0 (.bool (false))).set_ 1 (.int .i64 (0))).blk 2 (.slice none 0 0)
  simp only [List.setIfInBounds_toArray, List.set_cons_zero, List.set_cons_succ] at hbb
  generalize World.setCell _ _ _ = w6 at hbb hnn hoo ⊢
  clear hn hb8 hout
  refine Lg.move _ (fun _ _ => step_region_end) (fun h => h) ?_
  refine Lg.move _ (fun _ _ => step_ret) (fun h => h) ?_
  refine Lg.leave rfl Try.func32 rfl (v := .agg #[.bool (false), .int .i64 (0), .slice none 0 0]) (fun y τ n hy => ?_) (HR.out _ _ _ ⟨⟨false, 0, []⟩, _, _, _, rfl, rfl, hnn.rep, hnn.held, hoo.own, fun b hb => (hoo.nh b hb).1⟩)
  have c0 : y.cell? ⟨b8, 0, none⟩ = some (.bool (false)) := by have := hbb.blk.cell 0; rw [hy] at this; exact this
  have c1 : y.cell? ⟨b8, 1, none⟩ = some (.int .i64 (0)) := by have := hbb.blk.cell 1; rw [hy] at this; exact this
  have c2 : y.cell? ⟨b8, 2, none⟩ = some (.slice none 0 0) := by have := hbb.blk.cell 2; rw [hy] at this; exact this
  simp [results, Try.f32, go_sem, c0, c1, c2]
end Go.Proofs.Yteainbnoemkfcaa
namespace Go.Proofs.Yteainbnoemkfcaa
open Go.RowKit Go.Turn Go.Tame Go.Conc
section
variable {D : OpsD} {i : Nat}
theorem put_minds (l : RLens D.A) (n : Nat) (q v : Int) (σ : D.St) (k : D.St → Tree D.St D.St) (hk : ∀ σ' : D.St, σ'.2 i = σ.2 i → OKt D i (k σ') σ') : OKt D i (putT l n q v σ k) σ :=
  ⟨fun _ _ => rfl, fun σ1 h1 => ⟨fun _ _ => rfl, fun σ2 h2 => ⟨fun _ _ => rfl, fun σ3 h3 => OKt.congr (hk (l.st σ3 (q % n).toNat (2 * (q / n))) (h3.trans (h2.trans h1))) (fun _ _ => rfl)⟩⟩⟩
theorem get_minds (l : RLens D.A) (n : Nat) (q : Int) (σ : D.St) (k : Int → Int → D.St → Tree D.St D.St) (hk : ∀ x e (σ' : D.St), σ'.2 i = σ.2 i → OKt D i (k x e σ') σ') : OKt D i (getT l n q σ k) σ :=
  ⟨fun _ _ => rfl, fun σ1 h1 => okt_ite (hk _ _ _ h1) (okt_ite (hk _ _ _ h1) ⟨fun _ _ => rfl, fun σ2 h2 => ⟨fun _ _ => rfl, fun σ3 h3 => okt_ite (hk _ _ _ (h3.trans (h2.trans h1))) (hk _ _ _ (h3.trans (h2.trans h1)))⟩⟩)⟩
theorem there_minds (l : RLens D.A) (n : Nat) (q : Int) (σ : D.St) (k : Bool → D.St → Tree D.St D.St) (hk : ∀ b (σ' : D.St), σ'.2 i = σ.2 i → OKt D i (k b σ') σ') : OKt D i (thereT l n q σ k) σ :=
  ⟨fun _ _ => rfl, fun σ1 h1 => hk _ _ h1⟩
theorem high_minds (l : RLens D.A) (n : Nat) (k : Int → D.St → Tree D.St D.St) : ∀ (j : Nat) (q : Int) (σ : D.St), (∀ x (σ' : D.St), σ'.2 i = σ.2 i → OKt D i (k x σ') σ') → OKt D i (highT l n j q σ k) σ
  | 0, q, σ, hk => hk _ _ rfl
  | j + 1, q, σ, hk => there_minds l n q σ _ fun b σ' h => okt_ite (high_minds l n k j (q + 1) σ' fun x σ'' h' => hk x σ'' (h'.trans h)) (hk _ _ h)
theorem gath_minds (l : RLens D.A) (n : Nat) (k : List Int → Int → D.St → Tree D.St D.St) : ∀ (j : Nat) (q : Int) (acc : List Int) (σ : D.St), (∀ x e (σ' : D.St), σ'.2 i = σ.2 i → OKt D i (k x e σ') σ') → OKt D i (gathT l n j q acc σ k) σ
  | 0, q, acc, σ, hk => hk _ _ _ rfl
  | j + 1, q, acc, σ, hk => okt_ite (hk _ _ _ rfl) (get_minds l n q σ _ fun v e σ' h => okt_ite (gath_minds l n k j (q + 1) (acc ++ [v]) σ' fun x e' σ'' h' => hk x e' σ'' (h'.trans h)) (okt_ite (hk _ _ _ h) (hk _ _ _ h)))
theorem putG_minds (l : RLens D.A) (n : Nat) (q v : Int) (σ : D.St) (k : Int → D.St → Tree D.St D.St) (hk : ∀ e (σ' : D.St), σ'.2 i = σ.2 i → OKt D i (k e σ') σ') : OKt D i (putG l n q v σ k) σ := by
  unfold putG
  exact okt_ite (put_minds l n q v σ (k 0) (hk 0)) (hk 1 σ rfl)
theorem getG_minds (l : RLens D.A) (n : Nat) (q : Int) (σ : D.St) (k : Int → Int → D.St → Tree D.St D.St) (hk : ∀ x e (σ' : D.St), σ'.2 i = σ.2 i → OKt D i (k x e σ') σ') : OKt D i (getG l n q σ k) σ := by
  unfold getG
  exact okt_ite (get_minds l n q σ k hk) (hk _ _ _ rfl)
theorem thereG_minds (l : RLens D.A) (n : Nat) (q : Int) (σ : D.St) (k : Bool → D.St → Tree D.St D.St) (hk : ∀ b (σ' : D.St), σ'.2 i = σ.2 i → OKt D i (k b σ') σ') : OKt D i (thereG l n q σ k) σ := by
  unfold thereG
  exact okt_ite (there_minds l n q σ k hk) (hk _ _ rfl)
theorem highG_minds (l : RLens D.A) (n : Nat) (a b : Int) (σ : D.St) (k : Int → D.St → Tree D.St D.St) (hk : ∀ x (σ' : D.St), σ'.2 i = σ.2 i → OKt D i (k x σ') σ') : OKt D i (highG l n a b σ k) σ := by
  unfold highG
  exact okt_ite (high_minds l n k _ _ σ hk) (hk _ _ rfl)
theorem gathG_minds (l : RLens D.A) (n : Nat) (a m : Int) (σ : D.St) (k : List Int → Int → D.St → Tree D.St D.St) (hk : ∀ x e (σ' : D.St), σ'.2 i = σ.2 i → OKt D i (k x e σ') σ') : OKt D i (gathG l n a m σ k) σ := by
  unfold gathG
  exact okt_ite (gath_minds l n k _ _ _ σ hk) (hk _ _ _ rfl)
end
theorem doG_ok (B : OpsB) (rb sb rn : Nat) (good : OpI → Prop) (i : Nat) : DoOk (B.ring rb sb rn good) i (doG rn) := by
  intro o hg σ k hk
  let D := B.ring rb sb rn good
  show OKt D i (doG rn o σ k) σ
  unfold doG
  have hk0 : ∀ a (σ' : D.St), σ'.2 i = σ.2 i → OKt D i (k a σ') σ' := hk
  exact okt_ite (D := D) (putG_minds (D := D) idL rn o.a o.b σ _ fun e σ' h => hk0 _ σ' h) (okt_ite (D := D) (getG_minds (D := D) idL rn o.a σ _ fun x e σ' h => hk0 _ σ' h) (okt_ite (D := D) (thereG_minds (D := D) idL rn o.a σ _ fun b σ' h => hk0 _ σ' h)
    (okt_ite (D := D) (highG_minds (D := D) idL rn o.a o.b σ _ fun x σ' h => hk0 _ σ' h) (okt_ite (D := D) (gathG_minds (D := D) idL rn o.a o.b σ _ fun x e σ' h => hk0 _ σ' h) (hk0 _ σ rfl)))))
end Go.Proofs.Yteainbnoemkfcaa
namespace Go.Proofs.Yteainbnoemkfcaa
open Go.RowKit Go.Turn Go.Tame Go.Conc
def RightI (n : Int) : Prop := 1 ≤ n ∧ n ≤ 65536 ∧ (bits BinOp.and IntKind.i64 n (n - 1) != 0) = false
instance (n : Int) : Decidable (RightI n) := by unfold RightI; exact inferInstance
theorem new_bad (n : Int) (w : World) (h : ¬ RightI n) (hr : -9223372036854775808 ≤ n) : Calls Try.prog 12 #[.int .i64 n] w fun e w' => e = .returned (.tuple #[.pointer none, .int .i64 1]) ∧ w = w' := by
  by_cases h1 : n < 1
  · have d1 : decide (n < 1) = true := by simpa using h1
    clear h
    go_enter Try.func12, Try.ntmps12
    go_wp2
    go_ret2
    exact ⟨rfl, rfl⟩
  · have d1 : decide (n < 1) = false := by simpa using h1
    by_cases h2 : 65536 < n
    · have d2 : decide (65536 < n) = true := by simpa using h2
      clear h
      go_enter Try.func12, Try.ntmps12
      go_wp2
      go_ret2
      exact ⟨rfl, rfl⟩
    · have d2 : decide (65536 < n) = false := by simpa using h2
      have d3 : (bits BinOp.and IntKind.i64 n (n - 1) != 0) = true := by
        cases hb : (bits BinOp.and IntKind.i64 n (n - 1) != 0) with
        | true => rfl
        | false => exact absurd ⟨by omega, by omega, hb⟩ h
      clear h
      go_enter Try.func12, Try.ntmps12
      go_wp2
      go_ret2
      exact ⟨rfl, rfl⟩
def GoodStart (ss : List Int) : Prop := ∃ n vs, ss = n :: vs ∧ RightI n
theorem NumsIn.lt {w : World} {A : Option Addr} {c : Nat} {xs : List Int} (h : NumsIn w A c xs) {i : Nat} (hi : i < xs.length) : ∃ b o, A = some ⟨b, o, none⟩ ∧ w.cell? ⟨b, o + i, none⟩ = some (.int .i64 (xs.getD i 0)) := h.cells i hi
set_option maxRecDepth 100000 in
theorem begun_bad (w : World) (A : Option Addr) (c : Nat) (ss : List Int) (hx : NumsIn w A c ss) (hr : ∀ x ∈ ss, -9223372036854775808 ≤ x) (hb : ¬ GoodStart ss) :
    Calls Try.prog 30 #[.slice A ss.length c] w fun e w' => e = .returned (.pointer none) ∧ w = w' := by
  cases ss with
  | nil =>
    clear hx
    go_enter Try.func30, Try.ntmps30
    go_wp2
    go_ret
    exact ⟨rfl, rfl⟩
  | cons n vs =>
    have hle := hx.le
    have hmx := hx.max
    simp only [List.length_cons] at hle ⊢
    unfold maxLen at hmx
    obtain ⟨B, o, rfl, c0⟩ := hx.cells 0 (by simp)
    have hcell : ∀ i, i < vs.length → w.cell? ⟨B, o + 1 + i, none⟩ = some (.int .i64 (vs.getD i 0)) := fun i hi => by
      obtain ⟨b', o', e, h⟩ := hx.cells (i + 1) (by simpa using hi)
      cases e
      rw [show o + 1 + i = o + (i + 1) from by omega]
      simpa using h
    simp only [Nat.add_zero, List.getD_cons_zero] at c0
    have HC := Lib.hid hcell
    clear hx hcell
    have hn3 : ((vs.length : Int) + 1 == 0) = false := by simp; omega
    have hr0 : -9223372036854775808 ≤ n := hr n (by simp)
    have hg : ¬ RightI n := fun h => hb ⟨n, vs, rfl, h⟩
    have HG := Lib.hid hg
    clear hb hr hg
    by_cases h1 : n < 1
    · have d1 : decide (n < 1) = true := by simpa using h1
      go_enter Try.func30, Try.ntmps30
      go_wp2
      go_ret
      exact ⟨rfl, rfl⟩
    · have d1 : decide (n < 1) = false := by simpa using h1
      by_cases h2 : 65536 < n
      · have d2 : decide (65536 < n) = true := by simpa using h2
        go_enter Try.func30, Try.ntmps30
        go_wp2
        go_ret
        exact ⟨rfl, rfl⟩
      · have d2 : decide (65536 < n) = false := by simpa using h2
        go_enter Try.func30, Try.ntmps30
        go_wp2_with (go_at_call 12; refine (new_bad n w HG.out hr0).mono ?_; rintro e w' ⟨rfl, rfl⟩)
        · go_loopw [32] (fun i wr => ∃ j : Nat, j ≤ vs.length ∧ i = .int .i64 j ∧ wr = w) (fun i _ => vs.length - (intOf i).toNat)
          case atStart => exact ⟨0, Nat.zero_le _, rfl, rfl⟩
          case round =>
            obtain ⟨j, hj, rfl, rfl⟩ := hrel
            by_cases hlt : j < vs.length
            · exfalso
              omega
            · have hd : decide (j < vs.length) = false := by simpa using hlt
              go_wp2
              go_ret
              exact ⟨rfl, rfl⟩
        · go_loopw [32] (fun i wr => ∃ j : Nat, j ≤ vs.length ∧ i = .int .i64 j ∧ wr = w) (fun i _ => vs.length - (intOf i).toNat)
          case atStart => exact ⟨0, Nat.zero_le _, rfl, rfl⟩
          case round =>
            obtain ⟨j, hj, rfl, rfl⟩ := hrel
            by_cases hlt : j < vs.length
            · have hd : decide (j < vs.length) = true := by simpa using hlt
              have c1 := HC.out j hlt
              go_wp2_with (go_at_call 23; refine (put_bad (bad_zero none j _ (.inl rfl)) .nilIface _).mono ?_; rintro e w' ⟨rfl, rfl⟩)
              exact ⟨⟨j + 1, by omega, by go_num, by trivial⟩, by simp [intOf]; omega⟩
            · have hd : decide (j < vs.length) = false := by simpa using hlt
              go_wp2
              go_ret
              exact ⟨rfl, rfl⟩
theorem state_nil (w : World) : Calls Try.prog 33 #[.pointer none] w (NumsRow w 0 []) := by
  go_enter Try.func33, Try.ntmps33
  go_wp2_with fail
  refine (stamps_zero none w (.inl rfl)).mono ?_
  rintro e w1 ⟨rfl, rfl⟩
  go_wp2_with fail
  refine (values_zero none w (.inl rfl)).mono ?_
  rintro e w1 ⟨rfl, rfl⟩
  go_wp2
  go_ret
  exact ⟨_, rfl, ⟨rfl, .inl ⟨rfl, rfl⟩⟩, Below.refl _ _⟩
end Go.Proofs.Yteainbnoemkfcaa
namespace Go.Proofs.Yteainbnoemkfcaa
open Go.RowKit Go.Turn Go.Tame Go.Conc
def nilRI : RI := ⟨fun _ _ => True, fun _ => False, fun _ _ _ _ _ => trivial⟩
def doN : DoQ RSt := fun _ st k => k ⟨false, 0, []⟩ st
set_option maxHeartbeats 4000000 in
set_option maxRecDepth 100000 in
theorem ring_doN (B : OpsB) (i : Nat) : DoLaw (B.on nilRI.I GI) i doN 32 #[.pointer none] #[] := by
  intro tb L Cap hre hk hst o st H k w hgood hrep hcap
  have hn : Now (B.on nilRI.I GI) Cap H w st H w := ⟨hrep, hcap, Held.refl _ _⟩
  generalize (Value.iface 116 (.pointer (some ⟨tb, 0, none⟩))) = V
  suffices hmain : ∀ w0 H0, w0.heap.size = w.heap.size → Now (B.on nilRI.I GI) Cap H0 w0 st H w → Ccalls L 32 #[.pointer none, V, .int .i64 i, o.val] (doN o st k) w fun v t' w' => ∃ a st' H' lv, t' = k a st' ∧ v = .agg #[.bool a.ok, .int .i64 a.n, lv] ∧ RepO (B.on nilRI.I GI) st' H' w' ∧ Held H0 w0 H' w' ∧ w'.ownsRow w0.heap.size 2 1 lv a.ls.length (a.ls.map (Value.int .i64)) ∧ ∀ b, lv.ownBlock = some b → ¬ H' b from hmain w H rfl hn
  clear hrep hcap hn
  intro w0 H0 hsz hn c mid hR
  clear hsz
  have HR := Lib.hid hR
  have HN := Lib.hid hn
  clear hR hn
  obtain ⟨kd, oa, ob, oc⟩ := o
  rw [show Frame.enter Try.prog 32 #[.pointer none, V, .int .i64 i, OpI.val ⟨kd, oa, ob, oc⟩] .normal = Frame.at { (default : Frame) with fn := 32, kind := .normal } ⟨#[.pointer none, V, .int .i64 i, .agg #[.int .i64 kd, .int .i64 oa, .int .i64 ob, .int .i64 oc]] ++ Array.replicate (Try.f32.ntmps - 4) undef, []⟩ [.code (Try.f32.body.getD .skip)] from by simp [Frame.enter, Frame.at, Try.func32]; exact ⟨rfl, rfl⟩]
  simp only [Try.f32, Option.getD_some, Nat.reduceSub, Array.replicate_succ, Array.replicate_zero, List.push_toArray, List.append_toArray, List.nil_append, List.cons_append]
  refine Lg.move _ (fun _ _ => step_seq) (fun h => h) ?_
  refine Lg.code fun K hK y τ n' hy => ?_
  subst hy
  have hn := HN.out.re hk
  clear HN
  have HN := Lib.hid hn
  clear hn
  go_wp2
  refine hK _ _ (fun _ => rfl) ?_
  clear hK K
  have hb7 := (HN.out.own 49 #[.int .i64 kd, .int .i64 oa, .int .i64 ob, .int .i64 oc]).alloc (.cells #[.bool false, .int .i64 0, .slice none 0 0] 46)
  have hb8 := (HN.out.alloc (.cells #[.int .i64 kd, .int .i64 oa, .int .i64 ob, .int .i64 oc] 49)).own 46 #[.bool false, .int .i64 0, .slice none 0 0]
  have hn := (HN.out.alloc (.cells #[.int .i64 kd, .int .i64 oa, .int .i64 ob, .int .i64 oc] 49)).alloc (.cells #[.bool false, .int .i64 0, .slice none 0 0] 46)
  rw [show (y.alloc (.cells #[.int .i64 kd, .int .i64 oa, .int .i64 ob, .int .i64 oc] 49)).heap.size = y.heap.size + 1 from by simp] at hb8
  clear HN
  generalize (y.alloc (.cells #[.int .i64 kd, .int .i64 oa, .int .i64 ob, .int .i64 oc] 49)).alloc (.cells #[.bool false, .int .i64 0, .slice none 0 0] 46) = z at hn hb7 hb8 ⊢
  have hne : y.heap.size ≠ y.heap.size + 1 := by omega
  generalize y.heap.size + 1 = b8 at hb8 hne ⊢
  generalize y.heap.size = b7 at hb7 hne ⊢
  have HN := Lib.hid hn
  have HB7 := Lib.hid hb7
  have HB8 := Lib.hid hb8
  clear hn hb7 hb8
  refine Lg.move _ (fun _ _ => step_seq) (fun h => h) ?_
  refine Lg.move _ (fun _ _ => step_seq) (fun h => h) ?_
  refine Lg.code fun K hK y τ n' hy => ?_
  subst hy
  have hn := HN.out.re hk
  have hb7 := HB7.out.re
  have hb8 := HB8.out.re
  clear HN HB7 HB8
  have HN := Lib.hid hn
  have HB7 := Lib.hid hb7
  have HB8 := Lib.hid hb8
  clear hn hb7 hb8
  go_wp2
  refine hK _ _ (fun _ => rfl) ?_
  clear hK K
  refine Lg.move _ (fun _ _ => step_cond (t := true) rfl) (fun h => h) ?_
  refine Lg.move _ (fun _ _ => step_seq) (fun h => h) ?_
  refine Lg.move _ (fun _ _ => step_region) (fun h => h) ?_
  refine Lg.pre 0 2 0 (by simp) fun K hK y τ n' hy => ?_
  subst hy
  have hn := HN.out.re hk
  have hb7 := HB7.out.re
  have hb8 := HB8.out.re
  clear HN HB7 HB8
  have o0 := hb8.blk.cell 0
  have o1 := hb8.blk.cell 1
  have o2 := hb8.blk.cell 2
  have z0 := hb8.blk.frozen 0
  have z1 := hb8.blk.frozen 1
  have z2 := hb8.blk.frozen 2
  simp at o0 o1 o2
  have HN := Lib.hid hn
  have HB7 := Lib.hid hb7
  have HB8 := Lib.hid hb8
  clear hn hb7 hb8
  simp only [List.drop_zero, List.take_succ_cons, List.take_zero]
  go_wp2
  refine hK _ _ (fun _ => rfl) ?_
  clear hK K o0 o1 o2 z0 z1 z2
  have hn := HN.out
  have hb8 := HB8.out
  clear HN HB7 HB8
  have hout : OutRow (B.on nilRI.I GI) w0 H y (.slice none 0 0) [] := OutRow.nil
  have hbb := ((hb8.set_ 0 (.bool (false))).set_ 1 (.int .i64 (0))).set_ 2 (.slice none 0 0)
  have hnn := ((hn.set_ hb8 0 (.bool (false))).set_ (hb8.set_ 0 (.bool (false))) 1 (.int .i64 (0))).set_ ((hb8.set_ 0 (.bool (false))).set_ 1 (.int .i64 (0))) 2 (.slice none 0 0)
  have hoo : OutRow (B.on nilRI.I GI) w0 _ _ (.slice none 0 0) ([]) := (hout.far hb8.blk 0 (.bool (false))).far (hb8.set_ 0 (.bool (false))).blk 1 (.int .i64 (0)) |>.far ((hb8.set_ 0 (.bool (false))).set_ 1 (.int .i64 (0))).blk 2 (.slice none 0 0)
  simp only [List.setIfInBounds_toArray, List.set_cons_zero, List.set_cons_succ] at hbb
  generalize World.setCell _ _ _ = w6 at hbb hnn hoo ⊢
  clear hn hb8 hout
  refine Lg.move _ (fun _ _ => step_region_end) (fun h => h) ?_
  refine Lg.move _ (fun _ _ => step_ret) (fun h => h) ?_
  refine Lg.leave rfl Try.func32 rfl (v := .agg #[.bool (false), .int .i64 (0), .slice none 0 0]) (fun y τ n hy => ?_) (HR.out _ _ _ ⟨⟨false, 0, []⟩, _, _, _, rfl, rfl, hnn.rep, hnn.held, hoo.own, fun b hb => (hoo.nh b hb).1⟩)
  have c0 : y.cell? ⟨b8, 0, none⟩ = some (.bool (false)) := by have := hbb.blk.cell 0; rw [hy] at this; exact this
  have c1 : y.cell? ⟨b8, 1, none⟩ = some (.int .i64 (0)) := by have := hbb.blk.cell 1; rw [hy] at this; exact this
  have c2 : y.cell? ⟨b8, 2, none⟩ = some (.slice none 0 0) := by have := hbb.blk.cell 2; rw [hy] at this; exact this
  simp [results, Try.f32, go_sem, c0, c1, c2]
theorem doN_ok (B : OpsB) (good : OpI → Prop) (i : Nat) : DoOk (B.on nilRI.I good) i doN := fun o hg σ k hk => hk _ _ rfl
end Go.Proofs.Yteainbnoemkfcaa
namespace Go.Proofs.Yteainbnoemkfcaa
open Go.RowKit Go.Turn Go.Tame Go.Conc
def rnOf : List Int → Nat
  | [] => 0
  | n :: _ => if RightI n then n.toNat else 0
def s0Of : List Int → RSt
  | [] => (fun _ => 0, fun _ => 0)
  | n :: vs => if RightI n then begS n.toNat vs vs.length else (fun _ => 0, fun _ => 0)
def doA (rn : Nat) : DoQ RSt := if rn = 0 then doN else doG rn
def ringRI (rn b : Nat) : RI := ⟨RAt (b + 1) b rn, fun x => x = b + 1 ∨ x = b, RAt.law⟩
theorem goodStart_of {n : Int} {vs : List Int} : GoodStart (n :: vs) → RightI n := fun ⟨m, us, e, h⟩ => by cases e; exact h
noncomputable def playS (ss : List Int) (ops : Nat → List OpI) (nt : Nat) (xs : List Int) (most : Int) : Run RSt2 := playRun (brQ (fun _ => doA (rnOf ss)) ops) (min nt 64) (heldI most 1048576).toNat xs (s0Of ss, fun _ => [])
theorem play_any (hP : Prog Try.prog) (Post : Value → World → Prop) (W0 : World) (ss : List Int) (sA : Option Addr) (sc : Nat) (hr : ∀ x ∈ ss, -9223372036854775808 ≤ x) (hlen : ss.length ≤ 4611686018427387903)
    (tA : Option Addr) (Tb To nt cp : Nat) (htA : 0 < nt → tA = some ⟨Tb, To, none⟩) (hnt : nt ≤ maxLen) (A : Nat → Option Addr) (len cap : Nat → Nat) (ops : Nat → List OpI) (sv : Value) (xs : List Int) (most : Int) (w0 : World) (hW : W0.heap.size ≤ w0.heap.size)
    (hst : NumsIn w0 sA sc ss) (hrows : RowsAt w0 Tb To (min nt 64) A len cap) (hin : OpsCells W0 GI w0 (min nt 64) A len ops) (hsch : SchI W0 sv xs (fun b => ∃ i o, i < min nt 64 ∧ A i = some ⟨b, o, none⟩) w0) :
    Ccalls (lgA hP Post W0) 10 #[.slice sA ss.length sc, .slice tA nt cp, sv, .int .i64 most] () w0 fun v _ w' => PlayDone W0 (rnOf ss) (playS ss ops nt xs most) (min nt 64) w0 v w' := by
  have bad : ¬ GoodStart ss → rnOf ss = 0 → s0Of ss = (fun _ => 0, fun _ => 0) → Ccalls (lgA hP Post W0) 10 #[.slice sA ss.length sc, .slice tA nt cp, sv, .int .i64 most] () w0 fun v _ w' => PlayDone W0 (rnOf ss) (playS ss ops nt xs most) (min nt 64) w0 v w' := fun hb e1 e2 => by
    unfold playS
    rw [e1, e2, show doA 0 = doN from rfl]
    refine play_gen hP Post W0 0 _ (fun _ => nilRI) (fun _ => none) sA ss.length sc GI (fun _ => doN) tA Tb To nt cp htA hnt A len cap ops sv xs most w0 hW (fun z hz => ?_) (fun b s w _ => state_nil w) hrows hin hsch (fun b B i => ring_doN B i) (fun b B i => doN_ok B GI i)
    refine (begun_bad z sA sc ss (hst.blocks hz.block) hr hb).mono ?_
    rintro e w' ⟨rfl, rfl⟩
    exact ⟨rfl, trivial, Below.refl _ _, fun b hb => hb.elim⟩
  cases ss with
  | nil => exact bad (fun ⟨_, _, e, _⟩ => by cases e) rfl rfl
  | cons n vs =>
    by_cases hR : RightI n
    · clear bad
      obtain ⟨k, rfl⟩ : ∃ k : Nat, n = k := ⟨n.toNat, by have := hR.1; omega⟩
      have e1 : rnOf ((k : Int) :: vs) = k := (if_pos hR).trans (by simp)
      have e2 : s0Of ((k : Int) :: vs) = begS k vs vs.length := (if_pos hR).trans (by simp)
      obtain ⟨r1, r2, r3⟩ := hR
      have hk0 : 0 < k := by omega
      have hk2 : k ≤ 65536 := by omega
      unfold playS
      rw [e1, e2, show doA k = doG k from if_neg (by omega)]
      refine play_gen hP Post W0 k _ (ringRI k) (fun b => some ⟨b + 1, 0, none⟩) sA _ sc GI (fun _ => doG k) tA Tb To nt cp htA hnt A len cap ops sv xs most w0 hW (fun z hz => ?_) (fun b s w h => state_ok w (b + 1) b k _ _ h.r) hrows hin hsch (fun b B i => ring_doG B (b + 1) b k hk0 hk2 i) (fun b B i => doG_ok B (b + 1) b k GI i)
      refine (begun_ok z sA sc k vs hk0 hk2 r3 (hst.blocks hz.block) (by simp at hlen; omega)).mono ?_
      rintro e w' ⟨rfl, H1, B1, Z1, N1, N2⟩
      refine ⟨rfl, ⟨H1, N2, N1⟩, B1, fun b hb => ?_⟩
      rcases hb with rfl | rfl
      · obtain ⟨c, t, e⟩ := N2; exact ⟨⟨c, t, _, e, by decide⟩, by omega⟩
      · obtain ⟨c, t, e⟩ := N1; exact ⟨⟨c, t, _, e, by decide⟩, by omega⟩
    · exact bad (fun h => hR (goodStart_of h)) (if_neg hR) (if_neg hR)
theorem play_calls (hP : Prog Try.prog) (Post : Value → World → Prop) (W0 : World) (rn : Nat) (hrn : 0 < rn) (hr2 : rn ≤ 65536) (hbt : (bits BinOp.and IntKind.i64 (rn : Int) ((rn : Int) - 1) != 0) = false) (vs : List Int) (hlen : vs.length ≤ 4611686018427387903) (sA : Option Addr) (sc : Nat)
    (good : OpI → Prop) (doT : Nat → DoQ RSt) (Tb To nt cp : Nat) (hnt : nt ≤ maxLen) (A : Nat → Option Addr) (len cap : Nat → Nat) (ops : Nat → List OpI) (sv : Value) (xs : List Int) (most : Int) (w0 : World) (hW : W0.heap.size ≤ w0.heap.size)
    (hstart : NumsIn w0 sA sc ((rn : Int) :: vs)) (hrows : RowsAt w0 Tb To (min nt 64) A len cap) (hin : OpsCells W0 good w0 (min nt 64) A len ops) (hsch : SchI W0 sv xs (fun b => ∃ i o, i < min nt 64 ∧ A i = some ⟨b, o, none⟩) w0)
    (hD : ∀ (rb sb : Nat) (B : OpsB) i, DoLaw (B.on (ringI rb sb rn) good) i (doT i) 32 #[.pointer (some ⟨rb, 0, none⟩)] #[]) (hO : ∀ (rb sb : Nat) (B : OpsB) i, DoOk (B.on (ringI rb sb rn) good) i (doT i)) :
    Ccalls (lgA hP Post W0) 10 #[.slice sA (vs.length + 1) sc, .slice (some ⟨Tb, To, none⟩) nt cp, sv, .int .i64 most] () w0 fun v _ w' => PlayDone W0 rn (playRun (brQ doT ops) (min nt 64) (heldI most 1048576).toNat xs (begS rn vs vs.length, fun _ => [])) (min nt 64) w0 v w' := by
  refine play_gen hP Post W0 rn _ (ringRI rn) (fun b => some ⟨b + 1, 0, none⟩) sA _ sc good doT (some ⟨Tb, To, none⟩) Tb To nt cp (fun _ => rfl) hnt A len cap ops sv xs most w0 hW (fun z hz => ?_) (fun b s w h => state_ok w (b + 1) b rn _ _ h.r) hrows hin hsch (fun b B i => hD (b + 1) b B i) (fun b B i => hO (b + 1) b B i)
  refine (begun_ok z sA sc rn vs hrn hr2 hbt (hstart.blocks hz.block) hlen).mono ?_
  rintro e w' ⟨rfl, H1, B1, Z1, N1, N2⟩
  refine ⟨rfl, ⟨H1, N2, N1⟩, B1, fun b hb => ?_⟩
  rcases hb with rfl | rfl
  · obtain ⟨c, t, e⟩ := N2; exact ⟨⟨c, t, _, e, by decide⟩, by omega⟩
  · obtain ⟨c, t, e⟩ := N1; exact ⟨⟨c, t, _, e, by decide⟩, by omega⟩
end Go.Proofs.Yteainbnoemkfcaa
