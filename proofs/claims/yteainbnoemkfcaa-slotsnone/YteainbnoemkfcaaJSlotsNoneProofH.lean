/- DERIVED. The ring of slots (package slots), lone: the state; a ring begun with its first items. -/
import Derived.Test.YteainbnoemkfcaaJSlotsNoneProofG
import Derived.Laws.Cover1
/- DERIVED. The ring of slots (package slots) among threads: Put and Get as trees. -/
namespace Go.Proofs.Yteainbnoemkfcaa
open Go.RowKit Go.Turn Go.Tame Go.Conc
set_option linter.unusedVariables false
abbrev RSt : Type := (Nat → Int) × (Nat → Int)
/-- The ring in memory, its two blocks near. -/
structure RAt (rb sb n : Nat) (a : RSt) (w : World) : Prop where
  r : RingAt w rb sb n a.1 a.2
  b1 : ∃ c t, w.heap[rb]? = some (.cells c t (0, 0))
  b2 : ∃ c t, w.heap[sb]? = some (.cells c t (0, 0))
theorem RAt.law {rb sb n : Nat} (a : RSt) (w w' : World) (h : RAt rb sb n a w) (hs : ∀ b, b = rb ∨ b = sb → w'.heap[b]? = w.heap[b]?) : RAt rb sb n a w' := by
  have h1 := hs rb (.inl rfl)
  have h2 := hs sb (.inr rfl)
  obtain ⟨c1, t1, e1⟩ := h.b1
  obtain ⟨c2, t2, e2⟩ := h.b2
  exact ⟨⟨(World.cell?_of_block (w := w) h1).trans h.r.ring, fun i hi => (World.cell?_of_block (w := w) (a := ⟨sb, i * 2, none⟩) h2).trans (h.r.stamp i hi), fun i hi => (World.cell?_of_block (w := w) (a := ⟨sb, i * 2 + 1, none⟩) h2).trans (h.r.value i hi), fun i => (World.frozen?_of_block (w := w) (a := ⟨sb, i, none⟩) h2).trans (h.r.free i), h.r.pos, h.r.most, h.r.ne, lt_of_some (h1.trans e1), lt_of_some (h2.trans e2)⟩, ⟨c1, t1, h1.trans e1⟩, ⟨c2, t2, h2.trans e2⟩⟩
/-- The ring as an inner state. -/
def ringI (rb sb rn : Nat) : Inner := ⟨RSt, RAt rb sb rn, fun b => b = rb ∨ b = sb, RAt.law⟩
abbrev OpsB.ring (B : OpsB) (rb sb rn : Nat) (good : OpI → Prop) : OpsD := B.on (ringI rb sb rn) good
theorem held_in {H : Nat → Prop} (w : World) {p : Addr} (hp : H p.block) (v : Value) : Held H w H (w.setCell p v) :=
  ⟨by simp [World.setCell], fun b c t r hb hn _ => ⟨(Below.heap_setCell _ _ _ _ (fun e => hn (by rw [e]; exact hp))).trans hb, hn⟩⟩
theorem set_near {w : World} {d i : Nat} {v : Value} {b : Nat} (h : ∃ c t, w.heap[b]? = some (.cells c t (0, 0))) : ∃ c t, (w.setCell ⟨d, i, none⟩ v).heap[b]? = some (.cells c t (0, 0)) := by
  obtain ⟨c, t, h⟩ := h
  by_cases e : b = d
  · subst e
    exact ⟨_, _, (show Blk w b t c from h).set_ i v⟩
  · exact ⟨c, t, (Below.heap_setCell _ _ _ _ e).trans h⟩
section
variable {B : OpsB} {rb sb rn : Nat} {good : OpI → Prop}
theorem ring_stamp {s : (B.ring rb sb rn good).St} {H : Nat → Prop} {w : World} (h : RepO (B.ring rb sb rn good) s H w) {i : Nat} (hi : i < rn) (x : Int) : RepO (B.ring rb sb rn good) ((upd s.1.1 i x, s.1.2), s.2) H (w.setCell ⟨sb, i * 2, none⟩ (.int .i64 x)) ∧ Held H w H (w.setCell ⟨sb, i * 2, none⟩ (.int .i64 x)) := by
  have ha : RAt rb sb rn s.1 w := h.at_
  have hn : RAt rb sb rn (upd s.1.1 i x, s.1.2) (w.setCell ⟨sb, i * 2, none⟩ (.int .i64 x)) := ⟨ha.r.setStamp hi x, set_near ha.b1, set_near ha.b2⟩
  refine ⟨h.inner (a' := (upd s.1.1 i x, s.1.2)) hn (fun b hb hbi => Below.heap_setCell _ _ _ _ (fun e => hbi (.inr e))) (fun b hb => ?_), held_in w (h.bi sb (.inr rfl)) _⟩
  rcases hb with rfl | rfl
  · obtain ⟨c, t, e⟩ := hn.b1; exact ⟨c, t, _, e, by decide⟩
  · obtain ⟨c, t, e⟩ := hn.b2; exact ⟨c, t, _, e, by decide⟩
theorem ring_value {s : (B.ring rb sb rn good).St} {H : Nat → Prop} {w : World} (h : RepO (B.ring rb sb rn good) s H w) {i : Nat} (hi : i < rn) (x : Int) : RepO (B.ring rb sb rn good) ((s.1.1, upd s.1.2 i x), s.2) H (w.setCell ⟨sb, i * 2 + 1, none⟩ (.int .i64 x)) ∧ Held H w H (w.setCell ⟨sb, i * 2 + 1, none⟩ (.int .i64 x)) := by
  have ha : RAt rb sb rn s.1 w := h.at_
  have hn : RAt rb sb rn (s.1.1, upd s.1.2 i x) (w.setCell ⟨sb, i * 2 + 1, none⟩ (.int .i64 x)) := ⟨ha.r.setValue hi x, set_near ha.b1, set_near ha.b2⟩
  refine ⟨h.inner (a' := (s.1.1, upd s.1.2 i x)) hn (fun b hb hbi => Below.heap_setCell _ _ _ _ (fun e => hbi (.inr e))) (fun b hb => ?_), held_in w (h.bi sb (.inr rfl)) _⟩
  rcases hb with rfl | rfl
  · obtain ⟨c, t, e⟩ := hn.b1; exact ⟨c, t, _, e, by decide⟩
  · obtain ⟨c, t, e⟩ := hn.b2; exact ⟨c, t, _, e, by decide⟩
end
/-- A package's own step, at a stand. -/
theorem method_stand (n : Nat) (a : Addr) (w : World) : (method (n + 1) 116 (.pointer (some a)) "Step").run Try.prog w = .ok (79, .pointer (some a)) w := by kernel_rfl
set_option maxRecDepth 100000 in
theorem slots_step {D : OpsD} {L : Lg Try.prog (Tree D.St D.St)} {Cap : (Nat → Prop) → World → Prop} {sb : Nat} (hre : ∀ H w τ n, Cap H w → Cap H (w.re τ n)) (hcap : ∀ H w H' w', Cap H w → Held H w H' w' → Cap H' w') (hS : StepO D L Cap sb) (s : D.St) (H : Nat → Prop) (k : D.St → Tree D.St D.St) (w : World) (hr : RepO D s H w) (hc : Cap H w) :
    Ccalls L 40 #[.iface 116 (.pointer (some ⟨sb, 0, none⟩))] (.yield s k) w fun u t' w' => u = .tuple #[] ∧ ∃ s' H', t' = k s' ∧ (RepO D s' H' w' ∧ Cap H' w') ∧ Held H w H' w' := by
  intro c mid hR
  rw [show Frame.enter Try.prog 40 #[.iface 116 (.pointer (some ⟨sb, 0, none⟩))] .normal = Frame.at { (default : Frame) with fn := 40, kind := .normal } ⟨#[.iface 116 (.pointer (some ⟨sb, 0, none⟩))] ++ Array.replicate (Try.f40.ntmps - 1) undef, []⟩ [.code (Try.f40.body.getD .skip)] from by simp [Frame.enter, Frame.at, Try.func40]; rfl]
  simp only [Try.f40, Option.getD_some, Nat.reduceSub, Array.replicate_succ, Array.replicate_zero, List.push_toArray, List.append_toArray, List.nil_append, List.cons_append]
  refine Lg.move _ (fun _ _ => step_seq) (fun h => h) ?_
  have HR := Lib.hid hR
  have Hr := Lib.hid hr
  clear hR hr
  refine Lg.code fun K hK y τ n hy => ?_
  go_wp2
  refine hK _ _ (fun _ => rfl) ?_
  clear hK K
  subst hy
  refine Lg.move _ (fun _ _ => step_cond rfl) (fun h => h) ?_
  refine Lg.move _ (fun _ _ => step_region) (fun h => h) ?_
  refine Lg.pre 0 1 1 (by simp) fun K hK z τ3 n3 hz => ?_
  subst hz
  have hr : RepO D s H z := Hr.out.re.re
  have hc : Cap H z := hcap _ _ _ _ hc (re_held.2 (re_held.2 (Held.refl _ _)))
  have hm := fun wx => method_stand 244 ⟨sb, 0, none⟩ wx
  go_wp2
  refine hK _ _ (fun _ => rfl) ?_
  clear hK K
  refine Lg.call (i := 1) (rest := []) (f := 79) (args := #[.pointer (some ⟨sb, 0, none⟩)]) rfl rfl (fun y => ?_) (hS s H k z hr hc) ?_
  · go_simp
  rintro vv t' w' ⟨rfl, s', H', rfl, ⟨hr', hc'⟩, hh⟩
  rw [Frame.finish_at]
  walk_nrm
  refine Lg.move _ (fun _ _ => step_region_end) (fun h => h) ?_
  refine Lg.move _ (fun _ _ => step_end) (fun h => h) ?_
  exact Lg.leave rfl Try.func40 rfl (fun _ _ _ _ => by simp [results, Try.f40]) (HR.out _ _ _ ⟨rfl, s', H', rfl, ⟨hr', hc'⟩, re_held.2 (re_held.2 hh)⟩)
/-- Where a thread stands, since w0. -/
structure Now (D : OpsD) (Cap : (Nat → Prop) → World → Prop) (H0 : Nat → Prop) (w0 : World) (s : D.St) (H : Nat → Prop) (w : World) : Prop where
  rep : RepO D s H w
  cap0 : Cap H0 w0
  held : Held H0 w0 H w
/-- The cap is kept. -/
def CapK (Cap : (Nat → Prop) → World → Prop) : Prop := ∀ H w H' w', Cap H w → Held H w H' w' → Cap H' w'
theorem Now.re {D : OpsD} {Cap : (Nat → Prop) → World → Prop} {H0 H : Nat → Prop} {w0 y : World} {s : D.St} {τ : Nat → Question → Nat} {n : Nat} (hk : CapK Cap) (h : Now D Cap H0 w0 s H (y.re τ n)) : Now D Cap H0 w0 s H y :=
  ⟨h.rep.re, h.cap0, held_re.1 h.held⟩
theorem Now.to {D : OpsD} {Cap : (Nat → Prop) → World → Prop} {H0 H H' : Nat → Prop} {w0 w w' : World} {s s' : D.St} (hk : CapK Cap) (h : Now D Cap H0 w0 s H w) (h' : RepO D s' H' w' ∧ Held H w H' w') : Now D Cap H0 w0 s' H' w' :=
  ⟨h'.1, h.cap0, h.held.trans h'.2⟩
/-- A package's own step, from here. -/
def SStep (D : OpsD) (L : Lg Try.prog (Tree D.St D.St)) (Cap : (Nat → Prop) → World → Prop) (f : FuncId) (v : Value) : Prop :=
  ∀ H0 w0 s H k w, Now D Cap H0 w0 s H w → Ccalls L f #[v] (.yield s k) w fun u t' w' => u = .tuple #[] ∧ ∃ s' H', t' = k s' ∧ Now D Cap H0 w0 s' H' w'
theorem slots_sstep {D : OpsD} {L : Lg Try.prog (Tree D.St D.St)} {Cap : (Nat → Prop) → World → Prop} {sb : Nat} (hre : ∀ H w τ n, Cap H w → Cap H (w.re τ n)) (hcap : CapK Cap) (hS : StepO D L Cap sb) : SStep D L Cap 40 (.iface 116 (.pointer (some ⟨sb, 0, none⟩))) :=
  fun H0 w0 s H k w h => (slots_step hre hcap hS s H k w h.rep (hcap _ _ _ _ h.cap0 h.held)).mono fun v t' w' ⟨e, s', H', e2, h2, h3⟩ => ⟨e, s', H', e2, h2.1, h.cap0, h.held.trans h3⟩
/-- Put as a tree. -/
def putT {R : Type} (n : Nat) (q v : Int) (s : RSt × R) (k : RSt × R → Tree (RSt × R) (RSt × R)) : Tree (RSt × R) (RSt × R) :=
  .yield s fun s1 => .yield ((upd s1.1.1 (q % n).toNat (2 * (q / n) - 1), s1.1.2), s1.2) fun s2 => .yield ((s2.1.1, upd s2.1.2 (q % n).toNat v), s2.2) fun s3 => k ((upd s3.1.1 (q % n).toNat (2 * (q / n)), s3.1.2), s3.2)
theorem Now.drewN {D : OpsD} {Cap : (Nat → Prop) → World → Prop} {H0 H : Nat → Prop} {w0 y : World} {s : D.St} (hk : CapK Cap) (h : Now D Cap H0 w0 s H y) (n : Nat) : Now D Cap H0 w0 s H (y.drewN n) :=
  Now.re (τ := y.tape) (n := y.drawn) hk h
set_option maxHeartbeats 2000000 in
set_option maxRecDepth 100000 in
theorem slots_put {B : OpsB} {rb sb rn : Nat} {good : OpI → Prop} {L : Lg Try.prog (Tree (B.ring rb sb rn good).St (B.ring rb sb rn good).St)} {Cap : (Nat → Prop) → World → Prop} {V : Value} (hk : CapK Cap) (hS : SStep (B.ring rb sb rn good) L Cap 40 V) (hrn : 0 < rn) (h2 : rn ≤ 65536) (q v : Int) (h0 : 0 ≤ q) (h1 : q < 4611686018427387904) (H0 : Nat → Prop) (w0 : World) (s : (B.ring rb sb rn good).St) (H : Nat → Prop) (k) (w : World) (hn : Now (B.ring rb sb rn good) Cap H0 w0 s H w) :
    Ccalls L 23 #[.pointer (some ⟨rb, 0, none⟩), V, .int .i64 q, .int .i64 v] (putT rn q v s k) w fun u t' w' => u = .int .i64 0 ∧ ∃ s' H', t' = k s' ∧ Now (B.ring rb sb rn good) Cap H0 w0 s' H' w' := by
  have hb0 : 0 ≤ q % (rn : Int) := Int.emod_nonneg _ (by omega)
  have hb1 : q % (rn : Int) < rn := Int.emod_lt_of_pos _ (by omega)
  have hd0 : 0 ≤ q / (rn : Int) := Int.ediv_nonneg h0 (by omega)
  have hd1 : q / (rn : Int) ≤ q := Int.ediv_le_self _ h0
  intro c mid hR
  have HR := Lib.hid hR
  have HN := Lib.hid hn
  clear hR hn
  rw [show Frame.enter Try.prog 23 #[.pointer (some ⟨rb, 0, none⟩), V, .int .i64 q, .int .i64 v] .normal = Frame.at { (default : Frame) with fn := 23, kind := .normal } ⟨#[.pointer (some ⟨rb, 0, none⟩), V, .int .i64 q, .int .i64 v] ++ Array.replicate (Try.f23.ntmps - 4) undef, []⟩ [.code (Try.f23.body.getD .skip)] from by simp [Frame.enter, Frame.at, Try.func23]; rfl]
  simp only [Try.f23, Option.getD_some, Nat.reduceSub, Array.replicate_succ, Array.replicate_zero, List.push_toArray, List.append_toArray, List.nil_append, List.cons_append]
  unfold putT
  refine Lg.move _ (fun _ _ => step_seq) (fun h => h) ?_
  refine Lg.code fun K hK y τ n' hy => ?_
  subst hy
  have hn := HN.out.re hk
  clear HN
  have hr := (show RAt rb sb rn _ y from hn.rep.at_).r.ring
  have HN := Lib.hid hn
  clear hn
  go_wp2
  refine hK _ _ (fun _ => rfl) ?_
  clear hK K hr
  refine Lg.move _ (fun _ _ => step_seq) (fun h => h) ?_
  refine Lg.code fun K hK y τ n' hy => ?_
  subst hy
  have hn := HN.out.re hk
  clear HN
  have hr := (show RAt rb sb rn _ y from hn.rep.at_).r.ring
  have HN := Lib.hid hn
  clear hn
  go_wp2_with (go_at_call 38; refine (good_yes _ _ rn _ q _ hr hrn h0 h1).mono ?_; rintro e w' ⟨rfl, rfl⟩)
  refine hK _ _ (fun _ => rfl) ?_
  clear hK K hr
  refine Lg.move _ (fun _ _ => step_seq) (fun h => h) ?_
  refine Lg.code fun K hK y τ n' hy => ?_
  subst hy
  have hn := HN.out.re hk
  clear HN
  have hr := (show RAt rb sb rn _ y from hn.rep.at_).r.ring
  have HN := Lib.hid hn
  clear hn
  go_quiet (first | (go_at_call 18; exact quietS (slot_yes _ _ rn _ q _ hr hrn h2 h0 h1)) | (go_at_call 19; exact quietS (lap_yes _ _ rn _ q _ hr hrn h2 h0 h1)))
  refine hK _ _ (fun _ => rfl) ?_
  clear hK K hr
  have hn := HN.out.drewN hk nq
  generalize World.drewN _ nq = y' at hn ⊢
  clear HN
  have HN := Lib.hid hn
  clear hn
  refine Lg.move _ (fun _ _ => step_seq) (fun h => h) ?_
  refine Lg.move _ (fun _ _ => step_region) (fun h => h) ?_
  refine Lg.pre 0 1 1 (by simp) fun K hK z τ n' hz => ?_
  subst hz
  go_wp2
  refine hK _ _ (fun _ => rfl) ?_
  clear hK K
  refine Lg.call (i := 1) (rest := []) (f := 40) (args := #[V]) rfl rfl (fun y => by go_simp) (hS _ _ _ _ _ _ (HN.out.re hk)) ?_
  rintro vv t' w' ⟨rfl, s, H, rfl, hn⟩
  clear HN
  rw [Frame.finish_at]
  walk_nrm
  refine Lg.move _ (fun _ _ => step_region_end) (fun h => h) ?_
  have HN := Lib.hid hn
  clear hn
  refine Lg.move _ (fun _ _ => step_seq) (fun h => h) ?_
  refine Lg.code fun K hK y τ n' hy => ?_
  subst hy
  have hn := HN.out.re hk
  clear HN
  have hat : RAt rb sb rn _ y := hn.rep.at_
  have s0 := hat.r.stamp (q % (rn : Int)).toNat (by omega)
  have z0 := hat.r.free ((q % (rn : Int)).toNat * 2)
  have HN := Lib.hid hn
  clear hn hat
  go_wp2_with (go_at_call 36; refine (atomic_store _ _ _ _ s0 z0).mono ?_; rintro e w' ⟨rfl, rfl⟩)
  refine hK _ _ (fun _ => rfl) ?_
  clear hK K s0 z0
  have hn := HN.out.to hk (ring_stamp HN.out.rep (i := (q % (rn : Int)).toNat) (by omega) (2 * (q / (rn : Int)) - 1))
  clear HN
  have HN := Lib.hid hn
  clear hn
  generalize World.setCell _ _ _ = y' at HN ⊢
  refine Lg.move _ (fun _ _ => step_seq) (fun h => h) ?_
  refine Lg.move _ (fun _ _ => step_region) (fun h => h) ?_
  refine Lg.pre 0 1 1 (by simp) fun K hK z τ n' hz => ?_
  subst hz
  go_wp2
  refine hK _ _ (fun _ => rfl) ?_
  clear hK K
  refine Lg.call (i := 1) (rest := []) (f := 40) (args := #[V]) rfl rfl (fun y => by go_simp) (hS _ _ _ _ _ _ (HN.out.re hk)) ?_
  rintro vv t' w' ⟨rfl, s, H, rfl, hn⟩
  clear HN
  rw [Frame.finish_at]
  walk_nrm
  refine Lg.move _ (fun _ _ => step_region_end) (fun h => h) ?_
  have HN := Lib.hid hn
  clear hn
  refine Lg.move _ (fun _ _ => step_seq) (fun h => h) ?_
  refine Lg.code fun K hK y τ n' hy => ?_
  subst hy
  have hn := HN.out.re hk
  clear HN
  have hat : RAt rb sb rn _ y := hn.rep.at_
  have s0 := hat.r.value (q % (rn : Int)).toNat (by omega)
  have z0 := hat.r.free ((q % (rn : Int)).toNat * 2 + 1)
  have HN := Lib.hid hn
  clear hn hat
  go_wp2_with (go_at_call 36; refine (atomic_store _ _ _ _ s0 z0).mono ?_; rintro e w' ⟨rfl, rfl⟩)
  refine hK _ _ (fun _ => rfl) ?_
  clear hK K s0 z0
  have hn := HN.out.to hk (ring_value HN.out.rep (i := (q % (rn : Int)).toNat) (by omega) v)
  clear HN
  have HN := Lib.hid hn
  clear hn
  generalize World.setCell _ _ _ = y' at HN ⊢
  refine Lg.move _ (fun _ _ => step_seq) (fun h => h) ?_
  refine Lg.move _ (fun _ _ => step_region) (fun h => h) ?_
  refine Lg.pre 0 1 1 (by simp) fun K hK z τ n' hz => ?_
  subst hz
  go_wp2
  refine hK _ _ (fun _ => rfl) ?_
  clear hK K
  refine Lg.call (i := 1) (rest := []) (f := 40) (args := #[V]) rfl rfl (fun y => by go_simp) (hS _ _ _ _ _ _ (HN.out.re hk)) ?_
  rintro vv t' w' ⟨rfl, s, H, rfl, hn⟩
  clear HN
  rw [Frame.finish_at]
  walk_nrm
  refine Lg.move _ (fun _ _ => step_region_end) (fun h => h) ?_
  have HN := Lib.hid hn
  clear hn
  refine Lg.move _ (fun _ _ => step_seq) (fun h => h) ?_
  refine Lg.code fun K hK y τ n' hy => ?_
  subst hy
  have hn := HN.out.re hk
  clear HN
  have hat : RAt rb sb rn _ y := hn.rep.at_
  have s0 := hat.r.stamp (q % (rn : Int)).toNat (by omega)
  have z0 := hat.r.free ((q % (rn : Int)).toNat * 2)
  have HN := Lib.hid hn
  clear hn hat
  go_wp2_with (go_at_call 36; refine (atomic_store _ _ _ _ s0 z0).mono ?_; rintro e w' ⟨rfl, rfl⟩)
  refine hK _ _ (fun _ => rfl) ?_
  clear hK K s0 z0
  have hn := HN.out.to hk (ring_stamp HN.out.rep (i := (q % (rn : Int)).toNat) (by omega) (2 * (q / (rn : Int))))
  clear HN
  have HN := Lib.hid hn
  clear hn
  generalize World.setCell _ _ _ = y' at HN ⊢
  refine Lg.move _ (fun _ _ => step_seq) (fun h => h) ?_
  refine Lg.code fun K hK y τ n' hy => ?_
  subst hy
  have hn := HN.out.re hk
  clear HN
  have HN := Lib.hid hn
  clear hn
  go_wp2
  refine hK _ _ (fun _ => rfl) ?_
  refine Lg.move _ (fun _ _ => step_ret) (fun h => h) ?_
  refine Lg.leave rfl Try.func23 rfl (v := .int .i64 0) (fun _ _ _ _ => by simp [results, Try.f23]) (HR.out _ _ _ ⟨rfl, _, H, rfl, HN.out⟩)
/-- Get as a tree: a value and a reason. -/
def getT {R : Type} (n : Nat) (q : Int) (s : RSt × R) (k : Int → Int → RSt × R → Tree (RSt × R) (RSt × R)) : Tree (RSt × R) (RSt × R) :=
  .yield s fun s1 => if s1.1.1 (q % n).toNat < 2 * (q / n) then k 0 6 s1 else if 2 * (q / n) < s1.1.1 (q % n).toNat then k 0 10 s1 else
    .yield s1 fun s2 => .yield s2 fun s3 => if s3.1.1 (q % n).toNat = s1.1.1 (q % n).toNat then k (s2.1.2 (q % n).toNat) 0 s3 else k 0 10 s3
set_option maxHeartbeats 4000000 in
set_option maxRecDepth 100000 in
theorem slots_get {B : OpsB} {rb sb rn : Nat} {good : OpI → Prop} {L : Lg Try.prog (Tree (B.ring rb sb rn good).St (B.ring rb sb rn good).St)} {Cap : (Nat → Prop) → World → Prop} {V : Value} (hk : CapK Cap) (hS : SStep (B.ring rb sb rn good) L Cap 40 V) (hrn : 0 < rn) (h2 : rn ≤ 65536) (q : Int) (h0 : 0 ≤ q) (h1 : q < 4611686018427387904) (H0 : Nat → Prop) (w0 : World) (s : (B.ring rb sb rn good).St) (H : Nat → Prop) (k) (w : World) (hn : Now (B.ring rb sb rn good) Cap H0 w0 s H w) :
    Ccalls L 25 #[.pointer (some ⟨rb, 0, none⟩), V, .int .i64 q] (getT rn q s k) w fun u t' w' => ∃ x e s' H', u = .tuple #[.int .i64 x, .int .i64 e] ∧ t' = k x e s' ∧ Now (B.ring rb sb rn good) Cap H0 w0 s' H' w' := by
  have hb0 : 0 ≤ q % (rn : Int) := Int.emod_nonneg _ (by omega)
  have hb1 : q % (rn : Int) < rn := Int.emod_lt_of_pos _ (by omega)
  have hd0 : 0 ≤ q / (rn : Int) := Int.ediv_nonneg h0 (by omega)
  have hd1 : q / (rn : Int) ≤ q := Int.ediv_le_self _ h0
  intro c mid hR
  have HR := Lib.hid hR
  have HN := Lib.hid hn
  clear hR hn
  rw [show Frame.enter Try.prog 25 #[.pointer (some ⟨rb, 0, none⟩), V, .int .i64 q] .normal = Frame.at { (default : Frame) with fn := 25, kind := .normal } ⟨#[.pointer (some ⟨rb, 0, none⟩), V, .int .i64 q] ++ Array.replicate (Try.f25.ntmps - 3) undef, []⟩ [.code (Try.f25.body.getD .skip)] from by simp [Frame.enter, Frame.at, Try.func25]; rfl]
  simp only [Try.f25, Option.getD_some, Nat.reduceSub, Array.replicate_succ, Array.replicate_zero, List.push_toArray, List.append_toArray, List.nil_append, List.cons_append]
  unfold getT
  refine Lg.move _ (fun _ _ => step_seq) (fun h => h) ?_
  refine Lg.code fun K hK y τ n' hy => ?_
  subst hy
  have hn := HN.out.re hk
  clear HN
  have hr := (show RAt rb sb rn _ y from hn.rep.at_).r.ring
  have HN := Lib.hid hn
  clear hn
  go_wp2
  refine hK _ _ (fun _ => rfl) ?_
  clear hK K hr
  refine Lg.move _ (fun _ _ => step_seq) (fun h => h) ?_
  refine Lg.code fun K hK y τ n' hy => ?_
  subst hy
  have hn := HN.out.re hk
  clear HN
  have hr := (show RAt rb sb rn _ y from hn.rep.at_).r.ring
  have HN := Lib.hid hn
  clear hn
  go_wp2_with (go_at_call 38; refine (good_yes _ _ rn _ q _ hr hrn h0 h1).mono ?_; rintro e w' ⟨rfl, rfl⟩)
  refine hK _ _ (fun _ => rfl) ?_
  clear hK K hr
  refine Lg.move _ (fun _ _ => step_seq) (fun h => h) ?_
  refine Lg.code fun K hK y τ n' hy => ?_
  subst hy
  have hn := HN.out.re hk
  clear HN
  have hr := (show RAt rb sb rn _ y from hn.rep.at_).r.ring
  have HN := Lib.hid hn
  clear hn
  go_quiet (first | (go_at_call 18; exact quietS (slot_yes _ _ rn _ q _ hr hrn h2 h0 h1)) | (go_at_call 19; exact quietS (lap_yes _ _ rn _ q _ hr hrn h2 h0 h1)))
  refine hK _ _ (fun _ => rfl) ?_
  clear hK K hr
  have hn := HN.out.drewN hk nq
  generalize World.drewN _ nq = y' at hn ⊢
  clear HN
  have HN := Lib.hid hn
  clear hn
  refine Lg.move _ (fun _ _ => step_seq) (fun h => h) ?_
  refine Lg.move _ (fun _ _ => step_region) (fun h => h) ?_
  refine Lg.pre 0 1 1 (by simp) fun K hK z τ n' hz => ?_
  subst hz
  go_wp2
  refine hK _ _ (fun _ => rfl) ?_
  clear hK K
  refine Lg.call (i := 1) (rest := []) (f := 40) (args := #[V]) rfl rfl (fun y => by go_simp) (hS _ _ _ _ _ _ (HN.out.re hk)) ?_
  rintro vv t' w' ⟨rfl, s, H, rfl, hn⟩
  clear HN
  rw [Frame.finish_at]
  walk_nrm
  refine Lg.move _ (fun _ _ => step_region_end) (fun h => h) ?_
  have HN := Lib.hid hn
  clear hn
  refine Lg.move _ (fun _ _ => step_seq) (fun h => h) ?_
  refine Lg.code fun K hK y τ n' hy => ?_
  subst hy
  have hn := HN.out.re hk
  clear HN
  have hat : RAt rb sb rn _ y := hn.rep.at_
  have s0 := hat.r.stamp (q % (rn : Int)).toNat (by omega)
  have HN := Lib.hid hn
  clear hn hat
  go_wp2_with (go_at_call 39; refine (atomic_load _ _ _ s0).mono ?_; rintro e w' ⟨rfl, rfl⟩)
  refine hK _ _ (fun _ => rfl) ?_
  clear hK K s0
  generalize hx : s.1.1 (q % (rn : Int)).toNat = x
  refine Lg.move _ (fun _ _ => step_seq) (fun h => h) ?_
  refine Lg.move _ (fun _ _ => step_block) (fun h => h) ?_
  refine Lg.move _ (fun _ _ => step_seq) (fun h => h) ?_
  refine Lg.code fun K hK y τ n' hy => ?_
  subst hy
  have hn := HN.out.re hk
  clear HN
  have HN := Lib.hid hn
  clear hn
  go_wp2
  refine hK _ _ (fun _ => rfl) ?_
  clear hK K
  by_cases hlt : x < 2 * (q / (rn : Int))
  · simp only [hlt, decide_true, if_true]
    refine Lg.move _ (fun _ _ => step_cond (t := true) rfl) (fun h => h) ?_
    refine Lg.move _ (fun _ _ => step_seq) (fun h => h) ?_
    refine Lg.code fun K hK y τ n' hy => ?_
    subst hy
    have hn := HN.out.re hk
    clear HN
    have HN := Lib.hid hn
    clear hn
    go_wp2
    refine hK _ _ (fun _ => rfl) ?_
    clear hK K
    refine Lg.move _ (fun _ _ => step_ret) (fun h => h) ?_
    refine Lg.leave rfl Try.func25 rfl (v := .tuple #[.int .i64 0, .int .i64 6]) (fun _ _ _ _ => by simp [results, Try.f25]) (HR.out _ _ _ ⟨_, _, _, H, rfl, rfl, HN.out⟩)
  simp only [hlt, decide_false, if_false]
  refine Lg.move _ (fun _ _ => step_cond (t := false) rfl) (fun h => h) ?_
  refine Lg.move _ (fun _ _ => step_seq) (fun h => h) ?_
  refine Lg.code fun K hK y τ n' hy => ?_
  subst hy
  have hn := HN.out.re hk
  clear HN
  have HN := Lib.hid hn
  clear hn
  go_wp2
  refine hK _ _ (fun _ => rfl) ?_
  clear hK K
  by_cases hgt : 2 * (q / (rn : Int)) < x
  · simp only [hgt, decide_true, if_true]
    refine Lg.move _ (fun _ _ => step_cond (t := true) rfl) (fun h => h) ?_
    refine Lg.move _ (fun _ _ => step_seq) (fun h => h) ?_
    refine Lg.code fun K hK y τ n' hy => ?_
    subst hy
    have hn := HN.out.re hk
    clear HN
    have HN := Lib.hid hn
    clear hn
    go_wp2
    refine hK _ _ (fun _ => rfl) ?_
    clear hK K
    refine Lg.move _ (fun _ _ => step_ret) (fun h => h) ?_
    refine Lg.leave rfl Try.func25 rfl (v := .tuple #[.int .i64 0, .int .i64 10]) (fun _ _ _ _ => by simp [results, Try.f25]) (HR.out _ _ _ ⟨_, _, _, H, rfl, rfl, HN.out⟩)
  simp only [hgt, decide_false, if_false]
  refine Lg.move _ (fun _ _ => step_cond (t := false) rfl) (fun h => h) ?_
  refine Lg.move _ (fun _ _ => step_skip) (fun h => h) ?_
  refine Lg.move _ (fun _ _ => step_inBlock) (fun h => h) ?_
  refine Lg.move _ (fun _ _ => step_seq) (fun h => h) ?_
  refine Lg.move _ (fun _ _ => step_region) (fun h => h) ?_
  refine Lg.pre 0 1 1 (by simp) fun K hK z τ n' hz => ?_
  subst hz
  go_wp2
  refine hK _ _ (fun _ => rfl) ?_
  clear hK K
  refine Lg.call (i := 1) (rest := []) (f := 40) (args := #[V]) rfl rfl (fun y => by go_simp) (hS _ _ _ _ _ _ (HN.out.re hk)) ?_
  rintro vv t' w' ⟨rfl, s, H, rfl, hn⟩
  clear HN
  rw [Frame.finish_at]
  walk_nrm
  refine Lg.move _ (fun _ _ => step_region_end) (fun h => h) ?_
  have HN := Lib.hid hn
  clear hn
  refine Lg.move _ (fun _ _ => step_seq) (fun h => h) ?_
  refine Lg.code fun K hK y τ n' hy => ?_
  subst hy
  have hn := HN.out.re hk
  clear HN
  have hat : RAt rb sb rn _ y := hn.rep.at_
  have s0 := hat.r.value (q % (rn : Int)).toNat (by omega)
  have HN := Lib.hid hn
  clear hn hat
  go_wp2_with (go_at_call 39; refine (atomic_load _ _ _ s0).mono ?_; rintro e w' ⟨rfl, rfl⟩)
  refine hK _ _ (fun _ => rfl) ?_
  clear hK K s0
  refine Lg.move _ (fun _ _ => step_seq) (fun h => h) ?_
  refine Lg.move _ (fun _ _ => step_region) (fun h => h) ?_
  refine Lg.pre 0 1 1 (by simp) fun K hK z τ n' hz => ?_
  subst hz
  go_wp2
  refine hK _ _ (fun _ => rfl) ?_
  clear hK K
  refine Lg.call (i := 1) (rest := []) (f := 40) (args := #[V]) rfl rfl (fun y => by go_simp) (hS _ _ _ _ _ _ (HN.out.re hk)) ?_
  rintro vv t' w' ⟨rfl, s, H, rfl, hn⟩
  clear HN
  rw [Frame.finish_at]
  walk_nrm
  refine Lg.move _ (fun _ _ => step_region_end) (fun h => h) ?_
  have HN := Lib.hid hn
  clear hn
  refine Lg.move _ (fun _ _ => step_seq) (fun h => h) ?_
  refine Lg.move _ (fun _ _ => step_seq) (fun h => h) ?_
  refine Lg.code fun K hK y τ n' hy => ?_
  subst hy
  have hn := HN.out.re hk
  clear HN
  have hat : RAt rb sb rn _ y := hn.rep.at_
  have s0 := hat.r.stamp (q % (rn : Int)).toNat (by omega)
  have HN := Lib.hid hn
  clear hn hat
  go_wp2_with (go_at_call 39; refine (atomic_load _ _ _ s0).mono ?_; rintro e w' ⟨rfl, rfl⟩)
  refine hK _ _ (fun _ => rfl) ?_
  clear hK K s0
  generalize s.1.1 (q % (rn : Int)).toNat = z
  by_cases hne : z = x
  · subst hne
    simp only [bne_self_eq_false, if_true]
    refine Lg.move _ (fun _ _ => step_cond (t := false) rfl) (fun h => h) ?_
    refine Lg.move _ (fun _ _ => step_skip) (fun h => h) ?_
    refine Lg.move _ (fun _ _ => step_seq) (fun h => h) ?_
    refine Lg.code fun K hK y τ n' hy => ?_
    subst hy
    have hn := HN.out.re hk
    clear HN
    have HN := Lib.hid hn
    clear hn
    go_wp2
    refine hK _ _ (fun _ => rfl) ?_
    clear hK K
    refine Lg.move _ (fun _ _ => step_ret) (fun h => h) ?_
    refine Lg.leave rfl Try.func25 rfl (v := .tuple #[_, .int .i64 0]) (fun _ _ _ _ => by simp [results, Try.f25]) (HR.out _ _ _ ⟨_, _, _, H, rfl, rfl, HN.out⟩)
  · have hb : (z != x) = true := by simpa using hne
    simp only [hb, if_neg hne]
    refine Lg.move _ (fun _ _ => step_cond (t := true) rfl) (fun h => h) ?_
    refine Lg.move _ (fun _ _ => step_seq) (fun h => h) ?_
    refine Lg.code fun K hK y τ n' hy => ?_
    subst hy
    have hn := HN.out.re hk
    clear HN
    have HN := Lib.hid hn
    clear hn
    go_wp2
    refine hK _ _ (fun _ => rfl) ?_
    clear hK K
    refine Lg.move _ (fun _ _ => step_ret) (fun h => h) ?_
    refine Lg.leave rfl Try.func25 rfl (v := .tuple #[.int .i64 0, .int .i64 10]) (fun _ _ _ _ => by simp [results, Try.f25]) (HR.out _ _ _ ⟨_, _, _, H, rfl, rfl, HN.out⟩)
end Go.Proofs.Yteainbnoemkfcaa
/- DERIVED. The ring of slots (package slots) among threads: an operation (Ring.do), of kinds Put and Get. -/
namespace Go.Proofs.Yteainbnoemkfcaa
open Go.RowKit Go.Turn Go.Tame Go.Conc
set_option linter.unusedVariables false
/-- A block of one's own, new since w0. -/
structure Own1 (D : OpsD) (w0 : World) (H : Nat → Prop) (w : World) (b : Nat) (t : TypeId) (cs : Array Value) : Prop where
  blk : Blk w b t cs
  nh : ¬ H b
  ge : w0.heap.size ≤ b
  nr : ¬ D.RB b
section
variable {D : OpsD} {Cap : (Nat → Prop) → World → Prop} {H0 H H' : Nat → Prop} {w0 w w' y : World} {s s' : D.St} {b b' : Nat} {t t' : TypeId} {cs cs' : Array Value}
theorem Now.rlt (h : Now D Cap H0 w0 s H w) (hb : D.RB b) : b < w.heap.size := by
  obtain ⟨c, t, r, hv⟩ := D.rbc b hb
  obtain ⟨r', k⟩ := h.rep.rb b c t r hb hv
  exact lt_of_some k
theorem Now.alloc (h : Now D Cap H0 w0 s H w) (o : Obj) : Now D Cap H0 w0 s H (w.alloc o) := ⟨h.rep.alloc o, h.cap0, h.held.trans (Held.alloc H w o)⟩
theorem Now.own (h : Now D Cap H0 w0 s H w) (t : TypeId) (cs : Array Value) : Own1 D w0 H (w.alloc (.cells cs t)) w.heap.size t cs :=
  ⟨Blk.new w t cs, fun z => Nat.lt_irrefl _ (h.rep.lt z), h.held.size, fun z => Nat.lt_irrefl _ (h.rlt z)⟩
theorem Own1.alloc (h : Own1 D w0 H w b t cs) (o : Obj) : Own1 D w0 H (w.alloc o) b t cs := ⟨h.blk.alloc o, h.nh, h.ge, h.nr⟩
theorem Own1.set_ (h : Own1 D w0 H w b t cs) (i : Nat) (u : Value) : Own1 D w0 H (w.setCell ⟨b, i, none⟩ u) b t (cs.setIfInBounds i u) := ⟨h.blk.set_ i u, h.nh, h.ge, h.nr⟩
theorem Own1.far (h : Own1 D w0 H w b t cs) (hb : b ≠ b') (i : Nat) (u : Value) : Own1 D w0 H (w.setCell ⟨b', i, none⟩ u) b t cs := ⟨h.blk.far hb u, h.nh, h.ge, h.nr⟩
theorem Own1.held (h : Own1 D w0 H w b t cs) (hh : Held H w H' w') : Own1 D w0 H' w' b t cs := by
  obtain ⟨h1, h2⟩ := hh.block b cs t (0, 0) h.blk h.nh (.inl (by decide))
  exact ⟨h1, h2, h.ge, h.nr⟩
theorem Own1.re {τ : Nat → Question → Nat} {n : Nat} (h : Own1 D w0 H (y.re τ n) b t cs) : Own1 D w0 H y b t cs := ⟨h.blk, h.nh, h.ge, h.nr⟩
theorem Now.set_ (h : Now D Cap H0 w0 s H w) (ho : Own1 D w0 H w b t cs) (i : Nat) (u : Value) : Now D Cap H0 w0 s H (w.setCell ⟨b, i, none⟩ u) :=
  ⟨h.rep.set_ (p := ⟨b, i, none⟩) ho.nh ho.nr u, h.cap0, held_set h.held ho.ge u⟩
/-- From here on. -/
theorem Now.here (hk : CapK Cap) (h : Now D Cap H0 w0 s H w) : Now D Cap H w s H w := ⟨h.rep, hk _ _ _ _ h.cap0 h.held, Held.refl _ _⟩
theorem Now.on (h : Now D Cap H0 w0 s H w) (h' : Now D Cap H w s' H' w') : Now D Cap H0 w0 s' H' w' := ⟨h'.rep, h.cap0, h.held.trans h'.held⟩
/-- What is only added to. -/
theorem Now.kept (h : Now D Cap H0 w0 s H w) (hk : Kept (fun _ => False) w w') : Now D Cap H0 w0 s H w' :=
  ⟨RepO.law D s H w w' h.rep (fun b hb => hk.block b (h.rep.lt hb) id) fun b c t r _ hb => ⟨r, (hk.block b (lt_of_some hb) id).trans hb⟩, h.cap0, h.held.trans ⟨hk.size, fun b c t r hb hn _ => ⟨(hk.block b (lt_of_some hb) id).trans hb, hn⟩⟩⟩
theorem Own1.kept (h : Own1 D w0 H w b t cs) (hk : Kept (fun _ => False) w w') : Own1 D w0 H w' b t cs := ⟨(hk.block b h.blk.lt id).trans h.blk, h.nh, h.ge, h.nr⟩
end
/-- What is told of a reason. -/
theorem told_any (e : Int) (w : World) : Calls Try.prog 43 #[.int .i64 e] w fun x w' => x = .returned (.agg #[.bool (e == 0), .int .i64 e, .slice none 0 0]) ∧ Kept (fun _ => False) w w' := by
  go_enter Try.func43, Try.ntmps43
  go_wp2
  try simp only [Exit.inBlock, Exit.then]
  refine bodyPost_ret (v := .agg #[.bool (e == 0), .int .i64 e, .slice none 0 0]) ?_ rfl ?_
  · simp [results, Try.f43, go_sem]
  exact ⟨rfl, Kept.alloc _ _⟩
/-- An operation as a tree. -/
def doR (B : OpsB) (rb sb rn : Nat) (good : OpI → Prop) : (B.ring rb sb rn good).DoT := fun o st k =>
  if o.kind = 1 then putT rn o.a o.b st fun s => k ⟨true, 0, []⟩ s else if o.kind = 2 then getT rn o.a st fun x e s => k ⟨e == 0, wrap64 (e + x), []⟩ s else .cut
/-- Operations that are Puts and Gets in bounds. -/
def PG (o : OpI) : Prop := (o.kind = 1 ∨ o.kind = 2) ∧ 0 ≤ o.a ∧ o.a < 4611686018427387904
theorem own_nil (w : World) (base : Nat) (t : TypeId) (size : Nat) : w.ownsRow base t size (.slice none 0 0) 0 [] := ⟨by simp, .inl ⟨rfl, rfl⟩⟩
set_option maxHeartbeats 4000000 in
set_option maxRecDepth 100000 in
theorem ring_do (B : OpsB) (rb sb rn : Nat) (hrn : 0 < rn) (h2 : rn ≤ 65536) (i : Nat) : DoLaw (B.ring rb sb rn PG) i (doR B rb sb rn PG) 32 #[.pointer (some ⟨rb, 0, none⟩)] #[] := by
  intro tb L Cap hre hk hst o st H k w hgood hrep hcap
  have hS := slots_sstep hre hk hst
  have hn : Now (B.ring rb sb rn PG) Cap H w st H w := ⟨hrep, hcap, Held.refl _ _⟩
  generalize (Value.iface 116 (.pointer (some ⟨tb, 0, none⟩))) = V at hS ⊢
  suffices hmain : ∀ w0 H0, w0.heap.size = w.heap.size → Now (B.ring rb sb rn PG) Cap H0 w0 st H w → Ccalls L 32 #[.pointer (some ⟨rb, 0, none⟩), V, .int .i64 i, o.val] (doR B rb sb rn PG o st k) w fun v t' w' => ∃ a st' H' lv, t' = k a st' ∧ v = .agg #[.bool a.ok, .int .i64 a.n, lv] ∧ RepO (B.ring rb sb rn PG) st' H' w' ∧ Held H0 w0 H' w' ∧ w'.ownsRow w0.heap.size 2 1 lv a.ls.length (a.ls.map (Value.int .i64)) ∧ ∀ b, lv.ownBlock = some b → ¬ H' b from hmain w H rfl hn
  clear hrep hcap hn
  intro w0 H0 hsz hn c mid hR
  clear hsz
  have HR := Lib.hid hR
  have HN := Lib.hid hn
  clear hR hn
  obtain ⟨hkind, ha0, ha1⟩ := hgood
  obtain ⟨kd, oa, ob, oc⟩ := o
  rw [show Frame.enter Try.prog 32 #[.pointer (some ⟨rb, 0, none⟩), V, .int .i64 i, OpI.val ⟨kd, oa, ob, oc⟩] .normal = Frame.at { (default : Frame) with fn := 32, kind := .normal } ⟨#[.pointer (some ⟨rb, 0, none⟩), V, .int .i64 i, .agg #[.int .i64 kd, .int .i64 oa, .int .i64 ob, .int .i64 oc]] ++ Array.replicate (Try.f32.ntmps - 4) undef, []⟩ [.code (Try.f32.body.getD .skip)] from by simp [Frame.enter, Frame.at, Try.func32]; exact ⟨rfl, rfl⟩]
  simp only [Try.f32, Option.getD_some, Nat.reduceSub, Array.replicate_succ, Array.replicate_zero, List.push_toArray, List.append_toArray, List.nil_append, List.cons_append]
  refine Lg.move _ (fun _ _ => step_seq) (fun h => h) ?_
  refine Lg.code fun K hK y τ n' hy => ?_
  subst hy
  have hn := HN.out.re hk
  clear HN
  have HN := Lib.hid hn
  clear hn
  go_wp2
  refine hK _ _ (fun _ => rfl) ?_
  clear hK K
  have hb7 := (HN.out.own 49 #[.int .i64 kd, .int .i64 oa, .int .i64 ob, .int .i64 oc]).alloc (.cells #[.bool false, .int .i64 0, .slice none 0 0] 46)
  have hb8 := (HN.out.alloc (.cells #[.int .i64 kd, .int .i64 oa, .int .i64 ob, .int .i64 oc] 49)).own 46 #[.bool false, .int .i64 0, .slice none 0 0]
  have hn := (HN.out.alloc (.cells #[.int .i64 kd, .int .i64 oa, .int .i64 ob, .int .i64 oc] 49)).alloc (.cells #[.bool false, .int .i64 0, .slice none 0 0] 46)
  rw [show (y.alloc (.cells #[.int .i64 kd, .int .i64 oa, .int .i64 ob, .int .i64 oc] 49)).heap.size = y.heap.size + 1 from by simp] at hb8
  clear HN
  generalize (y.alloc (.cells #[.int .i64 kd, .int .i64 oa, .int .i64 ob, .int .i64 oc] 49)).alloc (.cells #[.bool false, .int .i64 0, .slice none 0 0] 46) = z at hn hb7 hb8 ⊢
  have hne : y.heap.size ≠ y.heap.size + 1 := by omega
  generalize y.heap.size + 1 = b8 at hb8 hne ⊢
  generalize y.heap.size = b7 at hb7 hne ⊢
  have HN := Lib.hid hn
  have HB7 := Lib.hid hb7
  have HB8 := Lib.hid hb8
  clear hn hb7 hb8
  refine Lg.move _ (fun _ _ => step_seq) (fun h => h) ?_
  refine Lg.code fun K hK y τ n' hy => ?_
  subst hy
  have hn := HN.out.re hk
  have hb7 := HB7.out.re
  have hb8 := HB8.out.re
  clear HN HB7 HB8
  have HN := Lib.hid hn
  have HB7 := Lib.hid hb7
  have HB8 := Lib.hid hb8
  clear hn hb7 hb8
  go_wp2
  refine hK _ _ (fun _ => rfl) ?_
  clear hK K
  refine Lg.move _ (fun _ _ => step_seq) (fun h => h) ?_
  refine Lg.move _ (fun _ _ => step_seq) (fun h => h) ?_
  refine Lg.code fun K hK y τ n' hy => ?_
  subst hy
  have hn := HN.out.re hk
  have hb7 := HB7.out.re
  have hb8 := HB8.out.re
  clear HN HB7 HB8
  have o0 := hb7.blk.cell 0
  have HN := Lib.hid hn
  have HB7 := Lib.hid hb7
  have HB8 := Lib.hid hb8
  clear hn hb7 hb8
  go_wp2
  refine hK _ _ (fun _ => rfl) ?_
  clear hK K o0
  refine Lg.move _ (fun _ _ => step_block) (fun h => h) ?_
  rcases hkind with rfl | rfl
  · refine Lg.move _ (fun _ _ => step_seq) (fun h => h) ?_
    refine Lg.code fun K hK y τ n' hy => ?_
    subst hy
    have hn := HN.out.re hk
    have hb7 := HB7.out.re
    have hb8 := HB8.out.re
    clear HN HB7 HB8
    have HN := Lib.hid hn
    have HB7 := Lib.hid hb7
    have HB8 := Lib.hid hb8
    clear hn hb7 hb8
    go_wp2
    refine hK _ _ (fun _ => rfl) ?_
    clear hK K
    refine Lg.move _ (fun _ _ => step_cond (t := true) rfl) (fun h => h) ?_
    refine Lg.move _ (fun _ _ => step_seq) (fun h => h) ?_
    refine Lg.move _ (fun _ _ => step_region) (fun h => h) ?_
    refine Lg.pre 0 6 3 (by simp) fun K hK z τ n' hz => ?_
    subst hz
    have hn := HN.out.re hk
    have hb7 := HB7.out.re
    have hb8 := HB8.out.re
    clear HN HB7 HB8
    have o1 := hb7.blk.cell 1
    have o2 := hb7.blk.cell 2
    have HN := Lib.hid hn
    have HB7 := Lib.hid hb7
    have HB8 := Lib.hid hb8
    clear hn hb7 hb8
    simp only [List.drop_zero, List.take_succ_cons, List.take_zero]
    go_wp2
    refine hK _ _ (fun _ => rfl) ?_
    clear hK K o1 o2
    rw [show doR B rb sb rn PG ⟨1, oa, ob, oc⟩ st k = putT rn oa ob st fun s => k ⟨true, 0, []⟩ s from if_pos rfl]
    refine Lg.call (i := 6) (rest := [7, 8]) (f := 23) (args := #[.pointer (some ⟨rb, 0, none⟩), V, .int .i64 oa, .int .i64 ob]) rfl rfl (fun y => by go_simp) (slots_put hk hS hrn h2 oa ob ha0 ha1 H z st H _ z (HN.out.here hk)) ?_
    rintro vv t' w' ⟨rfl, s', H', rfl, hn'⟩
    rw [Frame.finish_at]
    walk_nrm
    have hb7 := HB7.out.held hn'.held
    have hb8 := HB8.out.held hn'.held
    have hn := HN.out.on hn'
    clear HN HB7 HB8 hn'
    have HN := Lib.hid hn
    have HB7 := Lib.hid hb7
    have HB8 := Lib.hid hb8
    clear hn hb7 hb8
    refine (show L.T _ (Frame.at _ ⟨_, []⟩ (.inRegion _ (List.range' 7 (2 + 0)) :: _)) (c :: mid) w' from ?_)
    refine Lg.pre 7 2 0 (by simp) fun K hK z τ n' hz => ?_
    subst hz
    have hn := HN.out.re hk
    have hb7 := HB7.out.re
    have hb8 := HB8.out.re
    clear HN HB7 HB8
    have HN := Lib.hid hn
    have HB7 := Lib.hid hb7
    have HB8 := Lib.hid hb8
    clear hn hb7 hb8
    simp only [List.drop_succ_cons, List.drop_zero, List.take_succ_cons, List.take_zero]
    go_wp2_with (go_at_call 43; refine (told_any 0 _).mono ?_; rintro e w' ⟨rfl, hkept⟩; have hn := HN.out.kept hkept; have hb8 := HB8.out.kept hkept; have z0 := hb8.blk.frozen 0; have z1 := hb8.blk.frozen 1; have z2 := hb8.blk.frozen 2; have o0 := hb8.blk.cell 0; have o1 := hb8.blk.cell 1; have o2 := hb8.blk.cell 2; simp at o0 o1 o2)
    refine hK _ _ (fun _ => rfl) ?_
    clear hK K
    clear HN HB7 HB8 o0 o1 o2 z0 z1 z2
    have hbb := ((hb8.set_ 0 (.bool (true))).set_ 1 (.int .i64 (0))).set_ 2 (.slice none 0 0)
    have hnn := ((hn.set_ hb8 0 (.bool (true))).set_ (hb8.set_ 0 (.bool (true))) 1 (.int .i64 (0))).set_ ((hb8.set_ 0 (.bool (true))).set_ 1 (.int .i64 (0))) 2 (.slice none 0 0)
    simp only [List.setIfInBounds_toArray, List.set_cons_zero, List.set_cons_succ] at hbb
    generalize World.setCell _ _ _ = w6 at hbb hnn ⊢
    clear hn hb8
    refine Lg.move _ (fun _ _ => step_region_end) (fun h => h) ?_
    refine Lg.move _ (fun _ _ => step_ret) (fun h => h) ?_
    refine Lg.leave rfl Try.func32 rfl (v := .agg #[.bool (true), .int .i64 (0), .slice none 0 0]) (fun y τ n hy => ?_) (HR.out _ _ _ ⟨⟨true, 0, []⟩, _, _, _, rfl, rfl, hnn.rep, hnn.held, own_nil _ _ _ _, fun b hb => by simp [Value.ownBlock] at hb⟩)
    have c0 : y.cell? ⟨b8, 0, none⟩ = some (.bool (true)) := by have := hbb.blk.cell 0; rw [hy] at this; exact this
    have c1 : y.cell? ⟨b8, 1, none⟩ = some (.int .i64 (0)) := by have := hbb.blk.cell 1; rw [hy] at this; exact this
    have c2 : y.cell? ⟨b8, 2, none⟩ = some (.slice none 0 0) := by have := hbb.blk.cell 2; rw [hy] at this; exact this
    simp [results, Try.f32, go_sem, c0, c1, c2]
  · refine Lg.move _ (fun _ _ => step_seq) (fun h => h) ?_
    refine Lg.code fun K hK y τ n' hy => ?_
    subst hy
    have hn := HN.out.re hk
    have hb7 := HB7.out.re
    have hb8 := HB8.out.re
    clear HN HB7 HB8
    have HN := Lib.hid hn
    have HB7 := Lib.hid hb7
    have HB8 := Lib.hid hb8
    clear hn hb7 hb8
    go_wp2
    refine hK _ _ (fun _ => rfl) ?_
    clear hK K
    refine Lg.move _ (fun _ _ => step_cond (t := false) rfl) (fun h => h) ?_
    refine Lg.move _ (fun _ _ => step_seq) (fun h => h) ?_
    refine Lg.code fun K hK y τ n' hy => ?_
    subst hy
    have hn := HN.out.re hk
    have hb7 := HB7.out.re
    have hb8 := HB8.out.re
    clear HN HB7 HB8
    have HN := Lib.hid hn
    have HB7 := Lib.hid hb7
    have HB8 := Lib.hid hb8
    clear hn hb7 hb8
    go_wp2
    refine hK _ _ (fun _ => rfl) ?_
    clear hK K
    refine Lg.move _ (fun _ _ => step_cond (t := true) rfl) (fun h => h) ?_
    refine Lg.move _ (fun _ _ => step_seq) (fun h => h) ?_
    refine Lg.move _ (fun _ _ => step_region) (fun h => h) ?_
    refine Lg.pre 0 4 6 (by simp) fun K hK z τ n' hz => ?_
    subst hz
    have hn := HN.out.re hk
    have hb7 := HB7.out.re
    have hb8 := HB8.out.re
    clear HN HB7 HB8
    have o1 := hb7.blk.cell 1
    have HN := Lib.hid hn
    have HB7 := Lib.hid hb7
    have HB8 := Lib.hid hb8
    clear hn hb7 hb8
    simp only [List.drop_zero, List.take_succ_cons, List.take_zero]
    go_wp2
    refine hK _ _ (fun _ => rfl) ?_
    clear hK K o1
    rw [show doR B rb sb rn PG ⟨2, oa, ob, oc⟩ st k = getT rn oa st fun x e s => k ⟨e == 0, wrap64 (e + x), []⟩ s from (if_neg (show ¬ (2 : Int) = 1 by decide)).trans (if_pos rfl)]
    refine Lg.call (i := 4) (rest := [5, 6, 7, 8, 9]) (f := 25) (args := #[.pointer (some ⟨rb, 0, none⟩), V, .int .i64 oa]) rfl rfl (fun y => by go_simp) (slots_get hk hS hrn h2 oa ha0 ha1 H z st H _ z (HN.out.here hk)) ?_
    rintro vv t' w' ⟨x, e, s', H', rfl, rfl, hn'⟩
    rw [Frame.finish_at]
    walk_nrm
    have hb7 := HB7.out.held hn'.held
    have hb8 := HB8.out.held hn'.held
    have hn := HN.out.on hn'
    clear HN HB7 HB8 hn'
    have HN := Lib.hid hn
    have HB7 := Lib.hid hb7
    have HB8 := Lib.hid hb8
    clear hn hb7 hb8
    refine (show L.T _ (Frame.at _ ⟨_, []⟩ (.inRegion _ (List.range' 5 (5 + 0)) :: _)) (c :: mid) w' from ?_)
    refine Lg.pre 5 5 0 (by simp) fun K hK z τ n' hz => ?_
    subst hz
    have hn := HN.out.re hk
    have hb7 := HB7.out.re
    have hb8 := HB8.out.re
    clear HN HB7 HB8
    have HN := Lib.hid hn
    have HB7 := Lib.hid hb7
    have HB8 := Lib.hid hb8
    clear hn hb7 hb8
    simp only [List.drop_succ_cons, List.drop_zero, List.take_succ_cons, List.take_zero]
    go_wp2
    refine hK _ _ (fun _ => rfl) ?_
    clear hK K
    refine Lg.move _ (fun _ _ => step_region_end) (fun h => h) ?_
    refine Lg.move _ (fun _ _ => step_seq) (fun h => h) ?_
    refine Lg.code fun K hK y τ n' hy => ?_
    subst hy
    have hn := HN.out.re hk
    have hb7 := HB7.out.re
    have hb8 := HB8.out.re
    clear HN HB7 HB8
    have HN := Lib.hid hn
    have HB7 := Lib.hid hb7
    have HB8 := Lib.hid hb8
    clear hn hb7 hb8
    go_wp2_with (go_at_call 43; refine (told_any e _).mono ?_; rintro e' w' ⟨rfl, hkept⟩)
    refine hK _ _ (fun _ => rfl) ?_
    clear hK K
    have hn0 := HN.out.kept hkept
    have hb80 := HB8.out.kept hkept
    have hne2 : b8 ≠ w'.heap.size := fun h => by have := hb80.blk.lt; omega
    have hb7 := hn0.own 46 #[.bool (e == 0), .int .i64 e, .slice none 0 0]
    have hb8 := hb80.alloc (.cells #[.bool (e == 0), .int .i64 e, .slice none 0 0] 46)
    have hn := hn0.alloc (.cells #[.bool (e == 0), .int .i64 e, .slice none 0 0] 46)
    clear hn0 hb80 HN HB7 HB8 hkept hne
    generalize w'.alloc (.cells #[.bool (e == 0), .int .i64 e, .slice none 0 0] 46) = v at hn hb7 hb8 ⊢
    generalize w'.heap.size = b7' at hb7 hne2 ⊢
    have HN := Lib.hid hn
    have HB7 := Lib.hid hb7
    have HB8 := Lib.hid hb8
    clear hn hb7 hb8
    refine Lg.move _ (fun _ _ => step_seq) (fun h => h) ?_
    refine Lg.code fun K hK y τ n' hy => ?_
    subst hy
    have hn := HN.out.re hk
    have hb7 := HB7.out.re
    have hb8 := HB8.out.re
    clear HN HB7 HB8
    have o1 := hb7.blk.cell 1
    have z1 := hb7.blk.frozen 1
    have HN := Lib.hid hn
    have HB7 := Lib.hid hb7
    have HB8 := Lib.hid hb8
    clear hn hb7 hb8
    go_wp2
    refine hK _ _ (fun _ => rfl) ?_
    clear hK K o1 z1
    have hn := HN.out.set_ HB7.out 1 (.int .i64 (wrap64 (e + x)))
    have hb8 := HB8.out.far hne2 1 (.int .i64 (wrap64 (e + x)))
    have hb7 := HB7.out.set_ 1 (.int .i64 (wrap64 (e + x)))
    simp only [List.setIfInBounds_toArray, List.set_cons_zero, List.set_cons_succ] at hb7
    clear HN HB7 HB8
    generalize World.setCell _ _ _ = y' at hn hb7 hb8 ⊢
    have HN := Lib.hid hn
    have HB7 := Lib.hid hb7
    have HB8 := Lib.hid hb8
    clear hn hb7 hb8
    refine Lg.move _ (fun _ _ => step_seq) (fun h => h) ?_
    refine Lg.move _ (fun _ _ => step_region) (fun h => h) ?_
    refine Lg.pre 0 2 0 (by simp) fun K hK y τ n' hy => ?_
    subst hy
    have hn := HN.out.re hk
    have hb7 := HB7.out.re
    have hb8 := HB8.out.re
    clear HN HB7 HB8
    have p0 := hb7.blk.cell 0
    have p1 := hb7.blk.cell 1
    have p2 := hb7.blk.cell 2
    have o0 := hb8.blk.cell 0
    have o1 := hb8.blk.cell 1
    have o2 := hb8.blk.cell 2
    have z0 := hb8.blk.frozen 0
    have z1 := hb8.blk.frozen 1
    have z2 := hb8.blk.frozen 2
    simp at p0 p1 p2 o0 o1 o2
    simp only [List.drop_zero, List.take_succ_cons, List.take_zero]
    have HN := Lib.hid hn
    have HB8 := Lib.hid hb8
    clear hn hb7 hb8
    go_wp2
    refine hK _ _ (fun _ => rfl) ?_
    clear hK K o0 o1 o2 z0 z1 z2 p0 p1 p2
    have hn := HN.out
    have hb8 := HB8.out
    clear HN HB8
    have hbb := ((hb8.set_ 0 (.bool (e == 0))).set_ 1 (.int .i64 (wrap64 (e + x)))).set_ 2 (.slice none 0 0)
    have hnn := ((hn.set_ hb8 0 (.bool (e == 0))).set_ (hb8.set_ 0 (.bool (e == 0))) 1 (.int .i64 (wrap64 (e + x)))).set_ ((hb8.set_ 0 (.bool (e == 0))).set_ 1 (.int .i64 (wrap64 (e + x)))) 2 (.slice none 0 0)
    simp only [List.setIfInBounds_toArray, List.set_cons_zero, List.set_cons_succ] at hbb
    generalize World.setCell _ _ _ = w6 at hbb hnn ⊢
    clear hn hb8
    refine Lg.move _ (fun _ _ => step_region_end) (fun h => h) ?_
    refine Lg.move _ (fun _ _ => step_ret) (fun h => h) ?_
    refine Lg.leave rfl Try.func32 rfl (v := .agg #[.bool (e == 0), .int .i64 (wrap64 (e + x)), .slice none 0 0]) (fun y τ n hy => ?_) (HR.out _ _ _ ⟨⟨e == 0, wrap64 (e + x), []⟩, _, _, _, rfl, rfl, hnn.rep, hnn.held, own_nil _ _ _ _, fun b hb => by simp [Value.ownBlock] at hb⟩)
    have c0 : y.cell? ⟨b8, 0, none⟩ = some (.bool (e == 0)) := by have := hbb.blk.cell 0; rw [hy] at this; exact this
    have c1 : y.cell? ⟨b8, 1, none⟩ = some (.int .i64 (wrap64 (e + x))) := by have := hbb.blk.cell 1; rw [hy] at this; exact this
    have c2 : y.cell? ⟨b8, 2, none⟩ = some (.slice none 0 0) := by have := hbb.blk.cell 2; rw [hy] at this; exact this
    simp [results, Try.f32, go_sem, c0, c1, c2]
end Go.Proofs.Yteainbnoemkfcaa
/- DERIVED. Threads that do operations are made (package turn: doing). -/
namespace Go.Proofs.Yteainbnoemkfcaa
open Go.RowKit Go.Turn Go.Tame Go.Conc
set_option linter.unusedVariables false
/-- A row of lists of operations, at most 65536 of each. -/
structure RowsAt (w : World) (Tb To : Nat) (n : Nat) (A : Nat → Option Addr) (len cap : Nat → Nat) : Prop where
  row : ∀ i, i < n → w.cell? ⟨Tb, To + i, none⟩ = some (.slice (A i) (len i) (cap i))
  le : ∀ i, i < n → len i ≤ cap i
  max : ∀ i, i < n → cap i ≤ maxLen
  nil : ∀ i, i < n → A i = none → cap i = 0
def closure (opb ib : Nat → Nat) (dob anb i : Nat) : Value := .func (.func 52) #[] #[.pointer (some ⟨opb i, 0, none⟩), .pointer (some ⟨dob, 0, none⟩), .pointer (some ⟨ib i, 0, none⟩), .pointer (some ⟨anb, 0, none⟩)]
/-- j threads have been made. -/
structure MadeT (w0 : World) (n j : Nat) (fv : Value) (A : Nat → Option Addr) (len cap : Nat → Nat) (dob ab anb : Nat) (opb ib : Nat → Nat) (lv : Value) (w : World) : Prop where
  d : Blk w dob 75 #[fv]
  a : Blk w ab 44 (Array.replicate n (.slice none 0 0))
  an : Blk w anb 29 #[.slice (some ⟨ab, 0, none⟩) n n]
  i : ∀ i, i < j → Blk w (ib i) 3 #[.int .i64 i]
  o : ∀ i, i < j → Blk w (opb i) 34 #[.slice (A i) (min (len i) 65536) (cap i)]
  ge : w0.heap.size ≤ dob ∧ w0.heap.size ≤ ab ∧ w0.heap.size ≤ anb ∧ ∀ i, i < j → w0.heap.size ≤ ib i ∧ w0.heap.size ≤ opb i
  own : w.ownsRow w0.heap.size 92 1 lv j ((List.range j).map (closure opb ib dob anb))
  old : Old w0.heap.size w0 w
theorem MadeT.re {w0 y : World} {n j : Nat} {fv : Value} {A : Nat → Option Addr} {len cap : Nat → Nat} {dob ab anb : Nat} {opb ib : Nat → Nat} {lv : Value} {τ : Nat → Question → Nat} {d : Nat} (h : MadeT w0 n j fv A len cap dob ab anb opb ib lv (y.re τ d)) : MadeT w0 n j fv A len cap dob ab anb opb ib lv y :=
  ⟨h.d, h.a, h.an, h.i, h.o, h.ge, h.own, h.old.re⟩
theorem MadeT.alloc {w0 w : World} {n j : Nat} {fv : Value} {A : Nat → Option Addr} {len cap : Nat → Nat} {dob ab anb : Nat} {opb ib : Nat → Nat} {lv : Value} (h : MadeT w0 n j fv A len cap dob ab anb opb ib lv w) (o : Obj) : MadeT w0 n j fv A len cap dob ab anb opb ib lv (w.alloc o) :=
  ⟨h.d.alloc o, h.a.alloc o, h.an.alloc o, fun i hi => (h.i i hi).alloc o, fun i hi => (h.o i hi).alloc o, h.ge, h.own.alloc o, h.old.new h.old.size o⟩
theorem MadeT.snoc {w0 q w1 : World} {n j : Nat} {fv : Value} {A : Nat → Option Addr} {len cap : Nat → Nat} {dob ab anb b9 b10 lc g cp' : Nat} {LA : Option Addr} {opb ib : Nat → Nat} (h : MadeT w0 n j fv A len cap dob ab anb opb ib (.slice LA j lc) q) (hb9 : Blk q b9 3 #[.int .i64 j]) (hb10 : Blk q b10 34 #[.slice (A j) (min (len j) 65536) (cap j)]) (g9 : w0.heap.size ≤ b9) (g10 : w0.heap.size ≤ b10)
    (hown : w1.ownsRow w0.heap.size 92 1 (.slice (some ⟨g, 0, none⟩) (j + 1) cp') (j + 1) ((List.range j).map (closure opb ib dob anb) ++ [closure (fun _ => b10) (fun _ => b9) dob anb 0])) (hgrow : q.grownBy w1 (Value.slice LA j lc).ownBlock) :
    MadeT w0 n (j + 1) fv A len cap dob ab anb (fun i => if i = j then b10 else opb i) (fun i => if i = j then b9 else ib i) (.slice (some ⟨g, 0, none⟩) (j + 1) cp') w1 := by
  have hrow : ∀ b, (Value.slice LA j lc).ownBlock = some b → w0.heap.size ≤ b ∧ ∃ cur, q.heap[b]? = some (.cells cur 92 (0, 0)) := fun b hb => by
    rcases h.own.2 with ⟨h1, _⟩ | ⟨g, c', cur, h1, h2, h3, _⟩
    · rw [h1] at hb; simp [Value.ownBlock] at hb
    · rw [h1] at hb
      simp only [Value.ownBlock, Option.some.injEq] at hb
      subst hb
      exact ⟨h2, cur, h3⟩
  have key : ∀ {b : Nat} {t : TypeId} {c : Array Value}, Blk q b t c → t ≠ 92 → Blk w1 b t c := fun {b t c} hb ht => hb.grown hgrow fun e => by
    obtain ⟨_, cur, h2⟩ := hrow b e.symm
    exact ht (by unfold Blk at hb; rw [hb] at h2; simp at h2; exact h2.2)
  refine ⟨key h.d (by decide), key h.a (by decide), key h.an (by decide), fun i hi => ?_, fun i hi => ?_, ⟨h.ge.1, h.ge.2.1, h.ge.2.2.1, fun i hi => ?_⟩, ?_, ⟨Nat.le_trans h.old.size hgrow.size, fun b hb => ?_, hgrow.os.trans h.old.io.1, hgrow.output.trans h.old.io.2⟩⟩
  · by_cases e : i = j
    · subst e; simp only [if_true]; exact key hb9 (by decide)
    · simp only [e, if_false]; exact key (h.i i (by omega)) (by decide)
  · by_cases e : i = j
    · subst e; simp only [if_true]; exact key hb10 (by decide)
    · simp only [e, if_false]; exact key (h.o i (by omega)) (by decide)
  · by_cases e : i = j
    · simp only [e, if_true]; exact ⟨g9, g10⟩
    · simp only [e, if_false]; exact h.ge.2.2.2 i (by omega)
  · have e : (List.range (j + 1)).map (closure (fun i => if i = j then b10 else opb i) (fun i => if i = j then b9 else ib i) dob anb) = (List.range j).map (closure opb ib dob anb) ++ [closure (fun _ => b10) (fun _ => b9) dob anb 0] := by
      rw [List.range_succ, List.map_append, List.map_cons, List.map_nil]
      congr 1
      · apply List.map_congr_left
        intro i hi
        have : i ≠ j := by have := List.mem_range.1 hi; omega
        simp [closure, this]
      · simp [closure]
    rw [e]
    exact hown
  · exact (hgrow.block b (by have := h.old.size; omega) (fun e => by have := (hrow b e.symm).1; omega)).trans (h.old.block b hb)
theorem Try.infoFunc : (Try.prog.info? 92).map (fun i => (i.zero, i.size, i.bytes)) = some (some .nilFunc, 1, 8) := by kernel_rfl
theorem Try.infoAnsS : (Try.prog.info? 44).map (fun i => (i.zero, i.size, i.bytes)) = some (some (.slice none 0 0), 1, 24) := by kernel_rfl
theorem new_answers (n : Nat) : madeCells (Value.slice none 0 0).cells (n * 1) = Array.replicate n (.slice none 0 0) := by
  apply Array.ext (by simp [madeCells])
  intro i h1 h2
  simp [madeCells, Value.cells, Nat.mod_one]
theorem make_answers (w : World) (n : Nat) (hn : n ≤ 64) : (Instr.makeSlice 29 (.int .i64 n) (.int .i64 n)).run Try.prog w = .ok (.slice (some ⟨w.heap.size, 0, none⟩) n n) (w.alloc (.cells (Array.replicate n (.slice none 0 0)) 44)) := by
  obtain ⟨i, hi, h0, h1, h2⟩ := info_parts Try.infoAnsS
  have := run_make w 29 44 i _ Try.underlying29 hi h0 .i64 .i64 n n (by omega) (by omega) (by rw [h2]; omega) (by omega)
  rw [h1] at this
  rw [this, new_answers]
  simp

abbrev frM (f : Nat → Value) : Array Value := #[f 0, f 1, f 2, f 3, f 4, f 5, f 6, f 7, f 8, f 9, f 10, f 11, f 12, f 13, f 14, f 15, f 16, f 17, f 18, f 19, f 20, f 21, f 22, f 23, f 24, f 25, f 26, f 27, f 28, f 29, f 30, f 31, f 32, f 33, f 34, f 35, f 36, f 37]
set_option maxHeartbeats 2000000 in
set_option maxRecDepth 100000 in
theorem doing_calls {κ : Type} (L : Lg Try.prog κ) (hs : ¬ L.strict) (t : κ) (Tb To : Nat) (nt cp : Nat) (hnt : nt ≤ maxLen) (fd : FuncId) (bd cs : Array Value) (A : Nat → Option Addr) (len cap : Nat → Nat) (w0 : World) (hrows : RowsAt w0 Tb To (min nt 64) A len cap) :
    Ccalls L 41 #[.slice (some ⟨Tb, To, none⟩) nt cp, .func (.func fd) bd cs] t w0 fun v t' w' => t' = t ∧ ∃ dob ab anb opb ib lv, v = .tuple #[lv, .slice (some ⟨ab, 0, none⟩) (min nt 64 : Nat) (min nt 64 : Nat)] ∧ MadeT w0 (min nt 64) (min nt 64) (.func (.func fd) bd cs) A len cap dob ab anb opb ib lv w' := by
  intro c mid hR
  have HR := Lib.hid hR
  clear hR
  unfold maxLen at hnt
  rw [show Frame.enter Try.prog 41 #[.slice (some ⟨Tb, To, none⟩) nt cp, .func (.func fd) bd cs] .normal = Frame.at { (default : Frame) with fn := 41, kind := .normal } ⟨#[.slice (some ⟨Tb, To, none⟩) nt cp, .func (.func fd) bd cs] ++ Array.replicate (Try.f41.ntmps - 2) undef, []⟩ [.code (Try.f41.body.getD .skip)] from by simp [Frame.enter, Frame.at, Try.func41]; rfl]
  simp only [Try.f41, Option.getD_some, Nat.reduceSub, Array.replicate_succ, Array.replicate_zero, List.push_toArray, List.append_toArray, List.nil_append, List.cons_append]
  refine Lg.move _ (fun _ _ => step_seq) (fun h => h) ?_
  refine Lg.code fun K hK y τ n' hy => ?_
  have hold : Old w0.heap.size w0 y := by rw [hy]; exact (Old.refl _ (y.re τ n')).re
  have hsz : w0.heap.size = y.heap.size := by rw [hy]; rfl
  clear hy
  go_wp2
  refine hK _ _ (fun h => absurd h hs) ?_
  clear hK K
  have hd := Blk.new y 75 #[.func (.func fd) bd cs]
  have hold := hold.new (by omega) (.cells #[.func (.func fd) bd cs] 75)
  generalize y.alloc (.cells #[.func (.func fd) bd cs] 75) = z at hd hold ⊢
  generalize hdob : y.heap.size = dob at hd hsz ⊢
  have HSZ := Lib.hid hsz
  clear hsz hdob
  refine Lg.move _ (fun _ _ => step_seq) (fun h => h) ?_
  refine Lg.codeF hs ([6] ++ List.range' 11 3) (fun f w' => f 6 = .int .i64 (min nt 64 : Nat) ∧ Blk w' dob 75 #[.func (.func fd) bd cs] ∧ Old w0.heap.size w0 w') (fun v τ' n' hv => ?_) ?_
  · subst hv
    have hd : Blk v dob _ _ := hd
    have hold := hold.re
    go_wp2
    all_goals
      refine ⟨rfl, rfl, ?_, hd, hold⟩
      first
        | (rw [show min nt 64 = nt by omega]; rfl)
        | (rw [show min nt 64 = 64 by omega]; rfl)
  clear hd hold
  rintro f w1 ⟨f6, hd, hold⟩
  have hn64 : min nt 64 ≤ 64 := by omega
  have hnnt : min nt 64 ≤ nt := by omega
  generalize min nt 64 = n at *
  simp only [fill, fillL, List.range', List.cons_append, List.nil_append, List.set_cons_zero, List.set_cons_succ, Nat.reduceAdd, f6]
  generalize f 11 = u11
  generalize f 12 = u12
  generalize f 13 = u13
  clear f6 f
  refine Lg.move _ (fun _ _ => step_seq) (fun h => h) ?_
  refine Lg.code fun K hK v τ n' hv => ?_
  subst hv
  have hd : Blk v dob _ _ := hd
  have hold := hold.re
  have HD := Lib.hid hd
  have hm := fun w => make_answers w n hn64
  clear hd
  go_wp2
  refine hK _ _ (fun h => absurd h hs) ?_
  clear hK K hm
  have hab := Blk.new v 44 (Array.replicate n (.slice none 0 0))
  have hd := (HD.out.alloc (.cells (Array.replicate n (.slice none 0 0)) 44)).alloc (.cells #[.slice (some ⟨v.heap.size, 0, none⟩) n n] 29)
  have ha := hab.alloc (.cells #[.slice (some ⟨v.heap.size, 0, none⟩) n n] 29)
  have han := Blk.new (v.alloc (.cells (Array.replicate n (.slice none 0 0)) 44)) 29 #[.slice (some ⟨v.heap.size, 0, none⟩) n n]
  rw [show (v.alloc (.cells (Array.replicate n (.slice none 0 0)) 44)).heap.size = v.heap.size + 1 from by simp] at han
  have hsz0 := hold.size
  have hold2 := (hold.new hsz0 (.cells (Array.replicate n (.slice none 0 0)) 44)).new (by simp; omega) (.cells #[.slice (some ⟨v.heap.size, 0, none⟩) n n] 29)
  clear hab hold HD
  generalize (v.alloc (.cells (Array.replicate n (.slice none 0 0)) 44)).alloc (.cells #[.slice (some ⟨v.heap.size, 0, none⟩) n n] 29) = w2 at hd ha han hold2 ⊢
  have hlo : w0.heap.size ≤ v.heap.size + 1 := by omega
  generalize v.heap.size + 1 = anb at han hlo ⊢
  generalize v.heap.size = ab at ha han hsz0 ⊢
  have hM : MadeT w0 n 0 (.func (.func fd) bd cs) A len cap dob ab anb (fun _ => 0) (fun _ => 0) (.slice none 0 0) w2 :=
    ⟨hd, ha, han, fun _ h => by omega, fun _ h => by omega, ⟨by have := HSZ.out; omega, hsz0, hlo, fun _ h => by omega⟩, ⟨rfl, .inl ⟨rfl, rfl⟩⟩, hold2⟩
  clear hd ha han hsz0 hlo hold2 HSZ
  have HM := Lib.hid hM
  clear hM
  refine Lg.move _ (fun _ _ => step_seq) (fun h => h) ?_
  refine Lg.code fun K hK v τ n' hv => ?_
  subst hv
  have hM := HM.out.re
  clear HM
  have HM := Lib.hid hM
  clear hM
  go_wp2
  refine hK _ _ (fun h => absurd h hs) ?_
  clear hK K
  refine Lg.move _ (fun _ _ => step_seq) (fun h => h) ?_
  refine Lg.move _ (fun _ _ => step_seq) (fun h => h) ?_
  refine Lg.code fun K hK v τ n' hv => ?_
  subst hv
  have hM := HM.out.re
  clear HM
  have HM := Lib.hid hM
  clear hM
  go_wp2
  refine hK _ _ (fun h => absurd h hs) ?_
  clear hK K
  refine Lg.move _ (fun _ _ => step_block) (fun h => h) ?_
  refine Lg.family frM (R := fun f => f 0 = .slice (some ⟨Tb, To, none⟩) nt cp ∧ f 3 = .pointer (some ⟨dob, 0, none⟩) ∧ f 7 = .pointer (some ⟨anb, 0, none⟩) ∧ f 8 = .slice none 0 0 ∧ f 16 = .int .i64 n ∧ f 17 = .int .i64 0) ?_ (by rfl) ⟨rfl, rfl, rfl, rfl, rfl, rfl⟩
  rintro f1 ⟨m0, m3, m7, m8, m16, m17⟩
  refine Lg.loop_fr frM (fun f t' w => t' = t ∧ ∃ j : Nat, j ≤ n ∧ ∃ opb ib lv, f 0 = .slice (some ⟨Tb, To, none⟩) nt cp ∧ f 3 = .pointer (some ⟨dob, 0, none⟩) ∧ f 7 = .pointer (some ⟨anb, 0, none⟩) ∧ f 8 = lv ∧ f 16 = .int .i64 n ∧ f 17 = .int .i64 j ∧ MadeT w0 n j (.func (.func fd) bd cs) A len cap dob ab anb opb ib lv w) (fun f _ _ => n - (intOf (f 17)).toNat) ⟨rfl, 0, Nat.zero_le _, fun _ => 0, fun _ => 0, .slice none 0 0, m0, m3, m7, m8, m16, m17, HM.out⟩ ?_
  clear HM m0 m3 m7 m8 m16 m17 f1
  rintro f2 t' w ⟨rfl, j, hj, opb, ib, lv, k0, k3, k7, k8, k16, k17, hM⟩ hnext
  have HX := Lib.hid hnext
  have HM := Lib.hid hM
  clear hnext hM
  simp only [frM, k0, k3, k7, k8, k16, k17]
  refine Lg.move _ (fun _ _ => step_seq) (fun h => h) ?_
  refine Lg.code fun K hK v τ n' hv => ?_
  subst hv
  have hM := HM.out.re
  clear HM
  have HM := Lib.hid hM
  clear hM
  go_wp2
  refine hK _ _ (fun h => absurd h hs) ?_
  clear hK K
  refine Lg.move _ (fun _ _ => step_seq) (fun h => h) ?_
  by_cases hlt : j < n
  · simp only [hlt, decide_true]
    refine Lg.move _ (fun _ _ => step_cond (t := true) rfl) (fun h => h) ?_
    refine Lg.move _ (fun _ _ => step_skip) (fun h => h) ?_
    refine Lg.move _ (fun _ _ => step_seq) (fun h => h) ?_
    refine Lg.move _ (fun _ _ => step_block) (fun h => h) ?_
    refine Lg.move _ (fun _ _ => step_seq) (fun h => h) ?_
    refine Lg.code fun K hK v τ n' hv => ?_
    subst hv
    have hM := HM.out.re
    clear HM
    have HM := Lib.hid hM
    clear hM
    go_wp2
    refine hK _ _ (fun h => absurd h hs) ?_
    clear hK K
    have hM := HM.out
    clear HM
    have hTb : Tb < w0.heap.size := by
      have := hrows.row j (by omega)
      exact lt_of_cell this
    have c1 : v.cell? ⟨Tb, To + j, none⟩ = some (.slice (A j) (len j) (cap j)) := (World.cell?_of_block (w := w0) (hM.old.block Tb hTb)).trans (hrows.row j (by omega))
    have hM1 := hM.alloc (.cells #[.int .i64 j] 3)
    have hb9 := Blk.new v 3 #[.int .i64 j]
    have hge9 : w0.heap.size ≤ v.heap.size := hM.old.size
    have c1 : (v.alloc (.cells #[.int .i64 j] 3)).cell? ⟨Tb, To + j, none⟩ = some (.slice (A j) (len j) (cap j)) := (World.cell?_of_block (w := v) (Below.heap_alloc _ _ _ (by show Tb < _; omega))).trans c1
    clear hM
    generalize v.alloc (.cells #[.int .i64 j] 3) = z at hM1 hb9 c1 ⊢
    generalize v.heap.size = b9 at hb9 hge9 ⊢
    have hM1 := Lib.hid hM1
    have hjt : j < nt := by omega
    have hlc := hrows.le j (by omega)
    have hcm := hrows.max j (by omega)
    refine Lg.move _ (fun _ _ => step_seq) (fun h => h) ?_
    refine Lg.code fun K hK u τ n' hu => ?_
    subst hu
    have hb9 : Blk u b9 _ _ := hb9
    have c1 : u.cell? ⟨Tb, To + j, none⟩ = some (.slice (A j) (len j) (cap j)) := c1
    have hM := hM1.out.re
    clear hM1
    have lb9 := hb9.lt
    have lTb : Tb < u.heap.size := lt_of_cell c1
    have c9 := hb9.cell 0
    have HM := Lib.hid hM
    have HB9 := Lib.hid hb9
    clear hM hb9
    generalize hA : A j = Aj at *
    generalize hlen : len j = lj at *
    generalize hcap : cap j = cj at *
    refine wp_region_last (S := fun w' => w'.cell? ⟨b9, 0, none⟩ = some (.int .i64 j) ∧ w'.cell? ⟨Tb, To + j, none⟩ = some (.slice Aj lj cj)) 12 (by kernel_rfl) (by kernel_rfl) (by kernel_rfl) ?_
    simp only [idle, List.modify_toArray, List.modify_succ_cons, List.modify_zero_cons, List.size_toArray, List.length_cons, List.length_nil, Nat.reduceAdd]
    have HS : u.drew.cell? ⟨b9, 0, none⟩ = some (.int .i64 j) ∧ u.drew.cell? ⟨Tb, To + j, none⟩ = some (.slice Aj lj cj) := ⟨c9, c1⟩
    refine wpAnyH_read (i := 0) (some 20) rfl rfl (by kernel_rfl) (by kernel_rfl) (by kernel_rfl) (fun _ _ _ h => h) rfl HS ?_
    apply Exists.intro
    refine ⟨fun wq hw => ?_, ?_⟩
    · obtain ⟨hw1, hw2⟩ := hw
      go_simp
      rfl
    simp only [Act.put, List.setIfInBounds_toArray, List.set_cons_zero, List.set_cons_succ]
    refine wpAnyH_read (i := 1) (some 21) rfl rfl (by kernel_rfl) (by kernel_rfl) (by kernel_rfl) (fun _ _ _ h => h) rfl HS ?_
    apply Exists.intro
    refine ⟨fun wq hw => ?_, ?_⟩
    · obtain ⟨hw1, hw2⟩ := hw
      go_simp
      rfl
    simp only [Act.put, List.setIfInBounds_toArray, List.set_cons_zero, List.set_cons_succ]
    refine wpAnyH_read (i := 2) (some 22) rfl rfl (by kernel_rfl) (by kernel_rfl) (by kernel_rfl) (fun _ _ _ h => h) rfl HS ?_
    apply Exists.intro
    refine ⟨fun wq hw => ?_, ?_⟩
    · obtain ⟨hw1, hw2⟩ := hw
      go_simp
      rfl
    simp only [Act.put, List.setIfInBounds_toArray, List.set_cons_zero, List.set_cons_succ]
    refine wpAnyH_read (i := 3) (some 23) rfl rfl (by kernel_rfl) (by kernel_rfl) (by kernel_rfl) (fun _ _ _ h => h) rfl HS ?_
    apply Exists.intro
    refine ⟨fun wq hw => ?_, ?_⟩
    · obtain ⟨hw1, hw2⟩ := hw
      go_simp
      rfl
    simp only [Act.put, List.setIfInBounds_toArray, List.set_cons_zero, List.set_cons_succ]
    refine wpAnyH_read (i := 4) (some 24) rfl rfl (by kernel_rfl) (by kernel_rfl) (by kernel_rfl) (fun _ _ _ h => h) rfl HS ?_
    apply Exists.intro
    refine ⟨fun wq hw => ?_, ?_⟩
    · obtain ⟨hw1, hw2⟩ := hw
      go_simp
      rfl
    simp only [Act.put, List.setIfInBounds_toArray, List.set_cons_zero, List.set_cons_succ]
    refine wpAnyH_read (i := 5) (some 25) rfl rfl (by kernel_rfl) (by kernel_rfl) (by kernel_rfl) (fun _ _ _ h => h) rfl HS ?_
    apply Exists.intro
    refine ⟨fun wq hw => ?_, ?_⟩
    · obtain ⟨hw1, hw2⟩ := hw
      go_simp
      rfl
    simp only [Act.put, List.setIfInBounds_toArray, List.set_cons_zero, List.set_cons_succ]
    refine wpAnyH_read (i := 6) (some 26) rfl rfl (by kernel_rfl) (by kernel_rfl) (by kernel_rfl) (fun _ _ _ h => h) rfl HS ?_
    apply Exists.intro
    refine ⟨fun wq hw => ?_, ?_⟩
    · obtain ⟨hw1, hw2⟩ := hw
      go_simp
      rfl
    simp only [Act.put, List.setIfInBounds_toArray, List.set_cons_zero, List.set_cons_succ]
    refine wpAnyH_read (i := 7) (some 27) rfl rfl (by kernel_rfl) (by kernel_rfl) (by kernel_rfl) (fun _ _ _ h => h) rfl HS ?_
    apply Exists.intro
    refine ⟨fun wq hw => ?_, ?_⟩
    · obtain ⟨hw1, hw2⟩ := hw
      go_simp
      rfl
    simp only [Act.put, List.setIfInBounds_toArray, List.set_cons_zero, List.set_cons_succ]
    refine wpAnyH_read (i := 8) (some 28) rfl rfl (by kernel_rfl) (by kernel_rfl) (by kernel_rfl) (fun _ _ _ h => h) rfl HS ?_
    apply Exists.intro
    refine ⟨fun wq hw => ?_, ?_⟩
    · obtain ⟨hw1, hw2⟩ := hw
      go_simp
      rfl
    simp only [Act.put, List.setIfInBounds_toArray, List.set_cons_zero, List.set_cons_succ]
    refine wpAnyH_read (i := 9) (some 29) rfl rfl (by kernel_rfl) (by kernel_rfl) (by kernel_rfl) (fun _ _ _ h => h) rfl HS ?_
    refine ⟨.int .i64 (min lj 65536 : Nat), fun wq hw => ?_, ?_⟩
    · obtain ⟨hw1, hw2⟩ := hw
      go_simp
      split <;> omega
    simp only [Act.put, List.setIfInBounds_toArray, List.set_cons_zero, List.set_cons_succ]
    refine wpAnyH_read (i := 10) (some 30) rfl rfl (by kernel_rfl) (by kernel_rfl) (by kernel_rfl) (fun _ _ _ h => h) rfl HS ?_
    refine ⟨.slice Aj (min lj 65536) cj, fun wq hw => ?_, ?_⟩
    · obtain ⟨hw1, hw2⟩ := hw
      go_simp
      intro h
      omega
    simp only [Act.put, List.setIfInBounds_toArray, List.set_cons_zero, List.set_cons_succ]
    clear HS
    refine wpAnyH_one (i := 11) (by kernel_rfl) rfl rfl fun K hK => ?_
    go_simp
    refine hK _ _ ⟨(one_cell' u _ _ 0 lb9).trans c9, (one_cell' u _ _ _ lTb).trans c1⟩ ?_
    clear hK K
    have HS : (u.alloc (Obj.cells #[.slice none 0 0] 34)).drew.cell? ⟨b9, 0, none⟩ = some (.int .i64 j) ∧ (u.alloc (Obj.cells #[.slice none 0 0] 34)).drew.cell? ⟨Tb, To + j, none⟩ = some (.slice Aj lj cj) := ⟨(one_cell' u _ _ 0 lb9).trans c9, (one_cell' u _ _ _ lTb).trans c1⟩
    refine wpAnyH_read (i := 12) none rfl rfl (by kernel_rfl) (by kernel_rfl) (by kernel_rfl) (fun _ _ _ h => h) rfl HS ?_
    apply Exists.intro
    refine ⟨fun wq hw => ?_, ?_⟩
    · go_simp
      rfl
    simp only [Act.put]
    clear HS
    refine wpAnyH_done (by kernel_rfl) ?_ _
    simp only [Exit.then]
    refine wpOps_list (m := 12) rfl ?_
    clear lb9 lTb c9 c1
    go_wp2
    refine hK _ _ (fun h => absurd h hs) ?_
    clear hK K
    have hb10 := (Blk.new u 34 #[.slice Aj (min lj 65536) cj]).drew
    have hb9 := ((HB9.out).alloc (Obj.cells #[.slice Aj (min lj 65536) cj] 34)).drew
    have hM := MadeT.re (τ := u.tape) (d := u.drawn) (HM.out.alloc (Obj.cells #[.slice Aj (min lj 65536) cj] 34)) (y := (u.alloc (Obj.cells #[.slice Aj (min lj 65536) cj] 34)).drew)
    have hge10 : w0.heap.size ≤ u.heap.size := HM.out.old.size
    clear HM HB9
    generalize (u.alloc (Obj.cells #[.slice Aj (min lj 65536) cj] 34)).drew = z2 at hM hb9 hb10 ⊢
    generalize u.heap.size = b10 at hb10 hge10 ⊢
    refine Lg.move _ (fun _ _ => step_region) (fun h => h) ?_
    refine Lg.pre 0 3 2 (by simp) fun K hK q τ n' hq => ?_
    subst hq
    have hM := hM.re
    have hb9 : Blk q b9 _ _ := hb9
    have hb10 : Blk q b10 _ _ := hb10
    obtain ⟨LA, lc, rfl⟩ : ∃ LA lc, lv = .slice LA j lc := own_slice hM.own
    have HM := Lib.hid hM
    have HB9 := Lib.hid hb9
    have HB10 := Lib.hid hb10
    clear hM hb9 hb10
    simp only [List.drop_zero, List.take_succ_cons, List.take_zero]
    go_wp2
    refine hK _ _ (fun h => absurd h hs) ?_
    clear hK K
    have hM := HM.out.alloc (.cells #[closure (fun _ => b10) (fun _ => b9) dob anb 0] 92)
    have hb9 := HB9.out.alloc (.cells #[closure (fun _ => b10) (fun _ => b9) dob anb 0] 92)
    have hb10 := HB10.out.alloc (.cells #[closure (fun _ => b10) (fun _ => b9) dob anb 0] 92)
    have hnb := Blk.new q 92 #[closure (fun _ => b10) (fun _ => b9) dob anb 0]
    have hge : w0.heap.size ≤ q.heap.size := HM.out.old.size
    clear HM HB9 HB10
    simp only [closure] at hM hb9 hb10 hnb
    generalize q.alloc (.cells _ 92) = z3 at hM hb9 hb10 hnb ⊢
    generalize q.heap.size = nb at hnb hge ⊢
    obtain ⟨i0, hi0, hz0, hz1, hz2⟩ := info_parts Try.infoFunc
    refine Lg.pre 3 2 0 (by simp) fun K hK q τ n' hq => ?_
    subst hq
    have hM := hM.re
    have hb9 : Blk q b9 _ _ := hb9
    have hb10 : Blk q b10 _ _ := hb10
    have hnb : Blk q nb _ _ := hnb
    simp only [List.drop_succ_cons, List.drop_zero, List.take_succ_cons, List.take_zero]
    refine wpList_append_lies _ rfl _ _ _ rfl w0.heap.size 92 i0 _ 1 8 Try.underlying93 hi0 hz0 hz1 hz2 rfl (by omega) (.slice LA j lc) j _ rfl hM.own ⟨nb, 0, none⟩ 1 1 [closure (fun _ => b10) (fun _ => b9) dob anb 0] rfl rfl (World.news_of_block (cs := #[closure (fun _ => b10) (fun _ => b9) dob anb 0]) (t := 92) (fr := (0, 0)) hnb) (by simp [closure, Value.oneCell']) (by omega) (by unfold maxLen; omega) (by omega) hM.old.size _ rfl ?_
    intro g cp' w1 hown hgrow hat hlt1
    go_wp2
    refine hK _ _ (fun h => absurd h hs) ?_
    clear hK K
    have hM := hM.snoc (by exact hb9) (hA ▸ hlen ▸ hcap ▸ hb10) hge9 hge10 hown hgrow
    clear hb9 hb10 hnb hown hgrow hat hlt1
    refine Lg.move _ (fun _ _ => step_region_end) (fun h => h) ?_
    refine Lg.move _ (fun _ _ => step_inBlock) (fun h => h) ?_
    refine Lg.code fun K hK q τ n' hq => ?_
    subst hq
    have hM := hM.re
    have HM := Lib.hid hM
    clear hM
    go_wp2
    refine hK _ _ (fun h => absurd h hs) ?_
    clear hK K
    refine Lg.family frM (R := fun f => f 0 = .slice (some ⟨Tb, To, none⟩) nt cp ∧ f 3 = .pointer (some ⟨dob, 0, none⟩) ∧ f 7 = .pointer (some ⟨anb, 0, none⟩) ∧ f 8 = .slice (some ⟨g, 0, none⟩) (j + 1) cp' ∧ f 16 = .int .i64 n ∧ f 17 = .int .i64 ((j + 1 : Nat) : Int)) ?_ (by rfl) ⟨rfl, rfl, rfl, rfl, rfl, by first | rfl | simp⟩
    rintro f' ⟨m0, m3, m7, m8, m16, m17⟩
    exact HX.out f' t' _ ⟨rfl, j + 1, by omega, _, _, _, m0, m3, m7, m8, m16, m17, HM.out⟩ (by rw [m17, k17]; simp [intOf]; omega)
  · simp only [hlt, decide_false]
    refine Lg.move _ (fun _ _ => step_cond (t := false) rfl) (fun h => h) ?_
    refine Lg.move _ (fun _ _ => step_exit rfl) (fun h => h) ?_
    have hjn : j = n := by omega
    subst hjn
    refine Lg.move _ (fun _ _ => step_seq) (fun h => h) ?_
    refine Lg.code fun K hK v τ n' hv => ?_
    subst hv
    have hM := HM.out.re
    clear HM
    have c7 := hM.an.cell 0
    have HM := Lib.hid hM
    clear hM
    go_quiet (fail)
    refine hK _ _ (fun h => absurd h hs) ?_
    refine Lg.move _ (fun _ _ => step_ret) (fun h => h) ?_
    refine Lg.leave rfl Try.func41 rfl (v := .tuple #[lv, .slice (some ⟨ab, 0, none⟩) j j]) (fun y τ n hy => by simp [results, Try.f41]) (HR.out _ _ _ ⟨rfl, dob, ab, anb, opb, ib, lv, rfl, MadeT.re (τ := v.tape) (d := v.drawn) HM.out⟩)
end Go.Proofs.Yteainbnoemkfcaa
/- DERIVED. A run of operations (package turn: Ops): what doing has made is what the threads find. -/
namespace Go.Proofs.Yteainbnoemkfcaa
open Go.RowKit Go.Turn Go.Tame Go.Conc
set_option linter.unusedVariables false
/-- What is handed in. -/
structure OpsIn (W0 : World) (I : Inner) (good : OpI → Prop) (a0 : I.A) (w0 : World) (n : Nat) (A : Nat → Option Addr) (len : Nat → Nat) (ops : Nat → List OpI) : Prop where
  at_ : I.At a0 w0
  bi : ∀ b, I.BI b → ∃ c t r, w0.heap[b]? = some (.cells c t r) ∧ r.2 < big
  len : ∀ i, i < n → (ops i).length = min (len i) 65536
  good : ∀ i, i < n → ∀ o ∈ ops i, good o
  cells : ∀ i, i < n → ∀ j (h : j < (ops i).length), ∃ b o cs t r, A i = some ⟨b, o, none⟩ ∧ w0.heap[b]? = some (.cells cs t r) ∧ (r.2 < big ∨ b < W0.heap.size) ∧ ¬ I.BI b ∧ ∀ m, m < 4 → cs[o + j * 4 + m]? = (ops i)[j].cells[m]?
/-- The fixed data of what doing has made. -/
def setB (W0 w1 : World) (n dob ab anb : Nat) (opb ib : Nat → Nat) (fv : Value) (ops : Nat → List OpI) (opv : Nat → Value) (BI : Nat → Prop) (A : Nat → Option Addr) : OpsB where
  n := n
  ab := ab
  dob := dob
  anb := anb
  opb := opb
  ib := ib
  fv := fv
  ops := ops
  opv := opv
  RB := fun b => (∃ c t r, w1.heap[b]? = some (.cells c t r) ∧ (r.2 < big ∨ b < W0.heap.size)) ∧ ¬ BI b ∧ b ≠ ab ∧ (b = dob ∨ b = anb ∨ (∃ i, i < n ∧ (b = ib i ∨ b = opb i)) ∨ ∃ i o, i < n ∧ A i = some ⟨b, o, none⟩ ∧ ops i ≠ [])
  rv := fun b => (w1.heap[b]?).getD (.cells #[] 0 (0, 0))
  rbc := fun b h => by
    obtain ⟨⟨c, t, r, h1, _⟩, _⟩ := h
    exact ⟨c, t, r, by rw [h1]; rfl⟩
section
variable {I : Inner} {good : OpI → Prop} {a0 : I.A} {W0 w0 w1 : World} {n dob ab anb : Nat} {A : Nat → Option Addr} {len cap : Nat → Nat} {ops : Nat → List OpI} {opb ib : Nat → Nat} {fv lv : Value}
abbrev setD (W0 : World) (I : Inner) (good : OpI → Prop) (w1 : World) (n dob ab anb : Nat) (opb ib : Nat → Nat) (fv : Value) (ops : Nat → List OpI) (A : Nat → Option Addr) (len cap : Nat → Nat) : OpsD := (setB W0 w1 n dob ab anb opb ib fv ops (fun i => .slice (A i) (min (len i) 65536) (cap i)) I.BI A).on I good
theorem OpsIn.lt (h : OpsIn W0 I good a0 w0 n A len ops) {b : Nat} (hb : I.BI b) : b < w0.heap.size := by
  obtain ⟨c, t, r, h1, _⟩ := h.bi b hb
  exact lt_of_some h1
theorem set_rb (h : OpsIn W0 I good a0 w0 n A len ops) (M : MadeT w0 n n fv A len cap dob ab anb opb ib lv w1) {b : Nat} {t : TypeId} {c : Array Value} (hb : Blk w1 b t c) (ht : t ≠ 44) (hge : w0.heap.size ≤ b) (hx : b = dob ∨ b = anb ∨ (∃ i, i < n ∧ (b = ib i ∨ b = opb i)) ∨ ∃ i o, i < n ∧ A i = some ⟨b, o, none⟩ ∧ ops i ≠ []) :
    (setD W0 I good w1 n dob ab anb opb ib fv ops A len cap).RB b ∧ (setD W0 I good w1 n dob ab anb opb ib fv ops A len cap).rv b = .cells c t (0, 0) :=
  ⟨⟨⟨c, t, (0, 0), hb, .inl (by decide)⟩, fun z => by have := h.lt z; omega, blk_ne hb M.a ht, hx⟩, by show (w1.heap[b]?).getD _ = _; rw [show w1.heap[b]? = _ from hb]; rfl⟩
theorem set_thr (h : OpsIn W0 I good a0 w0 n A len ops) (M : MadeT w0 n n fv A len cap dob ab anb opb ib lv w1) (hn : n ≤ 64) (i : Nat) (hi : i < n) : ThrOk (setD W0 I good w1 n dob ab anb opb ib fv ops A len cap) i where
  lt := hi
  n64 := hn
  op := set_rb h M (M.o i hi) (by decide) (M.ge.2.2.2 i hi).2 (.inr (.inr (.inl ⟨i, hi, .inr rfl⟩)))
  do_ := set_rb h M M.d (by decide) M.ge.1 (.inl rfl)
  ib := set_rb h M (M.i i hi) (by decide) (M.ge.2.2.2 i hi).1 (.inr (.inr (.inl ⟨i, hi, .inl rfl⟩)))
  an := set_rb h M M.an (by decide) M.ge.2.2.1 (.inr (.inl rfl))
  len := by show (ops i).length ≤ 65536; rw [h.len i hi]; omega
  gd := h.good i hi
  ops := by
    refine ⟨A i, cap i, by show Value.slice _ _ _ = Value.slice _ (ops i).length _; rw [h.len i hi], fun j hj => ?_⟩
    obtain ⟨b, o, cs, t, r, h1, h2, h3, h4, h5⟩ := h.cells i hi j hj
    have hlt : b < w0.heap.size := lt_of_some h2
    have h6 : w1.heap[b]? = some (.cells cs t r) := (M.old.block b hlt).trans h2
    refine ⟨b, o, cs, t, r, h1, ⟨⟨cs, t, r, h6, h3⟩, h4, fun e => ?_, .inr (.inr (.inr ⟨i, o, hi, h1, fun e => by have hj : j < (ops i).length := hj; rw [e] at hj; exact Nat.not_lt_zero _ hj⟩))⟩, ?_, h5⟩
    · have := M.ge.2.1; omega
    · show (w1.heap[b]?).getD _ = _
      rw [h6]; rfl
theorem set_asks (h : OpsIn W0 I good a0 w0 n A len ops) (M : MadeT w0 n n fv A len cap dob ab anb opb ib lv w1) : OverAsks ((setD W0 I good w1 n dob ab anb opb ib fv ops A len cap).shd w0.os w0.output) W0 (a0, fun _ => []) (fun b => I.BI b ∨ b = ab) w1 where
  rep := by
    refine ⟨I.at_ _ _ _ h.at_ fun b hb => M.old.block b (h.lt hb), fun b hb => .inl hb, ⟨.inr rfl, fun z => by have := h.lt (b := ab) z; have := M.ge.2.1; omega⟩, fun b hb => ?_, ?_, fun b c t r hb hv => ?_, fun b hb z => ?_⟩
    · rcases hb with hb | rfl
      · obtain ⟨c, t, r, h1, h2⟩ := h.bi b hb
        exact ⟨c, t, r, (M.old.block b (h.lt hb)).trans h1, h2⟩
      · exact ⟨_, _, _, M.a, by decide⟩
    · refine ⟨fun _ => .slice none 0 0, _, M.a, by simp [OpsB.on, setB], fun i hi => ?_, fun i hi => ⟨[], ⟨rfl, .inl ⟨rfl, rfl⟩⟩, rfl, fun b hb => by simp [Value.ownBlock] at hb⟩, fun i j b _ _ hb => by simp [Value.ownBlock] at hb⟩
      have hi : i < n := hi
      simp [hi]
    · obtain ⟨⟨c', t', r', h1, _⟩, _⟩ := hb
      have hv : (w1.heap[b]?).getD _ = _ := hv
      rw [h1] at hv
      exact ⟨r, h1.trans (congrArg some hv)⟩
    · obtain ⟨_, h2, h3, _⟩ := hb
      exact z.elim h2 h3
  sh := fun b hb => by
    rcases hb with hb | rfl
    · have := h.lt hb; have := M.old.size; omega
    · exact M.a.lt
  rb := fun b hb => by
    obtain ⟨⟨c, t, r, h1, hr⟩, h2, h3, _⟩ := hb
    exact ⟨lt_of_some h1, fun z => z.elim h2 h3, c, t, r, by show (w1.heap[b]?).getD _ = _; rw [h1]; rfl, h1, hr⟩
  io := M.old.io
/-- The threads' functions, as doing hands them over. -/
theorem set_funs (h : OpsIn W0 I good a0 w0 n A len ops) (M : MadeT w0 n n fv A len cap dob ab anb opb ib lv w1) (hn : 0 < n) (hnm : n ≤ maxLen) : ∃ g cp, lv = .slice (some ⟨g, 0, none⟩) n cp ∧ w0.heap.size ≤ g ∧ (¬ (I.BI g ∨ g = ab) ∧ ¬ (setD W0 I good w1 n dob ab anb opb ib fv ops A len cap).RB g) ∧
    Funs n ⟨g, 0, none⟩ (fun i => #[.pointer (some ⟨opb i, 0, none⟩), .pointer (some ⟨dob, 0, none⟩), .pointer (some ⟨ib i, 0, none⟩), .pointer (some ⟨anb, 0, none⟩)]) w1 := by
  rcases M.own.2 with ⟨_, e⟩ | ⟨g, cp, cur, rfl, hg, hh, hle, _, hsz, htake⟩
  · omega
  · have hb : Blk w1 g 92 cur := hh
    have nb : ¬ I.BI g := fun z => by have := h.lt z; omega
    have na : g ≠ ab := blk_ne hb M.a (by decide)
    refine ⟨g, cp, rfl, hg, ⟨fun z => z.elim nb na, ?_⟩, ⟨⟨cur, _, _, hh, by decide, fun i hi => ?_⟩, rfl⟩⟩
    · rintro ⟨_, _, _, (e | e | ⟨i, hi, (e | e)⟩ | ⟨i, o, hi, e, hne⟩)⟩
      · exact blk_ne hb M.d (by decide) e
      · exact blk_ne hb M.an (by decide) e
      · exact blk_ne hb (M.i i hi) (by decide) e
      · exact blk_ne hb (M.o i hi) (by decide) e
      · obtain ⟨b', o', cs, t, r, h1, h2, _⟩ := h.cells i hi 0 (List.length_pos_iff.2 hne)
        rw [e] at h1
        cases h1
        have := lt_of_some h2
        omega
    · have : cur.toList[i]? = some (closure opb ib dob anb i) := by
        have h1 : (cur.toList.take (n * 1))[i]? = some (closure opb ib dob anb i) := by rw [htake]; simp [hi]
        rw [List.getElem?_take] at h1
        split at h1
        · exact h1
        · cases h1
      simpa [closure] using this
end
end Go.Proofs.Yteainbnoemkfcaa
/- DERIVED. A run of operations (package turn: Ops), goroutine 0 alone. -/
namespace Go.Proofs.Yteainbnoemkfcaa
open Go.RowKit Go.Turn Go.Tame Go.Conc
set_option linter.unusedVariables false
theorem OpsIn.later {W0 : World} {I : Inner} {good : OpI → Prop} {a0 : I.A} {w0 w1 : World} {n : Nat} {A : Nat → Option Addr} {len : Nat → Nat} {ops : Nat → List OpI} (h : OpsIn W0 I good a0 w0 n A len ops) (ho : Old w0.heap.size w0 w1) : OpsIn W0 I good a0 w1 n A len ops where
  at_ := I.at_ _ _ _ h.at_ fun b hb => ho.block b (h.lt hb)
  bi := fun b hb => by
    obtain ⟨c, t, r, h1, h2⟩ := h.bi b hb
    exact ⟨c, t, r, (ho.block b (h.lt hb)).trans h1, h2⟩
  len := h.len
  good := h.good
  cells := fun i hi j hj => by
    obtain ⟨b, o, cs, t, r, h1, h2, h3⟩ := h.cells i hi j hj
    exact ⟨b, o, cs, t, r, h1, (ho.block b (lt_of_some h2)).trans h2, h3⟩
theorem RowsAt.later {w0 w1 : World} {Tb To n : Nat} {A : Nat → Option Addr} {len cap : Nat → Nat} (h : RowsAt w0 Tb To n A len cap) (ho : Old w0.heap.size w0 w1) : RowsAt w1 Tb To n A len cap :=
  ⟨fun i hi => (World.cell?_of_block (w := w0) (ho.block Tb (lt_of_cell (h.row i hi)))).trans (h.row i hi), h.le, h.max, h.nil⟩
theorem SchI.later {W0 : World} {sv : Value} {xs : List Int} {Z Z' : Nat → Prop} {w0 w1 : World} (h : SchI W0 sv xs Z w0) (ho : Old w0.heap.size w0 w1) (hz : ∀ b, b < w0.heap.size → Z' b → Z b) : SchI W0 sv xs Z' w1 where
  at_ := by
    obtain ⟨A, c, h1, h2⟩ := h.at_
    refine ⟨A, c, h1, fun i hi => ?_⟩
    obtain ⟨b, o, cs, t, r, h3, h4, h6, h7⟩ := h2 i hi
    exact ⟨b, o, cs, t, r, h3, (ho.block b (lt_of_some h4)).trans h4, h6.imp id fun y => ⟨y.1, fun z => y.2 (hz b (lt_of_some h4) z)⟩, h7⟩
  len := h.len
/-- What a run of operations leaves. -/
structure OpsDone (W0 : World) (I : Inner) (good : OpI → Prop) (a0 : I.A) (doT : Nat → OpI → (I.A × (Nat → List Ans)) → (Ans → (I.A × (Nat → List Ans)) → Tree (I.A × (Nat → List Ans)) (I.A × (Nat → List Ans))) → Tree (I.A × (Nat → List Ans)) (I.A × (Nat → List Ans))) (ops : Nat → List OpI) (n : Nat) (xs : List Int) (most : Nat) (w0 : World) (v : Value) (w' : World) : Prop where
  ex : ∃ (B : OpsB) (ov : Value), B.n = n ∧ B.ops = ops ∧ w0.heap.size ≤ B.ab ∧
    v = .agg #[.slice (some ⟨B.ab, 0, none⟩) n n, ov, .slice none 0 0, .bool (decide (0 < (playRun (brT (B.on I good) doT) n most xs (a0, fun _ => [])).m.left n))] ∧
    w'.ownsRow w0.heap.size 3 1 ov (playRun (brT (B.on I good) doT) n most xs (a0, fun _ => [])).order.length ((playRun (brT (B.on I good) doT) n most xs (a0, fun _ => [])).order.map (Value.int .i64)) ∧
    ∃ H, RepO (B.on I good) (playRun (brT (B.on I good) doT) n most xs (a0, fun _ => [])).m.s H w' ∧ ∀ (b : Nat) (c : Array Value) (t : TypeId) (r : Nat × Nat), (b < W0.heap.size ∨ (r.2 < big ∧ ¬ I.BI b)) → w0.heap[b]? = some (.cells c t r) → ¬ H b
  size : w0.heap.size ≤ w'.heap.size
  near : ∀ (b : Nat) (c : Array Value) (t : TypeId) (r : Nat × Nat), (b < W0.heap.size ∨ (r.2 < big ∧ ¬ I.BI b)) → w0.heap[b]? = some (.cells c t r) → w'.heap[b]? = some (.cells c t r)
  io : w'.os = w0.os ∧ w'.output = w0.output
set_option maxHeartbeats 2000000 in
set_option maxRecDepth 100000 in
theorem ops_calls (hP : Prog Try.prog) (Post : Value → World → Prop) (W0 : World) (I : Inner) (good : OpI → Prop) (a0 : I.A) (doT : Nat → OpI → (I.A × (Nat → List Ans)) → (Ans → (I.A × (Nat → List Ans)) → Tree (I.A × (Nat → List Ans)) (I.A × (Nat → List Ans))) → Tree (I.A × (Nat → List Ans)) (I.A × (Nat → List Ans))) (Tb To nt cp : Nat) (hnt : nt ≤ maxLen) (hpos : 0 < nt) (fd : FuncId) (bd cs : Array Value) (A : Nat → Option Addr) (len cap : Nat → Nat) (ops : Nat → List OpI) (sv : Value) (xs : List Int) (most : Int) (w0 : World)
    (hrows : RowsAt w0 Tb To (min nt 64) A len cap) (hin : OpsIn W0 I good a0 w0 (min nt 64) A len ops) (hsch : SchI W0 sv xs (fun b => I.BI b ∨ ∃ i o, i < min nt 64 ∧ A i = some ⟨b, o, none⟩) w0)
    (hcall : ∀ args w, (callFunc fd args).run Try.prog w = .ok (.enter fd args) w) (hD : ∀ (B : OpsB) i, DoLaw (B.on I good) i (doT i) fd bd cs) (hO : ∀ (B : OpsB) i, DoOk (B.on I good) i (doT i)) :
    Ccalls (lgA hP Post W0) 31 #[.slice (some ⟨Tb, To, none⟩) nt cp, .func (.func fd) bd cs, sv, .int .i64 most] () w0 fun v _ w' => OpsDone W0 I good a0 doT ops (min nt 64) xs (heldI most 1048576).toNat w0 v w' := by
  intro c mid hR
  have HR := Lib.hid hR
  clear hR
  have hs : ¬ (lgA hP Post W0).strict := fun h => h
  rw [show Frame.enter Try.prog 31 #[.slice (some ⟨Tb, To, none⟩) nt cp, .func (.func fd) bd cs, sv, .int .i64 most] .normal = Frame.at { (default : Frame) with fn := 31, kind := .normal } ⟨#[.slice (some ⟨Tb, To, none⟩) nt cp, .func (.func fd) bd cs, sv, .int .i64 most] ++ Array.replicate (Try.f31.ntmps - 4) undef, []⟩ [.code (Try.f31.body.getD .skip)] from by simp [Frame.enter, Frame.at, Try.func31]; rfl]
  simp only [Try.f31, Option.getD_some, Nat.reduceSub, Array.replicate_succ, Array.replicate_zero, List.push_toArray, List.append_toArray, List.nil_append, List.cons_append]
  refine Lg.move _ (fun _ _ => step_seq) (fun h => h) ?_
  refine Lg.code fun K hK y τ n' hy => ?_
  have hold : Old w0.heap.size w0 y := by rw [hy]; exact (Old.refl _ (y.re τ n')).re
  have hsz : y.heap.size = w0.heap.size := by rw [hy]; rfl
  clear hy
  go_wp2
  refine hK _ _ (fun h => absurd h hs) ?_
  clear hK K
  have hold1 := hold.new (show w0.heap.size ≤ y.heap.size by omega) (.cells #[.slice none 0 0, .slice none 0 0, .slice none 0 0, .bool false] 31)
  have hb8 := Blk.new y 31 #[.slice none 0 0, .slice none 0 0, .slice none 0 0, .bool false]
  rw [hsz] at hb8
  generalize y.alloc (.cells #[.slice none 0 0, .slice none 0 0, .slice none 0 0, .bool false] 31) = w1 at hb8 hold1 ⊢
  obtain ⟨b8, h8⟩ : ∃ b8, b8 = w0.heap.size := ⟨_, rfl⟩
  rw [← h8] at hb8 ⊢
  clear hsz hold
  refine Lg.move _ (fun _ _ => step_seq) (fun h => h) ?_
  refine Lg.move _ (fun _ _ => step_region) (fun h => h) ?_
  refine Lg.pre 0 2 6 (by simp) fun K hK z τ n' hz => ?_
  subst hz
  have hold1 := hold1.re
  have hb8 : Blk z b8 _ _ := hb8
  have hrows1 := hrows.later hold1
  have hin1 := hin.later hold1
  have hsch1 := hsch.later (Z' := fun b => I.BI b ∨ ∃ i o, i < min nt 64 ∧ A i = some ⟨b, o, none⟩) hold1 (fun b _ h => h)
  have hn64 : min nt 64 ≤ 64 := by omega
  have hn0 : 0 < min nt 64 := by omega
  have Hold := Lib.hid hold1
  have HB8 := Lib.hid hb8
  have HIN := Lib.hid hin1
  have HSC := Lib.hid hsch1
  clear hold1 hb8 hin1 hsch1 hrows hsch
  simp only [List.drop_zero, List.take_succ_cons, List.take_zero]
  go_wp2
  refine hK _ _ (fun h => absurd h hs) ?_
  clear hK K
  refine Lg.call (i := 2) (rest := [3, 4, 5, 6, 7]) (f := 41) (args := #[.slice (some ⟨Tb, To, none⟩) nt cp, .func (.func fd) bd cs]) rfl rfl (fun y => by go_simp) (doing_calls (lgA hP Post W0) hs () Tb To nt cp hnt fd bd cs A len cap z hrows1) ?_
  rintro vv t' w2 ⟨-, dob, ab, anb, opb, ib, lv, rfl, M⟩
  rw [Frame.finish_at]
  walk_nrm
  generalize min nt 64 = n at *
  have hb8 : Blk w2 b8 _ _ := (M.old.block b8 HB8.out.lt).trans HB8.out
  have hz8 := HB8.out.lt
  clear HB8
  refine (show (lgA hP Post W0).T _ (Frame.at _ ⟨_, []⟩ (.inRegion _ (List.range' 3 (5 + 0)) :: _)) (c :: mid) w2 from ?_)
  refine Lg.pre 3 5 0 (by simp) fun K hK u τ n' hu => ?_
  subst hu
  have M := M.re
  have hb8 : Blk u b8 _ _ := hb8
  have HM := Lib.hid M
  have HB8 := Lib.hid hb8
  clear M hb8
  simp only [List.drop_succ_cons, List.drop_zero, List.take_succ_cons, List.take_zero]
  go_wp2
  refine hK _ _ (fun h => absurd h hs) ?_
  clear hK K
  refine Lg.move _ (fun _ _ => step_region_end) (fun h => h) ?_
  refine Lg.move _ (fun _ _ => step_seq) (fun h => h) ?_
  refine Lg.move _ (fun _ _ => step_region) (fun h => h) ?_
  refine Lg.pre 0 3 8 (by simp) fun K hK w3 τ n' hw => ?_
  subst hw
  have M := HM.out.re
  have hb8 : Blk w3 b8 _ _ := HB8.out
  have HM' := Lib.hid M
  have HB8' := Lib.hid hb8
  clear M hb8 HM HB8
  simp only [List.drop_zero, List.take_succ_cons, List.take_zero]
  go_wp2
  refine hK _ _ (fun h => absurd h hs) ?_
  clear hK K
  have M := HM'.out
  have hb8 := HB8'.out
  clear HM' HB8'
  obtain ⟨g, cp', rfl, hgb, hgn, hfun⟩ := set_funs (len := len) (cap := cap) HIN.out M hn0 (by unfold maxLen; omega)
  have e64 : min n 64 = n := by omega
  obtain ⟨B, hDD⟩ : ∃ B, B = setB W0 w3 n dob ab anb opb ib (.func (.func fd) bd cs) ops (fun i => .slice (A i) (min (len i) 65536) (cap i)) I.BI A := ⟨_, rfl⟩
  have hDn : (B.on I good).n = n := by rw [hDD]; rfl
  have hask : OverAsks ((B.on I good).shd z.os z.output) W0 (a0, fun _ => []) (fun b => I.BI b ∨ b = ab) w3 := by rw [hDD]; exact set_asks HIN.out M
  have hgn : ¬ (I.BI g ∨ g = ab) ∧ ¬ (B.on I good).RB g := by rw [hDD]; exact hgn
  have hg : ∀ i, i < n → ∀ o ∈ ops i, good o := HIN.out.good
  have hBo : B.ops = ops := by rw [hDD]; rfl
  have hBa : B.ab = ab := by rw [hDD]; rfl
  have hthr : ∀ i, i < n → ThrOk (B.on I good) i := fun i hi => by rw [hDD]; exact set_thr HIN.out M hn64 i hi
  have hsch3 : SchI W0 sv xs (fun b => (I.BI b ∨ b = ab) ∨ (B.on I good).RB b) w3 := HSC.out.later M.old fun b hb hz => by
    rw [hDD] at hz
    rcases hz with (hz | rfl) | ⟨_, _, _, e⟩
    · exact .inl hz
    · have := M.ge.2.1; omega
    · rcases e with rfl | rfl | ⟨i, hi, rfl | rfl⟩ | ⟨i, o, hi, e, _⟩
      · have := M.ge.1; omega
      · have := M.ge.2.2.1; omega
      · have := (M.ge.2.2.2 i hi).1; omega
      · have := (M.ge.2.2.2 i hi).2; omega
      · exact .inr ⟨i, o, hi, e⟩
  have hov := over_calls hP Post W0 ((B.on I good).shd z.os z.output) (brT (B.on I good) doT) (OpsMI (B.on I good)) (fun i => #[.pointer (some ⟨B.opb i, 0, none⟩), .pointer (some ⟨B.dob, 0, none⟩), .pointer (some ⟨B.ib i, 0, none⟩), .pointer (some ⟨B.anb, 0, none⟩)]) ⟨g, 0, none⟩ n cp' (by rw [e64]; exact ops_minv _ n hDn.symm) (by unfold maxLen; omega) hn0 sv xs most (a0, fun _ => [])
    (fun j hj => ops_born_ne (D := B.on I good) (fun i _ => hO B i) (fun i hi o ho => hg i (hDn ▸ hi) o (hBo ▸ ho)) (a0, fun _ => []) (fun _ _ => rfl) j (by rw [hDn]; omega))
    (ops_born (D := B.on I good) (fun i _ => hO B i) (fun i hi o ho => hg i (hDn ▸ hi) o (hBo ▸ ho)) (a0, fun _ => []) (fun _ _ => rfl) _ (by rw [hDn]; omega)).1
    (fun b => I.BI b ∨ b = ab) w3 hask (by rw [e64, hDD]; exact hfun) hgn hsch3
    (fun gg b pos apart inj i hi hgi s H x _ => thread_law (B.on I good) z.os z.output Post W0 gg b pos apart inj i (hthr i (by omega)) doT fd bd cs (by rw [hDD]; rfl) hcall (hD B i) s x)
  rw [e64] at hov
  refine Lg.call (i := 3) (rest := [4, 5, 6, 7, 8, 9, 10]) (f := 42) (args := #[.slice (some ⟨g, 0, none⟩) n cp', sv, .int .i64 most]) rfl rfl (fun y => by go_simp) hov ?_
  rintro vv t'' w4 hdone
  obtain ⟨ov, bv, hv0, hord⟩ := hdone.val
  obtain ⟨stk, hst, hvv⟩ : ∃ stk : Bool, stk = decide (0 < (playRun (brT (B.on I good) doT) n (heldI most 1048576).toNat xs (a0, fun _ => [])).m.left n) ∧ vv = .tuple #[ov, .bool stk, bv] := ⟨_, rfl, hv0⟩
  clear hv0
  subst hvv
  have HST := Lib.hid hst
  clear hst
  obtain ⟨oA, oL, oc, rfl⟩ : ∃ A l c, ov = .slice A l c := by
    obtain ⟨A, c, e⟩ := own_slice hord
    exact ⟨A, _, c, e⟩
  rw [Frame.finish_at]
  walk_nrm
  have h8n : ¬ (I.BI b8 ∨ b8 = ab) := fun h => by
    rcases h with h | h
    · have := hin.lt h; omega
    · exact blk_ne hb8 M.a (by decide) h
  have h8r : ¬ (B.on I good).RB b8 := by
    rw [hDD]
    rintro ⟨_, _, _, (e | e | ⟨i, hi, (e | e)⟩ | ⟨i, o, hi, e, hne⟩)⟩
    · exact blk_ne hb8 M.d (by decide) e
    · exact blk_ne hb8 M.an (by decide) e
    · exact blk_ne hb8 (M.i i hi) (by decide) e
    · exact blk_ne hb8 (M.o i hi) (by decide) e
    · obtain ⟨b', o', cs, t, r, h1, h2, _⟩ := hin.cells i hi 0 (List.length_pos_iff.2 hne)
      rw [e] at h1
      cases h1
      have := lt_of_some h2
      omega
  have hb84 : Blk w4 b8 _ _ := hdone.near b8 _ _ (0, 0) (.inr ⟨by decide, h8n, h8r⟩) hb8
  have HB := Lib.hid hb84
  have HD := Lib.hid hdone
  have HO := Lib.hid hord
  have HM := Lib.hid M
  have HH8 := Lib.hid hb8
  clear hb84 hdone hord M hb8 hov hask hsch3
  refine (show (lgA hP Post W0).T _ (Frame.at _ ⟨_, []⟩ (.inRegion _ (List.range' 4 (7 + 0)) :: _)) (c :: mid) w4 from ?_)
  refine Lg.pre 4 7 0 (by simp) fun K hK u τ n' hu => ?_
  simp only [List.drop_succ_cons, List.drop_zero, List.take_succ_cons, List.take_zero]
  go_wp2
  refine hK _ _ (fun h => absurd h hs) ?_
  clear hK K
  refine Lg.move _ (fun _ _ => step_region_end) (fun h => h) ?_
  have H8 := Lib.hid h8
  clear h8
  refine Lg.move _ (fun _ _ => step_seq) (fun h => h) ?_
  refine Lg.code fun K hK q τ2 n2 hq => ?_
  have hb : Blk q b8 31 #[.slice none 0 0, .slice none 0 0, .slice none 0 0, .bool false] := by have := HB.out; rw [hu, hq] at this; exact this
  have hheap : w4.heap = q.heap ∧ w4.os = q.os ∧ w4.output = q.output := by rw [hu, hq]; exact ⟨rfl, rfl, rfl⟩
  clear hu hq HB
  have o0 := hb.cell 0
  have o1 := hb.cell 1
  have o2 := hb.cell 2
  have o3 := hb.cell 3
  have z0 := hb.frozen 0
  have z1 := hb.frozen 1
  have z2 := hb.frozen 2
  have z3 := hb.frozen 3
  simp at o0 o1 o2 o3
  have HB := Lib.hid hb
  have HH := Lib.hid hheap
  clear hb hheap
  go_wp2
  refine hK _ _ (fun h => absurd h hs) ?_
  clear hK K o0 o1 o2 o3 z0 z1 z2 z3
  have hb6 := (((HB.out.set_ 0 (.slice (some ⟨ab, 0, none⟩) n n)).set_ 1 (.slice oA oL oc)).set_ 2 (.slice none 0 0)).set_ 3 (.bool stk)
  simp only [List.setIfInBounds_toArray, List.set_cons_zero, List.set_cons_succ] at hb6
  obtain ⟨w6, hw6, f1, f2, f3⟩ : ∃ w6, w6 = (((q.setCell ⟨b8, 0, none⟩ (.slice (some ⟨ab, 0, none⟩) n n)).setCell ⟨b8, 1, none⟩ (.slice oA oL oc)).setCell ⟨b8, 2, none⟩ (.slice none 0 0)).setCell ⟨b8, 3, none⟩ (.bool stk) ∧ (∀ b, b ≠ b8 → w6.heap[b]? = w4.heap[b]?) ∧ w6.heap.size = w4.heap.size ∧ w6.os = w4.os ∧ w6.output = w4.output := by
    refine ⟨_, rfl, fun b hb => ?_, ?_, ?_, ?_⟩
    · rw [HH.out.1, Below.heap_setCell _ _ _ _ hb, Below.heap_setCell _ _ _ _ hb, Below.heap_setCell _ _ _ _ hb, Below.heap_setCell _ _ _ _ hb]
    · rw [HH.out.1]; simp [World.setCell]
    · rw [HH.out.2.1]; rfl
    · rw [HH.out.2.2]; rfl
  rw [← hw6] at hb6 ⊢
  clear hw6 HB HH
  refine Lg.move _ (fun _ _ => step_ret) (fun h => h) ?_
  refine Lg.leave rfl Try.func31 rfl (v := .agg #[.slice (some ⟨ab, 0, none⟩) n n, (.slice oA oL oc), .slice none 0 0, .bool stk]) (fun y τ n' hy => ?_) (HR.out _ _ _ ?_)
  · have c0 : y.cell? ⟨b8, 0, none⟩ = some (.slice (some ⟨ab, 0, none⟩) n n) := by have := hb6.cell 0; rw [hy] at this; exact this
    have c1 : y.cell? ⟨b8, 1, none⟩ = some (.slice oA oL oc) := by have := hb6.cell 1; rw [hy] at this; exact this
    have c2 : y.cell? ⟨b8, 2, none⟩ = some (.slice none 0 0) := by have := hb6.cell 2; rw [hy] at this; exact this
    have c3 : y.cell? ⟨b8, 3, none⟩ = some (.bool stk) := by have := hb6.cell 3; rw [hy] at this; exact this
    simp [results, Try.f31, go_sem, c0, c1, c2, c3]
  have h8 := H8.out
  have hst := HST.out
  have M := HM.out
  have D := HD.out
  obtain ⟨H, hrep, hH⟩ := D.rep
  have s1 := Hold.out.size
  have s2 := M.old.size
  have s3 := D.size
  have far : ∀ (b : Nat) (c : Array Value) (t : TypeId) (r : Nat × Nat), w0.heap[b]? = some (.cells c t r) → w3.heap[b]? = some (.cells c t r) ∧ b ≠ b8 ∧ b ≠ ab := fun b c t r h2 => by
    have hlt := lt_of_some h2
    refine ⟨(M.old.block b (by omega)).trans ((Hold.out.block b hlt).trans h2), by omega, fun e => ?_⟩
    have := M.ge.2.1; omega
  have nh8 : ¬ H b8 := hH b8 _ _ (0, 0) (.inr ⟨by decide, h8n, h8r⟩) HH8.out
  refine ⟨⟨B, .slice oA oL oc, hDn, hBo, by rw [hBa]; have := M.ge.2.1; omega, by rw [hBa, hst], ?_, H, ?_, fun b c t r hc h2 => ?_⟩, by omega, fun b c t r hc h2 => ?_, ?_⟩
  · refine own_base (own_same HO.out fun b hb => f1 b ?_) (show w0.heap.size ≤ w3.heap.size by omega)
    rcases HO.out.2 with ⟨e, _⟩ | ⟨g', cp2, cur, e, hg2, _⟩
    · rw [e] at hb; simp [Value.ownBlock] at hb
    · rw [e] at hb; simp only [Value.ownBlock, Option.some.injEq] at hb; omega
  · exact RepO.law (B.on I good) _ H w4 w6 hrep (fun b hb => f1 b fun e => nh8 (e ▸ hb)) fun b c t r hb hx => ⟨r, (f1 b fun e => h8r (e ▸ hb)).trans hx⟩
  · obtain ⟨e1, e2, e3⟩ := far b c t r h2
    rcases hc with hc | ⟨hr, h1⟩
    · exact hH b c t r (.inl hc) e1
    · by_cases hrb : (B.on I good).RB b
      · exact hrep.rbH b hrb
      · exact hH b c t r (.inr ⟨hr, fun z => z.elim h1 e3, hrb⟩) e1
  · obtain ⟨e1, e2, e3⟩ := far b c t r h2
    rw [f1 b e2]
    by_cases hb0 : b < W0.heap.size
    · exact D.near b c t r (.inl hb0) e1
    · obtain ⟨hr, h1⟩ := hc.resolve_left hb0
      by_cases hrb : (B.on I good).RB b
      · have hv : ((B.on I good).shd z.os z.output).rv b = .cells c t r := by
          show (B.on I good).rv b = _
          rw [hDD]
          show (w3.heap[b]?).getD _ = _
          rw [e1]; rfl
        rw [D.rb b hrb (by omega) c t r hv, hv]
      · exact D.near b c t r (.inr ⟨hr, fun z => z.elim h1 e3, hrb⟩) e1
  · exact ⟨f3.1.trans (D.io.1.trans (M.old.io.1.trans Hold.out.io.1)), f3.2.trans (D.io.2.trans (M.old.io.2.trans Hold.out.io.2))⟩
end Go.Proofs.Yteainbnoemkfcaa
/- DERIVED. The ring of slots among threads, pure: an operation minds its own row; a run of operations on the ring. -/
namespace Go.Proofs.Yteainbnoemkfcaa
open Go.RowKit Go.Turn Go.Tame Go.Conc
set_option linter.unusedVariables false
theorem okt_ite {D : OpsD} {i : Nat} {σ : D.St} {c : Prop} [Decidable c] {t u : Tree D.St D.St} (h1 : OKt D i t σ) (h2 : OKt D i u σ) : OKt D i (if c then t else u) σ := by
  split
  · exact h1
  · exact h2
theorem doR_ok (B : OpsB) (rb sb rn : Nat) (i : Nat) : DoOk (B.ring rb sb rn PG) i (doR B rb sb rn PG) := by
  intro o hg σ k hk
  have key : ∀ t, doR B rb sb rn PG o σ k = t → OKt (B.ring rb sb rn PG) i t σ → OKt (B.ring rb sb rn PG) i (doR B rb sb rn PG o σ k) σ := fun t e h => by rw [e]; exact h
  obtain ⟨hk1 | hk2, _⟩ := hg
  · refine key _ (if_pos hk1) ⟨fun _ _ => rfl, fun σ1 h1 => ⟨fun _ _ => rfl, fun σ2 h2 => ⟨fun _ _ => rfl, fun σ3 h3 => ?_⟩⟩⟩
    exact OKt.congr (hk ⟨true, 0, []⟩ ((upd σ3.1.1 (o.a % rn).toNat (2 * (o.a / rn)), σ3.1.2), σ3.2) (h3.trans (h2.trans h1))) (fun _ _ => rfl)
  · refine key _ ((if_neg (fun e => by rw [e] at hk2; cases hk2)).trans (if_pos hk2)) ⟨fun _ _ => rfl, fun σ1 h1 => ?_⟩
    have hk0 : ∀ a (σ' : (B.ring rb sb rn PG).St), σ'.2 i = σ.2 i → OKt (B.ring rb sb rn PG) i (k a σ') σ' := hk
    refine okt_ite (D := B.ring rb sb rn PG) (hk0 _ _ h1) (okt_ite (D := B.ring rb sb rn PG) (hk0 _ _ h1) ?_)
    refine ⟨fun _ _ => rfl, fun σ2 h2 => ⟨fun _ _ => rfl, fun σ3 h3 => ?_⟩⟩
    exact okt_ite (D := B.ring rb sb rn PG) (hk0 _ _ (h3.trans (h2.trans h1))) (hk0 _ _ (h3.trans (h2.trans h1)))
abbrev RSt2 : Type := RSt × (Nat → List Ans)
/-- The same, with no fixed data in sight. -/
def doR0 (rn : Nat) : OpI → RSt2 → (Ans → RSt2 → Tree RSt2 RSt2) → Tree RSt2 RSt2 := fun o st k =>
  if o.kind = 1 then putT rn o.a o.b st fun s => k ⟨true, 0, []⟩ s else if o.kind = 2 then getT rn o.a st fun x e s => k ⟨e == 0, wrap64 (e + x), []⟩ s else .cut
theorem do_enters (args : Array Value) (w : World) : (callFunc 32 args).run Try.prog w = .ok (.enter 32 args) w := by kernel_rfl
/-- A run of Puts and Gets on a ring, goroutine 0 alone. -/
theorem ring_ops (hP : Prog Try.prog) (Post : Value → World → Prop) (W0 : World) (rb sb rn : Nat) (hrn : 0 < rn) (h2 : rn ≤ 65536) (a0 : RSt) (Tb To nt cp : Nat) (hnt : nt ≤ maxLen) (hpos : 0 < nt) (A : Nat → Option Addr) (len cap : Nat → Nat) (ops : Nat → List OpI) (sv : Value) (xs : List Int) (most : Int) (w0 : World)
    (hrows : RowsAt w0 Tb To (min nt 64) A len cap) (hin : OpsIn W0 (ringI rb sb rn) PG a0 w0 (min nt 64) A len ops) (hsch : SchI W0 sv xs (fun b => (b = rb ∨ b = sb) ∨ ∃ i o, i < min nt 64 ∧ A i = some ⟨b, o, none⟩) w0) :
    Ccalls (lgA hP Post W0) 31 #[.slice (some ⟨Tb, To, none⟩) nt cp, .func (.func 32) #[.pointer (some ⟨rb, 0, none⟩)] #[], sv, .int .i64 most] () w0 fun v _ w' => OpsDone W0 (ringI rb sb rn) PG a0 (fun _ => doR0 rn) ops (min nt 64) xs (heldI most 1048576).toNat w0 v w' :=
  ops_calls hP Post W0 (ringI rb sb rn) PG a0 (fun _ => doR0 rn) Tb To nt cp hnt hpos 32 #[.pointer (some ⟨rb, 0, none⟩)] #[] A len cap ops sv xs most w0 hrows hin hsch do_enters (fun B i => ring_do B rb sb rn hrn h2 i) (fun B i => doR_ok B rb sb rn i)
end Go.Proofs.Yteainbnoemkfcaa
/- DERIVED. Threads of operations as trees, with no fixed data in sight; what a run's answers are in memory. -/
namespace Go.Proofs.Yteainbnoemkfcaa
open Go.RowKit Go.Turn Go.Tame Go.Conc
set_option linter.unusedVariables false
abbrev DoQ (A : Type) : Type := OpI → (A × (Nat → List Ans)) → (Ans → (A × (Nat → List Ans)) → Tree (A × (Nat → List Ans)) (A × (Nat → List Ans))) → Tree (A × (Nat → List Ans)) (A × (Nat → List Ans))
def pushQ {A : Type} (i : Nat) (a : Ans) (st : A × (Nat → List Ans)) : A × (Nat → List Ans) := (st.1, fun j => if j = i then st.2 j ++ [a] else st.2 j)
def thrQ {A : Type} (doT : DoQ A) (i : Nat) : List OpI → List Ans → (A × (Nat → List Ans)) → Tree (A × (Nat → List Ans)) (A × (Nat → List Ans))
  | [], _, st => .ret st
  | o :: l, own, st => doT o st fun a st' => if st'.2 i = own then thrQ doT i l (own ++ [a]) (pushQ i a st') else .cut
def brQ {A : Type} (doT : Nat → DoQ A) (ops : Nat → List OpI) (i : Nat) (st : A × (Nat → List Ans)) : Tree (A × (Nat → List Ans)) (A × (Nat → List Ans)) := if st.2 i = [] then thrQ (doT i) i (ops i) [] st else .cut
section
variable {I : Inner} {good : OpI → Prop}
theorem thr_q (B : OpsB) (doT : DoQ I.A) (i : Nat) : ∀ (l : List OpI) (own : List Ans) (st : I.A × (Nat → List Ans)), thrT (B.on I good) doT i l own st = thrQ doT i l own st
  | [], _, _ => rfl
  | o :: l, own, st => by
    show doT o st _ = doT o st _
    congr 1
    funext a st'
    have := thr_q B doT i l (own ++ [a]) (pushQ i a st')
    by_cases h : st'.2 i = own
    · exact (if_pos h).trans (this.trans (if_pos h).symm)
    · exact (if_neg h).trans (if_neg h).symm
theorem br_q (B : OpsB) (doT : Nat → DoQ I.A) : brT (B.on I good) doT = brQ doT B.ops := by
  funext i st
  by_cases h : st.2 i = []
  · exact (if_pos h).trans ((thr_q B (doT i) i _ _ _).trans (if_pos h).symm)
  · exact (if_neg h).trans (if_neg h).symm
end
/-- All threads' answers, in memory. -/
structure AnsAll (w : World) (ab n : Nat) (ans : Nat → List Ans) (H : Nat → Prop) : Prop where
  abH : H ab
  near : ∀ b, H b → ∃ c t r, w.heap[b]? = some (.cells c t r) ∧ r.2 < big
  rows : ∃ (rw_ : Nat → Value) (c : Array Value), w.heap[ab]? = some (.cells c 44 (0, 0)) ∧ c.size = n ∧ (∀ i, i < n → c[i]? = some (rw_ i)) ∧
    (∀ i, i < n → ∃ xs, w.ownsRow 0 46 3 (rw_ i) (ans i).length xs ∧ AnsRow w H (ans i) xs ∧ ∀ b, (rw_ i).ownBlock = some b → H b) ∧
    ∀ i j b, i < n → j < n → (rw_ i).ownBlock = some b → (rw_ j).ownBlock = some b → i = j
theorem RepO.answers {D : OpsD} {st : D.St} {H : Nat → Prop} {w : World} (h : RepO D st H w) : AnsAll w D.ab D.n st.2 (fun b => H b ∧ ¬ D.BI b) := ⟨h.abH, fun b hb => h.near b hb.1, h.rows⟩
theorem AnsAll.same {w w' : World} {ab n : Nat} {ans : Nat → List Ans} {H : Nat → Prop} (h : AnsAll w ab n ans H) (hs : ∀ b, H b → w'.heap[b]? = w.heap[b]?) : AnsAll w' ab n ans H := by
  refine ⟨h.abH, fun b hb => ?_, ?_⟩
  · obtain ⟨c, t, r, h1, h2⟩ := h.near b hb
    exact ⟨c, t, r, (hs b hb).trans h1, h2⟩
  · obtain ⟨rw_, c, h1, h2, h3, h4, h5⟩ := h.rows
    refine ⟨rw_, c, (hs _ h.abH).trans h1, h2, h3, fun i hi => ?_, h5⟩
    obtain ⟨xs, k1, k2, k3⟩ := h4 i hi
    exact ⟨xs, own_same k1 fun b hb => hs b (k3 b hb), k2.same hs fun b hb => hb, k3⟩
end Go.Proofs.Yteainbnoemkfcaa
/- DERIVED. The ring of slots (package slots), lone: There, Highest and Get at sequences in bounds; Stamps, Values, the state; a ring begun with its first items. -/
namespace Go.Proofs.Yteainbnoemkfcaa
open Go.RowKit
set_option linter.unusedVariables false
theorem Try.info64 : (Try.prog.info? 2).map (fun i => (i.zero, i.size, i.bytes)) = some (some (.int .i64 0), 1, 8) := by kernel_rfl
def rowN (f : Nat → Int) (k : Nat) : List Int := (List.range k).map f
theorem rowN_succ (f : Nat → Int) (k : Nat) : rowN f (k + 1) = rowN f k ++ [f k] := by simp [rowN, List.range_succ]
theorem rowN_len (f : Nat → Int) (k : Nat) : (rowN f k).length = k := by simp [rowN]
def NumsRow (w0 : World) (n : Nat) (xs : List Int) (e : Ending) (w' : World) : Prop := ∃ v, e = .returned v ∧ w'.ownsRow w0.heap.size 2 1 v n (xs.map (Value.int .i64)) ∧ Below w0.heap.size w0 w'
theorem cell_new1 (w : World) (v : Value) (t : TypeId) : ∀ j u, [v][j]? = some u → (w.alloc (.cells #[v] t)).cell? ((⟨w.heap.size, 0, none⟩ : Addr).add j) = some u := by
  intro j u h
  cases j with
  | zero =>
    simp only [List.getElem?_cons_zero, Option.some.injEq] at h
    subst h
    exact (Blk.new w t #[v]).cell 0
  | succ j => simp at h
theorem stamps_ok (w : World) (rb sb n : Nat) (st va : Nat → Int) (H : RingAt w rb sb n st va) : Calls Try.prog 21 #[.pointer (some ⟨rb, 0, none⟩)] w (NumsRow w n (rowN st n)) := by
  have hn := H.pos
  have h2 := H.most
  have hr := H.ring
  have HH := Lib.hid H
  obtain ⟨i0, hi0, hz0, hz1, hz2⟩ := info_parts Try.info64
  clear H
  go_enter Try.func21, Try.ntmps21
  go_wp2_with (go_at_call 14; refine (size_ring _ _ n _ _ hr).mono ?_; rintro e w' ⟨rfl, rfl⟩)
  clear hr
  go_loopw [3, 7] (fun o i wr => ∃ j : Nat, j ≤ n ∧ i = .int .i64 j ∧ wr.ownsRow w.heap.size 2 1 o j ((rowN st j).map (Value.int .i64)) ∧ Below w.heap.size w wr) (fun _ i _ => n - (intOf i).toNat)
  case atStart => exact ⟨0, Nat.zero_le _, rfl, ⟨by simp [rowN], .inl ⟨rfl, rfl⟩⟩, Below.refl _ _⟩
  case round =>
    obtain ⟨j, hj, rfl, hown, hb⟩ := hrel
    obtain ⟨A, cap, rfl⟩ := own_slice hown
    have HO := Lib.hid hown
    have HR := Lib.hid (HH.out.kept (Kept.of_below (S := fun _ => False) hb) id id)
    have d2 := HR.out.ring
    clear hown
    by_cases hlt : j < n
    · have hcell := HR.out.stamp j hlt
      have hb1 : w.heap.size ≤ wr.heap.size := hb.size
      go_wp2_with (first
        | (go_at_call 39; refine (atomic_load _ _ _ hcell).mono ?_; rintro e w' ⟨rfl, rfl⟩)
        | (at_builtin; refine wpList_append_own _ rfl _ _ 22 rfl w.heap.size 2 i0 (.int .i64 0) 1 8 Try.underlying22 hi0 hz0 hz1 hz2 rfl (by decide) _ _ _ rfl (HO.out.alloc _) ⟨wr.heap.size, 0, none⟩ 1 1 [.int .i64 (st j)] rfl rfl ?c1 ?c2 ?c3 ?c4 ?c5 ?_))
      case c1 => exact cell_new1 _ _ _
      case c2 => simp [Value.oneCell']
      case c3 => unfold maxLen; omega
      case c4 => omega
      case c5 => simp; omega
      intro v' w3 hown1 hg1 _
      have ho1 : w3.ownsRow w.heap.size 2 1 v' (j + 1) ((rowN st (j + 1)).map (Value.int .i64)) := by rw [rowN_succ, List.map_append]; exact hown1
      have hb3 : Below w.heap.size w w3 := (hb.alloc hb.size _).grown hg1 (by simp; omega) (fun k hk => (HO.out.lt k hk).1)
      have HO2 := Lib.hid (And.intro ho1 hb3)
      clear hown1 hg1 ho1 hb3
      go_wp2
      go_roundw
      case rel => exact ⟨j + 1, by omega, by go_num, HO2.out.1, HO2.out.2⟩
      case measure => simp [intOf]; omega
    · go_wp2
      go_ret
      have ej : j = n := by omega
      exact ⟨_, rfl, by rw [← ej]; exact HO.out, hb⟩
theorem values_ok (w : World) (rb sb n : Nat) (st va : Nat → Int) (H : RingAt w rb sb n st va) : Calls Try.prog 22 #[.pointer (some ⟨rb, 0, none⟩)] w (NumsRow w n (rowN va n)) := by
  have hn := H.pos
  have h2 := H.most
  have hr := H.ring
  have HH := Lib.hid H
  obtain ⟨i0, hi0, hz0, hz1, hz2⟩ := info_parts Try.info64
  clear H
  go_enter Try.func22, Try.ntmps22
  go_wp2_with (go_at_call 14; refine (size_ring _ _ n _ _ hr).mono ?_; rintro e w' ⟨rfl, rfl⟩)
  clear hr
  go_loopw [3, 7] (fun o i wr => ∃ j : Nat, j ≤ n ∧ i = .int .i64 j ∧ wr.ownsRow w.heap.size 2 1 o j ((rowN va j).map (Value.int .i64)) ∧ Below w.heap.size w wr) (fun _ i _ => n - (intOf i).toNat)
  case atStart => exact ⟨0, Nat.zero_le _, rfl, ⟨by simp [rowN], .inl ⟨rfl, rfl⟩⟩, Below.refl _ _⟩
  case round =>
    obtain ⟨j, hj, rfl, hown, hb⟩ := hrel
    obtain ⟨A, cap, rfl⟩ := own_slice hown
    have HO := Lib.hid hown
    have HR := Lib.hid (HH.out.kept (Kept.of_below (S := fun _ => False) hb) id id)
    have d2 := HR.out.ring
    clear hown
    by_cases hlt : j < n
    · have hcell := HR.out.value j hlt
      have hb1 : w.heap.size ≤ wr.heap.size := hb.size
      go_wp2_with (first
        | (go_at_call 39; refine (atomic_load _ _ _ hcell).mono ?_; rintro e w' ⟨rfl, rfl⟩)
        | (at_builtin; refine wpList_append_own _ rfl _ _ 22 rfl w.heap.size 2 i0 (.int .i64 0) 1 8 Try.underlying22 hi0 hz0 hz1 hz2 rfl (by decide) _ _ _ rfl (HO.out.alloc _) ⟨wr.heap.size, 0, none⟩ 1 1 [.int .i64 (va j)] rfl rfl ?c1 ?c2 ?c3 ?c4 ?c5 ?_))
      case c1 => exact cell_new1 _ _ _
      case c2 => simp [Value.oneCell']
      case c3 => unfold maxLen; omega
      case c4 => omega
      case c5 => simp; omega
      intro v' w3 hown1 hg1 _
      have ho1 : w3.ownsRow w.heap.size 2 1 v' (j + 1) ((rowN va (j + 1)).map (Value.int .i64)) := by rw [rowN_succ, List.map_append]; exact hown1
      have hb3 : Below w.heap.size w w3 := (hb.alloc hb.size _).grown hg1 (by simp; omega) (fun k hk => (HO.out.lt k hk).1)
      have HO2 := Lib.hid (And.intro ho1 hb3)
      clear hown1 hg1 ho1 hb3
      go_wp2
      go_roundw
      case rel => exact ⟨j + 1, by omega, by go_num, HO2.out.1, HO2.out.2⟩
      case measure => simp [intOf]; omega
    · go_wp2
      go_ret
      have ej : j = n := by omega
      exact ⟨_, rfl, by rw [← ej]; exact HO.out, hb⟩
theorem there_x (X : Stepper) (hs : X.Steps Try.prog 40) (t rb sb n : Nat) (st va : Nat → Int) (q : Int) (w : World) (H : RingAt w rb sb n st va) (h0 : 0 ≤ q) (h1 : q < 4611686018427387904) (A : X.at_ t w) (n1 : ¬ X.own rb) (n2 : ¬ X.own sb) :
    Calls Try.prog 26 #[.pointer (some ⟨rb, 0, none⟩), X.v, .int .i64 q] w fun e w' => e = .returned (.bool (st (q % n).toNat == 2 * (q / n))) ∧ Kept X.own w w' ∧ w'.heap.size = w.heap.size ∧ X.at_ (t + 1) w' := by
  have hn := H.pos
  have h2 := H.most
  have hr := H.ring
  have hb0 : 0 ≤ q % (n : Int) := Int.emod_nonneg _ (by omega)
  have hb1 : q % (n : Int) < n := Int.emod_lt_of_pos _ (by omega)
  have hd0 : 0 ≤ q / (n : Int) := Int.ediv_nonneg h0 (by omega)
  have hd1 : q / (n : Int) ≤ q := Int.ediv_le_self _ h0
  have HH := Lib.hid H
  have HN1 := Lib.hid n1
  have HN2 := Lib.hid n2
  clear H n1 n2
  go_enter Try.func26, Try.ntmps26
  go_wp2_with (go_at_call 38; refine (good_yes _ _ n _ q _ hr hn h0 h1).mono ?_; rintro e w' ⟨rfl, rfl⟩)
  go_wp2_with fail
  refine (hs t _ A).mono ?_
  rintro e w1 ⟨rfl, A1, K1, Z1⟩
  have H1 := HH.out.kept K1 HN1.out HN2.out
  have hr1 := H1.ring
  have hs1 := H1.stamp (q % (n : Int)).toNat (by omega)
  have HK := Lib.hid (And.intro K1 (And.intro Z1 A1))
  clear K1 Z1 A1 A hr H1
  go_wp2
  go_quiet (first | (go_at_call 18; exact quietS (slot_yes _ _ n _ q _ hr1 hn h2 h0 h1)) | (go_at_call 19; exact quietS (lap_yes _ _ n _ q _ hr1 hn h2 h0 h1)) | (go_at_call 39; exact quietS (atomic_load _ _ _ hs1)))
  go_wp2
  go_ret
  refine ⟨rfl, HK.out.1.trans (Kept.drewN _ _ nq), HK.out.2.1, X.keep HK.out.2.2 (Kept.drewN (fun _ => False) _ nq) (fun _ _ h => h)⟩
end Go.Proofs.Yteainbnoemkfcaa
/- DERIVED. The ring of slots (package slots), lone: Highest; the state; a ring begun with its first items; nil and zero rings. -/
namespace Go.Proofs.Yteainbnoemkfcaa
open Go.RowKit
set_option linter.unusedVariables false
/-- Highest: the answer, and how many steps. -/
def highR (st : Nat → Int) (n : Nat) : Nat → Int → Int × Nat
  | 0, q => (q - 1, 0)
  | k + 1, q => if st (q % n).toNat = 2 * (q / n) then ((highR st n k (q + 1)).1, (highR st n k (q + 1)).2 + 1) else (q - 1, 1)
def highN (n : Nat) (a b : Int) : Nat := (min (min b (a + n - 1)) 4611686018427387903 + 1 - a).toNat
set_option maxRecDepth 100000 in
theorem highest_x (X : Stepper) (hs : X.Steps Try.prog 40) (t rb sb n : Nat) (st va : Nat → Int) (a b : Int) (w : World) (H : RingAt w rb sb n st va) (h0 : 0 ≤ a) (h1 : a < 4611686018427387904) (hab : a ≤ b) (hb : b < 9223372036854775808) (A : X.at_ t w) (n1 : ¬ X.own rb) (n2 : ¬ X.own sb) :
    Calls Try.prog 27 #[.pointer (some ⟨rb, 0, none⟩), X.v, .int .i64 a, .int .i64 b] w fun e w' => e = .returned (.int .i64 (highR st n (highN n a b) a).1) ∧ Kept X.own w w' ∧ w'.heap.size = w.heap.size ∧ X.at_ (t + (highR st n (highN n a b) a).2) w' := by
  have hn := H.pos
  have h2 := H.most
  have hr := H.ring
  have HH := Lib.hid H
  have HN1 := Lib.hid n1
  have HN2 := Lib.hid n2
  have HA := Lib.hid A
  clear H n1 n2 A
  go_enter Try.func27, Try.ntmps27
  obtain ⟨Y, e1⟩ : ∃ Y, (if a + (n : Int) - 1 < b then a + (n : Int) - 1 else b) = Y := ⟨_, rfl⟩
  obtain ⟨M, e2⟩ : ∃ M, (if 4611686018427387903 < Y then 4611686018427387903 else Y) = M := ⟨_, rfl⟩
  obtain ⟨m0, m1, m2, m3⟩ : a - 1 ≤ M ∧ M ≤ 4611686018427387903 ∧ (M + 1 - a).toNat = highN n a b ∧ a ≤ M := by
    unfold highN
    rw [← e2, ← e1]
    split <;> split <;> omega
  generalize highN n a b = kk at m2 ⊢
  have hk := Lib.hid m2
  clear m2
  go_wp2_with (first | (go_at_call 38; refine (good_yes _ _ n _ a _ hr hn h0 h1).mono ?_; rintro e w' ⟨rfl, rfl⟩) | (go_at_call 14; refine (size_ring _ _ n _ _ hr).mono ?_; rintro e w' ⟨rfl, rfl⟩))
  clear e1 e2 hr hab hb
  have hk := hk.out
  go_loopw [10] (fun i wr => ∃ j : Nat, j ≤ kk ∧ i = .int .i64 (a + j) ∧ (highR st n kk a).1 = (highR st n (kk - j) (a + j)).1 ∧ (highR st n kk a).2 = (highR st n (kk - j) (a + j)).2 + j ∧ Kept X.own w wr ∧ wr.heap.size = w.heap.size ∧ X.at_ (t + j) wr) (fun i _ => kk - (intOf i - a).toNat)
  case atStart => exact ⟨0, Nat.zero_le _, by simp, by simp, by simp, Kept.refl _ _, rfl, HA.out⟩
  case round =>
    obtain ⟨j, hj, rfl, r1, r2, K1, Z1, A1⟩ := hrel
    have HK := Lib.hid (And.intro r1 (And.intro r2 (And.intro K1 (And.intro Z1 A1))))
    clear r1 r2 K1 Z1 A1
    by_cases hlt : j < kk
    · go_wp2_with fail
      refine (there_x X hs (t + j) rb sb n st va (a + j) wr (HH.out.kept HK.out.2.2.1 HN1.out HN2.out) (by omega) (by omega) HK.out.2.2.2.2 HN1.out HN2.out).mono ?_
      rintro e w1 ⟨rfl, K2, Z2, A2⟩
      obtain ⟨r1, r2, K1, Z1, A1⟩ := HK.out
      obtain ⟨k, hkk⟩ : ∃ k, kk - j = k + 1 := ⟨kk - j - 1, by omega⟩
      rw [hkk] at r1 r2
      simp only [highR] at r1 r2
      by_cases heq : st ((a + j) % (n : Int)).toNat = 2 * ((a + j) / (n : Int))
      · rw [if_pos heq] at r1 r2
        have hB : (st ((a + j) % (n : Int)).toNat == 2 * ((a + j) / (n : Int))) = true := by simpa using heq
        rw [hB]
        have HX := Lib.hid (And.intro r1 (And.intro r2 (And.intro (K1.trans K2) (And.intro (Z2.trans Z1) A2))))
        have Hk := Lib.hid hkk
        clear r1 r2 K1 Z1 A1 K2 Z2 A2 HK heq hB hkk
        go_wp2
        go_roundw
        case rel =>
          obtain ⟨x1, x2, x3, x4, x5⟩ := HX.out
          have hkk := Hk.out
          rw [show a + (j : Int) + 1 = a + ((j + 1 : Nat) : Int) from by omega, show k = kk - (j + 1) from by omega] at x1 x2
          exact ⟨j + 1, by omega, by go_num, x1, by omega, x3, x4, x5⟩
        case measure => simp [intOf]; omega
      · rw [if_neg heq] at r1 r2
        have hB : (st ((a + j) % (n : Int)).toNat == 2 * ((a + j) / (n : Int))) = false := by simpa using heq
        rw [hB]
        have HX := Lib.hid (And.intro r1 (And.intro r2 (And.intro (K1.trans K2) (And.intro (Z2.trans Z1) A2))))
        clear r1 r2 K1 Z1 A1 K2 Z2 A2 HK heq hB hkk
        go_wp2
        go_ret
        obtain ⟨x1, x2, x3, x4, x5⟩ := HX.out
        exact ⟨by rw [x1]; rfl, x3, x4, by rw [x2]; rw [show t + (1 + j) = t + j + 1 from by omega]; exact x5⟩
    · have ej : j = kk := by omega
      subst ej
      go_wp2
      go_ret
      obtain ⟨r1, r2, K1, Z1, A1⟩ := HK.out
      simp only [Nat.sub_self, highR] at r1 r2
      exact ⟨by rw [r1]; exact congrArg (fun z => Ending.returned (.int .i64 z)) (by omega), K1, Z1, by rw [r2]; simpa using A1⟩
end Go.Proofs.Yteainbnoemkfcaa
namespace Go.Proofs.Yteainbnoemkfcaa
open Go.RowKit
set_option linter.unusedVariables false
theorem row_cells {w : World} {base g cap n : Nat} {e : TypeId} {xs : List Value} (h : w.ownsRow base e 1 (.slice (some ⟨g, 0, none⟩) n cap) n xs) : ∀ j u, xs[j]? = some u → w.cell? ((⟨g, 0, none⟩ : Addr).add j) = some u := by
  intro j u hj
  have hl : xs.length = n := by simpa using h.1
  have hjl : j < xs.length := (List.getElem?_eq_some_iff.1 hj).1
  have hc := h.cellAt (g := g) j (by omega)
  have e0 : (⟨g, 0, none⟩ : Addr).add j = ⟨g, j, none⟩ := by unfold Addr.add; split <;> simp_all
  rw [e0, hc, hj]
theorem row_addr {w : World} {base : Nat} {e : TypeId} {size n cap : Nat} {A : Option Addr} {xs : List Value} (h : w.ownsRow base e size (.slice A n cap) n xs) (hn : 0 < n) : ∃ g, A = some ⟨g, 0, none⟩ ∧ base ≤ g ∧ g < w.heap.size := by
  rcases h.2 with ⟨e, _⟩ | ⟨g, cap', cur, e, hg, hh, _⟩
  · cases e; omega
  · cases e
    refine ⟨g, rfl, hg, ?_⟩
    rcases Nat.lt_or_ge g w.heap.size with hlt | hge
    · exact hlt
    · rw [Array.getElem?_eq_none hge] at hh; cases hh
theorem row_cap {w : World} {base n cap size : Nat} {A : Option Addr} {e : TypeId} {xs : List Value} (h : w.ownsRow base e size (.slice A n cap) n xs) : n ≤ cap := by
  rcases h.2 with ⟨e, _⟩ | ⟨g, cap', cur, e, hg, _, h1, _⟩
  · cases e; omega
  · cases e; exact h1
set_option maxRecDepth 100000 in
theorem state_ok (w : World) (rb sb n : Nat) (st va : Nat → Int) (H : RingAt w rb sb n st va) : Calls Try.prog 33 #[.pointer (some ⟨rb, 0, none⟩)] w (NumsRow w (n + n) (rowN st n ++ rowN va n)) := by
  have hn := H.pos
  have h2 := H.most
  have HH := Lib.hid H
  obtain ⟨i0, hi0, hz0, hz1, hz2⟩ := info_parts Try.info64
  clear H
  go_enter Try.func33, Try.ntmps33
  go_wp2_with fail
  refine (stamps_ok w rb sb n st va HH.out).mono ?_
  rintro e w1 ⟨v1, rfl, o1, B1⟩
  obtain ⟨A1, c1, rfl⟩ := own_slice o1
  have HO := Lib.hid (And.intro o1 B1)
  clear o1 B1
  go_wp2_with fail
  refine (values_ok w1 rb sb n st va (HH.out.kept (Kept.of_below (S := fun _ => False) HO.out.2) id id)).mono ?_
  rintro e w2 ⟨v2, rfl, o2, B2⟩
  obtain ⟨A2, c2, rfl⟩ := own_slice o2
  obtain ⟨o1, B1⟩ := HO.out
  clear HO
  have k1 := own_kept o1 (Kept.of_below (S := fun _ => False) B2) (fun _ _ h => h)
  have z1 := B1.size
  have z2 := B2.size
  obtain ⟨g2, rfl, hg2, hl2⟩ := row_addr o2 hn
  have B := B1.trans (B2.mono z1)
  have HO := Lib.hid (And.intro o2 B)
  have hc2 := row_cap o2
  clear o1 B1 B2 o2 B
  go_wp2_with (at_builtin; refine wpList_append_own _ rfl _ _ 22 rfl w.heap.size 2 i0 (.int .i64 0) 1 8 Try.underlying22 hi0 hz0 hz1 hz2 rfl (by decide) _ _ _ rfl k1 ⟨g2, 0, none⟩ n c2 ((rowN va n).map (Value.int .i64)) rfl (by simp [rowN]) ?c1 ?c2 ?c3 ?c4 ?c5 ?_)
  case c1 => exact row_cells HO.out.1
  case c2 => simp [Value.oneCell']
  case c3 => unfold maxLen; omega
  case c4 => omega
  case c5 => omega
  intro v3 w3 hown hgrow hl3
  have k4 : w3.ownsRow w.heap.size 2 1 v3 (n + n) ((rowN st n ++ rowN va n).map (Value.int .i64)) := by rw [List.map_append]; exact hown
  have hb3 := (HO.out.2).grown hgrow (by omega) (fun k hk => (k1.lt k hk).1)
  clear hown hgrow
  go_wp2
  go_ret
  exact ⟨_, rfl, k4, hb3⟩
end Go.Proofs.Yteainbnoemkfcaa
