/- DERIVED. 'written' of the statements of layer 12, walked: what the Writes that are OK have written. -/
import Derived.Test.YtlcplealnbekeaaGk
import Derived.Test.YtlcplealnbekeaaGi
import Derived.Test.YtlcplealnbekeaaGh
/- DERIVED. A run by a schedule on a ring with one writer (package solo: Play), goroutine 0 alone. -/
namespace Go.Proofs.Ytlcplealnbekeaa
open Go.RowKit Go.Turn Go.Tame Go.Conc
set_option linter.unusedVariables false
set_option linter.unusedSectionVars false
set_option linter.unusedSimpArgs false
def I0 (n k : Nat) : Ids := ⟨0, 0, 0, 0, 0, n, k⟩
theorem putsT_eq (I : Ids) (q : Int) : ∀ (vs : List Int) (j : Nat) (s : SSt) k, putsT I q vs j s k = putsT (I0 I.n I.k) q vs j s k
  | [], _, _, _ => rfl
  | v :: vs, j, s, k => by
    show sputT I _ v s _ = sputT (I0 I.n I.k) _ v s _
    have : (fun (_ : Int) s' => putsT I q vs (j + 1) s' k) = fun (_ : Int) s' => putsT (I0 I.n I.k) q vs (j + 1) s' k := by funext _ s'; exact putsT_eq I q vs (j + 1) s' k
    rw [this]
    rfl
theorem batchL_eq (I : Ids) (p : Int) : ∀ (m : Nat) (ls : List Int) (s : SSt) k, batchL I p m ls s k = batchL (I0 I.n I.k) p m ls s k
  | 0, _, _, _ => rfl
  | m + 1, ls, s, k => by
    show (if _ then _ else getG soloL I.n _ s _) = (if _ then _ else getG soloL I.n _ s _)
    congr 2
    funext v e s'
    rw [batchL_eq I p m (ls ++ [v]) s' k]
theorem doS_eq (I : Ids) : doS I = doS (I0 I.n I.k) := by
  funext i o st k
  have h1 : ∀ vs s k, swriteT I vs s k = swriteT (I0 I.n I.k) vs s k := fun vs s k => by
    unfold swriteT
    have : (fun q e s => if e = 0 then putsT I q vs 0 s fun s => spubT (wrap64 (wrap64 (q + vs.length) - 1)) s fun _ s => k q 0 s else k 0 e s) = fun q e s => if e = 0 then putsT (I0 I.n I.k) q vs 0 s fun s => spubT (wrap64 (wrap64 (q + vs.length) - 1)) s fun _ s => k q 0 s else k 0 e s := by
      funext q e s
      rw [putsT_eq]
    rw [this]
    rfl
  have h2 : ∀ r m s k, batchT I r m s k = batchT (I0 I.n I.k) r m s k := fun r m s k => by
    unfold batchT
    simp only [batchL_eq I]
    rfl
  show (if _ then wopT I o st k else if _ then _ else if _ then readT I _ st _ else if _ then batchT I _ _ st _ else _) = (if _ then wopT (I0 I.n I.k) o st k else if _ then _ else if _ then readT (I0 I.n I.k) _ st _ else if _ then batchT (I0 I.n I.k) _ _ st _ else _)
  have h3 : wopT I o st k = wopT (I0 I.n I.k) o st k := by
    unfold wopT
    rw [h1]
    rfl
  have h4 : ∀ r k, readT I r st k = readT (I0 I.n I.k) r st k := fun r k => h2 r 1 st _
  rw [h3, h4, h2]
  rfl
theorem solo_doS (B : OpsB) (I : Ids) (i : Nat) : DoLaw (B.solo I SG) i (doS I i) 20 #[.pointer (some ⟨I.so, 0, none⟩)] #[] := by
  intro tb L Cap hre hk hst hcut o st H k w hgood hrep hcap
  have hn : Now (B.solo I SG) Cap H w st H w := ⟨hrep, hcap, Held.refl _ _⟩
  exact (solo_doT hk (slots_sstep hre hk hst) (solo_sstep hre hk hst) H w st H w hn hcut i o hgood k).mono fun v t' w' ⟨a, s', H', lv, h1, h2, h3, h4⟩ => ⟨a, s', H', lv, h2, h1, h3.rep, h3.held, h4.own, fun b hb => (h4.nh b hb).1⟩
theorem solo_enters (args : Array Value) (w : World) : (callFunc 20 args).run Try.prog w = .ok (.enter 20 args) w := by kernel_rfl
set_option maxHeartbeats 4000000 in
set_option maxRecDepth 100000 in
theorem solo_play (hP : Prog Try.prog) (Post : Value → World → Prop) (W0 : World) (nn kk : Nat) (h0 : 0 < nn) (h2 : nn ≤ 65536) (hk64 : kk ≤ 64) (hbt : (bits BinOp.and IntKind.i64 (nn : Int) ((nn : Int) - 1) != 0) = false)
    (tA : Option Addr) (Tb To nt cp : Nat) (htA : 0 < nt → tA = some ⟨Tb, To, none⟩) (hnt : nt ≤ maxLen) (A : Nat → Option Addr) (len cap : Nat → Nat) (ops : Nat → List OpI) (sv : Value) (xs : List Int) (most : Int) (w0 : World) (hW : W0.heap.size ≤ w0.heap.size)
    (hrows : RowsAt w0 Tb To (min nt 64) A len cap) (hin : OpsCells W0 SG w0 (min nt 64) A len ops) (hsch : SchI W0 sv xs (fun b => ∃ i o, i < min nt 64 ∧ A i = some ⟨b, o, none⟩) w0)
    (hSo : Sound (brQ (doS (I0 nn kk)) ops) (min nt 64) (soloZero, fun _ => [])) :
    Ccalls (lgA hP Post W0) 8 #[.int .i64 nn, .int .i64 kk, .slice tA nt cp, sv, .int .i64 most] () w0 fun v _ w' => PlayG W0 (2 + kk + nn + nn) (stateL (I0 nn kk)) (playRun (brQ (doS (I0 nn kk)) ops) (min nt 64) (heldI most 1048576).toNat xs (soloZero, fun _ => [])) (min nt 64) w0 v w' := by
  have HSO := Lib.hid hSo
  clear hSo
  intro c mid hR
  have HR := Lib.hid hR
  clear hR
  have hs : ¬ (lgA hP Post W0).strict := fun h => h
  rw [show Frame.enter Try.prog 8 #[.int .i64 nn, .int .i64 kk, .slice tA nt cp, sv, .int .i64 most] .normal = Frame.at { (default : Frame) with fn := 8, kind := .normal } ⟨#[.int .i64 nn, .int .i64 kk, .slice tA nt cp, sv, .int .i64 most] ++ Array.replicate (Try.f8.ntmps - 5) undef, []⟩ [.code (Try.f8.body.getD .skip)] from by simp [Frame.enter, Frame.at, Try.func8]; rfl]
  simp only [Try.f8, Option.getD_some, Nat.reduceSub, Array.replicate_succ, Array.replicate_zero, List.push_toArray, List.append_toArray, List.nil_append, List.cons_append]
  refine Lg.move _ (fun _ _ => step_seq) (fun h => h) ?_
  refine Lg.code fun K hK y τ n' hy => ?_
  have hold : Old w0.heap.size w0 y := by rw [hy]; exact (Old.refl _ (y.re τ n')).re
  have hsz : y.heap.size = w0.heap.size := by rw [hy]; rfl
  clear hy
  go_wp2
  refine hK _ _ (fun h => absurd h hs) ?_
  clear hK K
  have hold1 := hold.new (show w0.heap.size ≤ y.heap.size by omega) (.cells #[.slice none 0 0, .slice none 0 0, .slice none 0 0, .bool false] 31)
  have hb8 := Blk.new y 31 #[.slice none 0 0, .slice none 0 0, .slice none 0 0, .bool false]
  have hsz1 : (y.alloc (.cells #[.slice none 0 0, .slice none 0 0, .slice none 0 0, .bool false] 31)).heap.size = w0.heap.size + 1 := by simp [hsz]
  rw [hsz] at hb8
  generalize y.alloc (.cells #[.slice none 0 0, .slice none 0 0, .slice none 0 0, .bool false] 31) = w1 at hb8 hold1 hsz1 ⊢
  obtain ⟨b8, h8⟩ : ∃ b8, b8 = w0.heap.size := ⟨_, rfl⟩
  rw [← h8] at hb8 ⊢
  have HZ2 := Lib.hid h8
  clear h8 hsz hold
  refine Lg.move _ (fun _ _ => step_seq) (fun h => h) ?_
  refine Lg.code fun K hK z τ n' hz => ?_
  subst hz
  have hold1 := hold1.re
  have hb8 : Blk z b8 _ _ := hb8
  have hsz1 : z.heap.size = w0.heap.size + 1 := hsz1
  have HST := Lib.hid (solo_newN nn kk z h0 h2 hk64 hbt)
  have HOLD := Lib.hid hold1
  have HB8 := Lib.hid hb8
  have HZ := Lib.hid hsz1
  clear hold1 hb8 hsz1
  go_wp2_with fail
  refine HST.out.mono ?_
  rintro e w2 ⟨I, rfl, rfl, g1, g2, g3, g4, g5, rfl, hat0, B1, N0⟩
  have hrat : SAt I soloZero w2 := ⟨hat0, N0, by constructor <;> simp [soloZero]⟩
  have N1 : ∀ b, soB I b → (∃ c t r, w2.heap[b]? = some (.cells c t r) ∧ r.2 < big) ∧ z.heap.size ≤ b := fun b hb => ⟨by obtain ⟨c, t, e⟩ := N0 b hb; exact ⟨c, t, _, e, by decide⟩, by rcases hb with rfl | rfl | rfl | rfl | rfl <;> assumption⟩
  have hold2 := HOLD.out.below B1 (by have := HZ.out; omega)
  have hb8 : Blk w2 b8 _ _ := HB8.out.below B1 HB8.out.lt
  have hlb8 := HB8.out.lt
  have hge0 := HZ.out
  generalize z.heap.size = sb at *
  have hge : ∀ b, soB I b → w0.heap.size + 1 ≤ b := fun b hb => by have := (N1 b hb).2; omega
  have hin2 : OpsIn W0 (soloI I) SG soloZero w2 (min nt 64) A len ops := hin.opsIn hold2 hrat fun b hb => ⟨(N1 b hb).1, by have := hge b hb; omega⟩
  have hbW : ∀ b, soB I b → W0.heap.size ≤ b := fun b hb => by have := hge b hb; omega
  have hrows2 := hrows.later hold2
  have hsch2 : SchI W0 sv xs (fun b => soB I b ∨ ∃ i o, i < min nt 64 ∧ A i = some ⟨b, o, none⟩) w2 := hsch.later hold2 fun b hb hz => by
    rcases hz with e | hz
    · have := hge b e; omega
    · exact hz
  have HIN := Lib.hid hin2
  have HRO := Lib.hid hrows2
  have HSC := Lib.hid hsch2
  have HO2 := Lib.hid hold2
  have HB2 := Lib.hid hb8
  have HGE := Lib.hid hge
  clear hin hin2 hrows hrows2 hsch hsch2 hold2 hb8 hrat N1 B1 HST HOLD HB8 HZ hge hge0
  go_wp2
  refine hK _ _ (fun h => absurd h hs) ?_
  clear hK K
  refine Lg.move _ (fun _ _ => step_seq) (fun h => h) ?_
  refine Lg.move _ (fun _ _ => step_seq) (fun h => h) ?_
  refine Lg.code fun K hK y3 τ n' hy => ?_
  subst hy
  have hin2 : OpsIn W0 (soloI I) SG soloZero y3 (min nt 64) A len ops := HIN.out.later (w0 := y3.re τ n') (Old.refl _ (y3.re τ n')).re
  have hrows2 := HRO.out.later (w0 := y3.re τ n') (Old.refl _ (y3.re τ n')).re
  have hsch2 := HSC.out.later (w0 := y3.re τ n') (Old.refl _ (y3.re τ n')).re (fun _ _ h => h)
  have hold2 := HO2.out.re
  have hb8 : Blk y3 b8 _ _ := HB2.out
  clear HIN HRO HSC HO2 HB2
  have HIN := Lib.hid hin2
  have HRO := Lib.hid hrows2
  have HSC := Lib.hid hsch2
  have HO2 := Lib.hid hold2
  have HB2 := Lib.hid hb8
  clear hin2 hrows2 hsch2 hold2 hb8
  go_wp2
  refine hK _ _ (fun h => absurd h hs) ?_
  clear hK K
  refine Lg.mv_condF _ rfl ?_
  refine Lg.mv_skip _ ?_
  refine Lg.move _ (fun _ _ => step_seq) (fun h => h) ?_
  refine Lg.move _ (fun _ _ => step_region) (fun h => h) ?_
  refine Lg.pre 0 5 3 (by simp) fun K hK u τ n' hu => ?_
  subst hu
  have hin2 : OpsIn W0 (soloI I) SG soloZero u (min nt 64) A len ops := HIN.out.later (w0 := u.re τ n') (Old.refl _ (u.re τ n')).re
  have hrows2 := HRO.out.later (w0 := u.re τ n') (Old.refl _ (u.re τ n')).re
  have hsch2 := HSC.out.later (w0 := u.re τ n') (Old.refl _ (u.re τ n')).re (fun _ _ h => h)
  have hold2 := HO2.out.re
  have hb8 : Blk u b8 _ _ := HB2.out
  have HIN2 := Lib.hid hin2
  have HRO2 := Lib.hid hrows2
  have HSC2 := Lib.hid hsch2
  have HO := Lib.hid hold2
  have HB := Lib.hid hb8
  clear hin2 hrows2 hsch2 hold2 hb8 HIN HRO HSC HO2 HB2
  simp only [List.drop_zero, List.take_succ_cons, List.take_zero]
  go_wp2
  refine hK _ _ (fun h => absurd h hs) ?_
  clear hK K
  have hops := ops_calls hP Post W0 (soloI I) SG soloZero (doS I) tA Tb To nt cp htA hnt 20 #[.pointer (some ⟨I.so, 0, none⟩)] #[] A len cap ops sv xs most u (by have := HO.out.size; omega) hbW HRO2.out HIN2.out HSC2.out solo_enters (fun B i => solo_doS B I i) (fun B hn hB => (show brT (B.on (soloI I) SG) (doS I) = brQ (doS (I0 I.n I.k)) ops from (br_q (I := soloI I) (good := SG) B (doS I)).trans (by rw [hB, doS_eq I]; rfl)) ▸ HSO.out)
  refine Lg.call (i := 5) (rest := [6, 7]) (f := 19) (args := #[.slice tA nt cp, .func (.func 20) #[.pointer (some ⟨I.so, 0, none⟩)] #[], sv, .int .i64 most]) rfl rfl (fun y => by go_simp) hops ?_
  rintro vv t'' w4 hdone
  have HOPS := Lib.hid hdone
  obtain ⟨B, ov, hBn, hBo, hBa, hvv0, hov0, H, hrep, hH⟩ := hdone.ex
  clear hdone hops
  obtain ⟨R, hR⟩ : ∃ R : Run SSt, R = playRun (brQ (doS (I0 I.n I.k)) ops) (min nt 64) (heldI most 1048576).toNat xs (soloZero, fun _ => []) := ⟨_, rfl⟩
  have eR : playRun (brT (B.on (soloI I) SG) (doS I)) (min nt 64) (heldI most 1048576).toNat xs (soloZero, fun _ => []) = R := by
    rw [hR]
    exact congrArg (fun b => playRun b (min nt 64) (heldI most 1048576).toNat xs (soloZero, fun _ => [])) ((br_q (I := soloI I) (good := SG) B (doS I)).trans (by rw [hBo, doS_eq I]; rfl))
  have key : ∀ R' : Run SSt, playRun (brT (B.on (soloI I) SG) (doS I)) (min nt 64) (heldI most 1048576).toNat xs (soloZero, fun _ => []) = R' → vv = .agg #[.slice (some ⟨B.ab, 0, none⟩) (min nt 64 : Nat) (min nt 64 : Nat), ov, .slice none 0 0, .bool (decide (0 < R'.m.left (min nt 64)))] ∧ w4.ownsRow u.heap.size 3 1 ov R'.order.length (R'.order.map (Value.int .i64)) ∧ AnsAll w4 B.ab B.n R'.m.s.2 (fun b => H b ∧ ¬ soB I b) ∧ SAt I R'.m.s.1 w4 ∧ ∀ b, soB I b → b < w4.heap.size := by
    rintro _ rfl
    exact ⟨hvv0, hov0, hrep.answers, hrep.at_, fun b hb => by obtain ⟨c, t, r, h1, _⟩ := hrep.near b (hrep.bi b hb); exact lt_of_some h1⟩
  obtain ⟨hvv, hov, hans, hrat, hltB⟩ := key R eR
  rw [← hR] at HR
  rw [hBn] at hans
  obtain ⟨stk, hst⟩ : ∃ stk : Bool, stk = decide (0 < R.m.left (min nt 64)) := ⟨_, rfl⟩
  rw [← hst] at hvv
  clear key hrep eR hvv0 hov0 hBo
  have HRR := Lib.hid hR
  clear hR
  generalize min nt 64 = n at *
  obtain ⟨oA, oc, rfl⟩ := own_slice hov
  obtain ⟨oL, hoL⟩ : ∃ oL, oL = R.order.length := ⟨_, rfl⟩
  rw [← hoL] at hvv
  obtain ⟨ab, hab⟩ : ∃ ab, ab = B.ab := ⟨_, rfl⟩
  rw [← hab] at hvv hBa hans
  subst hvv
  have HX := Lib.hid (And.intro hans (And.intro hrat (And.intro hov (And.intro hBa (And.intro hoL (And.intro hst (And.intro hH hltB)))))))
  have hb8 : Blk w4 b8 _ _ := HOPS.out.near b8 _ _ (0, 0) (.inr ⟨by decide, fun z => by have := HGE.out _ z; have := HZ2.out; omega⟩) HB.out
  clear hans hrat hov hBa hoL hst hH hltB
  have HB4 := Lib.hid hb8
  clear hb8 hab
  rw [Frame.finish_at]
  walk_nrm
  refine (show (lgA hP Post W0).T _ (Frame.at _ ⟨_, []⟩ (.inRegion _ (List.range' 6 (2 + 0)) :: _)) (c :: mid) w4 from ?_)
  refine Lg.pre 6 2 0 (by simp) fun K hK q τ2 n2 hq => ?_
  simp only [List.drop_succ_cons, List.drop_zero, List.take_succ_cons, List.take_zero]
  go_wp2
  refine hK _ _ (fun h => absurd h hs) ?_
  clear hK K
  have hb4 : Blk q b8 31 #[.slice none 0 0, .slice none 0 0, .slice none 0 0, .bool false] := by have := HB4.out; rw [hq] at this; exact this
  have hh : w4.heap = q.heap ∧ w4.os = q.os ∧ w4.output = q.output := by rw [hq]; exact ⟨rfl, rfl, rfl⟩
  clear hq HB4
  obtain ⟨b10, h10⟩ : ∃ b10, b10 = q.heap.size := ⟨_, rfl⟩
  rw [← h10]
  obtain ⟨w5, hw5, hb10, f1, f2, f3⟩ : ∃ w5, w5 = (q.alloc (.cells #[.slice (some ⟨ab, 0, none⟩) n n, .slice oA oL oc, .slice none 0 0, .bool stk] 31)) ∧ Blk w5 b10 31 #[.slice (some ⟨ab, 0, none⟩) n n, .slice oA oL oc, .slice none 0 0, .bool stk] ∧ (∀ b, b < w4.heap.size → w5.heap[b]? = w4.heap[b]?) ∧ w5.heap.size = w4.heap.size + 1 ∧ w5.os = w4.os ∧ w5.output = w4.output := by
    refine ⟨_, rfl, h10 ▸ Blk.new q _ _, fun b hb => ?_, ?_, hh.2.1.symm, hh.2.2.symm⟩
    · rw [hh.1] at hb ⊢; exact Below.heap_alloc _ _ _ hb
    · rw [hh.1]; simp
  rw [← hw5]
  clear hw5
  have hg10 : w4.heap.size ≤ b10 := by rw [h10, hh.1]; exact Nat.le_refl _
  have HG10 := Lib.hid hg10
  have h84 : b8 < w4.heap.size := by rw [hh.1]; exact hb4.lt
  have hb8 : Blk w5 b8 31 #[.slice none 0 0, .slice none 0 0, .slice none 0 0, .bool false] := (f1 b8 h84).trans (by rw [hh.1]; exact hb4)
  clear h10 hh hb4 hg10
  refine Lg.move _ (fun _ _ => step_region_end) (fun h => h) ?_
  refine Lg.move _ (fun _ _ => step_seq) (fun h => h) ?_
  refine Lg.code fun K hK p τ3 n3 hp => ?_
  subst hp
  have hb10 : Blk p b10 _ _ := hb10
  have hb8 : Blk p b8 _ _ := hb8
  have hrat5 : SAt I R.m.s.1 p := SAt.law I _ w4 p HX.out.2.1 fun b hb => f1 b (HX.out.2.2.2.2.2.2.2 b hb)
  have HF := Lib.hid (And.intro f1 (And.intro f2 f3))
  have HB10 := Lib.hid hb10
  have HB8 := Lib.hid hb8
  have HRA := Lib.hid hrat5
  clear f1 f2 f3 hb10 hb8 hrat5
  go_wp2_with fail
  refine (solo_stateR p I _ HRA.out.s).mono ?_
  rintro e w6 ⟨tv, rfl, ht, B6⟩
  obtain ⟨tA, tc, rfl⟩ := own_slice ht
  have hb10 : Blk w6 b10 _ _ := HB10.out.below B6 HB10.out.lt
  have c2 := hb10.cell 2
  have z2 := hb10.frozen 2
  simp at c2
  have HT := Lib.hid ht
  have HB6 := Lib.hid B6
  clear ht B6
  have HBX := Lib.hid hb10
  clear hb10
  go_wp2
  refine hK _ _ (fun h => absurd h hs) ?_
  clear hK K c2 z2
  have hb8 : Blk w6 b8 _ _ := HB8.out.below HB6.out HB8.out.lt
  have hne : b8 ≠ b10 := by have := HG10.out; omega
  have hb10 := (HBX.out).set_ 2 (.slice tA (2 + I.k + I.n + I.n) tc)
  have hb8 := hb8.far (p := ⟨b10, 2, none⟩) hne (.slice tA (2 + I.k + I.n + I.n) tc)
  simp only [List.setIfInBounds_toArray, List.set_cons_zero, List.set_cons_succ] at hb10
  obtain ⟨w7, hw7, g1, g2, g3⟩ : ∃ w7, w7 = w6.setCell ⟨b10, 2, none⟩ (.slice tA (2 + I.k + I.n + I.n) tc) ∧ (∀ b, b ≠ b10 → w7.heap[b]? = w6.heap[b]?) ∧ w7.heap.size = w6.heap.size ∧ w7.os = w6.os ∧ w7.output = w6.output := ⟨_, rfl, fun b hb => Below.heap_setCell _ _ _ _ hb, by simp [World.setCell], rfl, rfl⟩
  rw [← hw7] at hb8 hb10 ⊢
  clear hw7 HBX
  refine Lg.move _ (fun _ _ => step_seq) (fun h => h) ?_
  refine Lg.code fun K hK v τ4 n4 hv => ?_
  subst hv
  have hb10 : Blk v b10 _ _ := hb10
  have hb8 : Blk v b8 _ _ := hb8
  have o0 := hb8.cell 0
  have o1 := hb8.cell 1
  have o2 := hb8.cell 2
  have o3 := hb8.cell 3
  have z0 := hb8.frozen 0
  have z1 := hb8.frozen 1
  have z2 := hb8.frozen 2
  have z3 := hb8.frozen 3
  have e0 := hb10.cell 0
  have e1 := hb10.cell 1
  have e2 := hb10.cell 2
  have e3 := hb10.cell 3
  simp at o0 o1 o2 o3 e0 e1 e2 e3
  have HC8 := Lib.hid hb8
  have HG := Lib.hid (And.intro g1 (And.intro g2 g3))
  clear hb8 hb10 g1 g2 g3
  go_wp2
  refine hK _ _ (fun h => absurd h hs) ?_
  clear hK K o0 o1 o2 o3 z0 z1 z2 z3 e0 e1 e2 e3
  have hb8 := (((HC8.out.set_ 0 (.slice (some ⟨ab, 0, none⟩) n n)).set_ 1 (.slice oA oL oc)).set_ 2 (.slice tA (2 + I.k + I.n + I.n) tc)).set_ 3 (.bool stk)
  simp only [List.setIfInBounds_toArray, List.set_cons_zero, List.set_cons_succ] at hb8
  obtain ⟨w9, hw9, k1, k2, k3⟩ : ∃ w9, w9 = (((v.setCell ⟨b8, 0, none⟩ (.slice (some ⟨ab, 0, none⟩) n n)).setCell ⟨b8, 1, none⟩ (.slice oA oL oc)).setCell ⟨b8, 2, none⟩ (.slice tA (2 + I.k + I.n + I.n) tc)).setCell ⟨b8, 3, none⟩ (.bool stk) ∧ (∀ b, b ≠ b8 → w9.heap[b]? = v.heap[b]?) ∧ w9.heap.size = v.heap.size ∧ w9.os = v.os ∧ w9.output = v.output :=
    ⟨_, rfl, fun b hb => by rw [Below.heap_setCell _ _ _ _ hb, Below.heap_setCell _ _ _ _ hb, Below.heap_setCell _ _ _ _ hb, Below.heap_setCell _ _ _ _ hb], by simp [World.setCell], rfl, rfl⟩
  rw [← hw9] at hb8 ⊢
  clear hw9 HC8
  refine Lg.move _ (fun _ _ => step_ret) (fun h => h) ?_
  refine Lg.leave rfl Try.func8 rfl (v := .agg #[.slice (some ⟨ab, 0, none⟩) n n, .slice oA oL oc, .slice tA (2 + I.k + I.n + I.n) tc, .bool stk]) (fun y τ n' hy => ?_) (HR.out _ _ _ ?_)
  · have c0 : y.cell? ⟨b8, 0, none⟩ = some (.slice (some ⟨ab, 0, none⟩) n n) := by have := hb8.cell 0; rw [hy] at this; exact this
    have c1 : y.cell? ⟨b8, 1, none⟩ = some (.slice oA oL oc) := by have := hb8.cell 1; rw [hy] at this; exact this
    have c2 : y.cell? ⟨b8, 2, none⟩ = some (.slice tA (2 + I.k + I.n + I.n) tc) := by have := hb8.cell 2; rw [hy] at this; exact this
    have c3 : y.cell? ⟨b8, 3, none⟩ = some (.bool stk) := by have := hb8.cell 3; rw [hy] at this; exact this
    simp [results, Try.f8, go_sem, c0, c1, c2, c3]
  obtain ⟨hans, hrat, hov, hBa, hoL, hst, hH, hltB⟩ := HX.out
  obtain ⟨f1, f2, f3⟩ := HF.out
  obtain ⟨g1, g2, g3⟩ := HG.out
  have b6 := HB6.out
  have hG := HG10.out
  have hge := HGE.out
  have h8 := HZ2.out
  have hops := HOPS.out
  have ho := HO.out
  have soloZero := ho.size
  have s1 := hops.size
  have s6 := b6.size
  have f2 : p.heap.size = w4.heap.size + 1 := f2
  have g2 : v.heap.size = w6.heap.size := g2
  have l8 := HB.out.lt
  subst hoL
  have far : ∀ b, b < w4.heap.size → b ≠ b8 → w9.heap[b]? = w4.heap[b]? := fun b h1 h2 => by
    rw [k1 b h2, show v.heap[b]? = w6.heap[b]? from g1 b (by omega), b6.block b (by omega)]
    exact f1 b h1
  have nbi : ∀ b, b < w0.heap.size → ¬ soB I b := fun b hb e => by have := hge b e; omega
  have nb8 : ¬ H b8 := hH b8 _ _ (0, 0) (.inr ⟨by decide, fun e => by have := hge _ e; omega⟩) HB.out
  have hlt : ∀ b, H b ∧ ¬ soB I b → b < w4.heap.size := fun b hb => by
    obtain ⟨c, t, r, h1, _⟩ := hans.near b hb
    exact lt_of_some h1
  refine ⟨⟨ab, .slice oA R.order.length oc, .slice tA (2 + I.k + I.n + I.n) tc, _, by omega, by rw [hst], ?_, ?_, hans.same fun b hb => far b (hlt b hb) (fun e => nb8 (e ▸ hb.1)), fun b c t r hc hb hH2 => ?_, fun b hb hb2 => ?_⟩, by omega, fun b c t r hc hb => ?_, ?_⟩
  · refine own_base (own_same hov fun b hb => ?_) (show w0.heap.size ≤ u.heap.size by omega)
    rcases hov.2 with ⟨e, _⟩ | ⟨g', cp2, cur, e, hg2, hh2, _⟩
    · rw [e] at hb; simp [Value.ownBlock] at hb
    · rw [e] at hb
      simp only [Value.ownBlock, Option.some.injEq] at hb
      subst hb
      exact far _ (lt_of_some hh2) (by omega)
  · refine own_base (own_same HT.out fun b hb => ?_) (show w0.heap.size ≤ p.heap.size by omega)
    rcases HT.out.2 with ⟨e, _⟩ | ⟨g', cp2, cur, e, hg2, hh2, _⟩
    · rw [e] at hb; simp [Value.ownBlock] at hb
    · rw [e] at hb
      simp only [Value.ownBlock, Option.some.injEq] at hb
      subst hb
      have := HB10.out.lt
      rw [k1 _ (by omega)]
      exact g1 _ (by omega)
  · have hb0 := lt_of_some hb
    exact hH b c t r (hc.imp id fun z => ⟨z, nbi b hb0⟩) ((ho.block b hb0).trans hb) hH2.1
  · rcases HT.out.2 with ⟨e, _⟩ | ⟨g', cp2, cur, e, hg2, hh2, _⟩
    · rw [e] at hb; simp [Value.ownBlock] at hb
    · rw [e] at hb
      simp only [Value.ownBlock, Option.some.injEq] at hb
      subst hb
      have := hlt _ hb2
      omega
  · have h1 := lt_of_some hb
    have h2 := hops.near b c t r (hc.imp id fun z => ⟨z, nbi b h1⟩) ((ho.block b h1).trans hb)
    rw [far b (lt_of_some h2) (by omega)]
    exact h2
  · exact ⟨k3.1.trans (g3.1.trans (b6.os.trans (f3.1.trans (hops.io.1.trans ho.io.1)))), k3.2.trans (g3.2.trans (b6.output.trans (f3.2.trans (hops.io.2.trans ho.io.2))))⟩
end Go.Proofs.Ytlcplealnbekeaa
/- DERIVED. The ring with one writer (package solo) under any schedule, in plain terms: readers see a run of what was written, the writer overtakes none. -/
namespace Go.Proofs.Ytlcplealnbekeaa
open Go.RowKit Go.Turn Go.Tame Go.Conc
set_option linter.unusedVariables false
set_option linter.unusedSectionVars false
set_option linter.unusedSimpArgs false
/-- What a writer's operations and their answers come to. -/
def wroteP (d : List (OpI × Ans)) : List Int := d.flatMap fun p => if p.2.ok then rowV p.1.a p.1.b.toNat else []
def wokP (d : List (OpI × Ans)) : Prop := ∀ d1 p d2, d = d1 ++ p :: d2 → (p.2.ok = true → p.2.n = ((wroteP d1).length : Int)) ∧ (p.2.ok = false → p.2.n = 3)
def valsP (p : OpI × Ans) : List Int := if p.1.kind = 5 ∧ p.2.ok = true then [p.2.n] else p.2.ls
def readP (d : List (OpI × Ans)) : List Int := d.flatMap valsP
def rokP (d : List (OpI × Ans)) : Prop := ∀ p ∈ d, (p.2.ok = false → p.2.n = 4 ∧ p.2.ls = []) ∧ (p.2.ok = true → valsP p ≠ []) ∧ (p.1.kind = 6 → (valsP p).length ≤ p.1.a.toNat)
theorem wroteP_snoc (d : List (OpI × Ans)) (p : OpI × Ans) : wroteP (d ++ [p]) = wroteP d ++ if p.2.ok then rowV p.1.a p.1.b.toNat else [] := by simp [wroteP]
theorem readP_snoc (d : List (OpI × Ans)) (p : OpI × Ans) : readP (d ++ [p]) = readP d ++ valsP p := by simp [readP]
theorem wokP_snoc {d : List (OpI × Ans)} {p : OpI × Ans} (h : wokP d) (h1 : p.2.ok = true → p.2.n = ((wroteP d).length : Int)) (h2 : p.2.ok = false → p.2.n = 3) : wokP (d ++ [p]) := by
  intro d1 q d2 e
  rcases List.eq_nil_or_concat d2 with rfl | ⟨d3, x, rfl⟩
  · obtain ⟨rfl, e2⟩ := List.append_inj' e rfl
    simp only [List.cons.injEq, and_true] at e2
    subst e2
    exact ⟨h1, h2⟩
  · rw [List.concat_eq_append, ← List.cons_append, ← List.append_assoc] at e
    obtain ⟨rfl, _⟩ := List.append_inj' e rfl
    exact h d1 q d3 rfl
theorem rokP_snoc {d : List (OpI × Ans)} {p : OpI × Ans} (h : rokP d) (hp : (p.2.ok = false → p.2.n = 4 ∧ p.2.ls = []) ∧ (p.2.ok = true → valsP p ≠ []) ∧ (p.1.kind = 6 → (valsP p).length ≤ p.1.a.toNat)) : rokP (d ++ [p]) := by
  intro q hq
  rcases List.mem_append.1 hq with hq | hq
  · exact h q hq
  · simp only [List.mem_singleton] at hq
    subst hq
    exact hp
theorem rowV_len (a : Int) (m : Nat) : (rowV a m).length = m := by simp [rowV]
theorem rowV_get (a : Int) {m j : Nat} (h : j < m) : (rowV a m).getD j 0 = wrap64 (a + j) := by simp [rowV, h]
/-- Operations with their answers. -/
theorem zip_snoc {α β : Type} {l d r : List α} {o : α} {own : List β} (a : β) (e : l = d ++ o :: r) (hl : own.length = d.length) : l.zip (own ++ [a]) = l.zip own ++ [(o, a)] := by
  subst e
  rw [List.zip_append hl.symm, show (d ++ o :: r).zip own = d.zip own from by
    have := List.zip_append (l₁ := d) (r₁ := o :: r) (l₂ := own) (r₂ := ([] : List β)) hl.symm
    simpa using this]
  simp
structure SPar where
  n : Nat
  k : Nat
  ops : Nat → List OpI
  n0 : 0 < n
  n8 : n ≤ 8
  k8 : k ≤ 8
  len : ∀ i, (ops i).length ≤ 12
  w : ∀ o ∈ ops 0, o.kind = 4 ∧ 1 ≤ o.b ∧ o.b ≤ n
  r : ∀ j, j < k → ∀ o ∈ ops (j + 1), o.kind = 5 ∨ o.kind = 6 ∧ 1 ≤ o.a ∧ o.a ≤ 3
section
variable (P : SPar)
def SPar.wr (s : SSt) : List Int := wroteP ((P.ops 0).zip (s.2 0))
structure SInv (all : List Int) (s : SSt) : Prop where
  nx : s.1.next = all.length
  cu : s.1.cursor = ((P.wr s).length : Int) - 1
  pu : s.1.published = s.1.cursor
  pre : P.wr s <+: all
  rd : ∀ j, j < P.k → s.1.num j = s.1.place j ∧ -1 ≤ s.1.place j ∧ s.1.place j ≤ s.1.cursor
  ov : ∀ j, j < P.k → s.1.next ≤ s.1.num j + 1 + P.n
  ca : ∀ j, j < P.k → s.1.cached ≤ s.1.num j
  sl : ∀ q : Nat, q < (P.wr s).length → all.length ≤ q + P.n → s.1.st (q % P.n) = 2 * ((q / P.n : Nat) : Int) ∧ s.1.va (q % P.n) = all.getD q 0
  sz : all.length ≤ 4096
  ln : (s.2 0).length ≤ (P.ops 0).length
/-- The writer: what it does, what it leans on. -/
def wrP : RGp SSt (List Int) where
  gu all s all' s' := all <+: all' ∧ s'.1.num = s.1.num ∧ s'.1.place = s.1.place ∧ (∀ l, l ≠ 0 → s'.2 l = s.2 l) ∧ s.1.cursor ≤ s'.1.cursor
  re all s all' s' := all' = all ∧ s'.1.next = s.1.next ∧ s'.1.cached = s.1.cached ∧ s'.1.published = s.1.published ∧ s'.1.cursor = s.1.cursor ∧ s'.1.st = s.1.st ∧ s'.1.va = s.1.va ∧ (∀ j, s.1.num j ≤ s'.1.num j) ∧ s'.2 0 = s.2 0
  po all s := wokP ((P.ops 0).zip (s.2 0)) ∧ (s.2 0).length = (P.ops 0).length ∧ all = P.wr s
/-- Reader j. -/
def rdP (j : Nat) : RGp SSt (List Int) where
  gu all s all' s' := all' = all ∧ s'.1.next = s.1.next ∧ s'.1.cached = s.1.cached ∧ s'.1.published = s.1.published ∧ s'.1.cursor = s.1.cursor ∧ s'.1.st = s.1.st ∧ s'.1.va = s.1.va ∧ (∀ i, i ≠ j → s'.1.num i = s.1.num i ∧ s'.1.place i = s.1.place i) ∧ s.1.num j ≤ s'.1.num j ∧ (∀ l, l ≠ j + 1 → s'.2 l = s.2 l)
  re all s all' s' := all <+: all' ∧ s'.1.num j = s.1.num j ∧ s'.1.place j = s.1.place j ∧ s'.2 (j + 1) = s.2 (j + 1) ∧ s.1.cursor ≤ s'.1.cursor
  po all s := rokP ((P.ops (j + 1)).zip (s.2 (j + 1))) ∧ (s.2 (j + 1)).length = (P.ops (j + 1)).length ∧ readP ((P.ops (j + 1)).zip (s.2 (j + 1))) = all.take (s.1.place j + 1).toNat
def soP : Nat → RGp SSt (List Int)
  | 0 => wrP P
  | j + 1 => rdP P j
theorem so_rgs : RGs (SInv P) (P.k + 1) (soP P) where
  refl := fun i hi g s => by
    cases i with
    | zero => exact ⟨rfl, rfl, rfl, rfl, rfl, rfl, rfl, fun j => Int.le_refl _, rfl⟩
    | succ j => exact ⟨List.prefix_refl _, rfl, rfl, rfl, Int.le_refl _⟩
  trans := fun i hi g s g1 s1 g2 s2 h1 h2 => by
    cases i with
    | zero =>
      obtain ⟨a1, a2, a3, a4, a5, a6, a7, a8, a9⟩ := h1
      obtain ⟨b1, b2, b3, b4, b5, b6, b7, b8, b9⟩ := h2
      exact ⟨b1.trans a1, b2.trans a2, b3.trans a3, b4.trans a4, b5.trans a5, b6.trans a6, b7.trans a7, fun j => Int.le_trans (a8 j) (b8 j), b9.trans a9⟩
    | succ j =>
      obtain ⟨a1, a2, a3, a4, a5⟩ := h1
      obtain ⟨b1, b2, b3, b4, b5⟩ := h2
      exact ⟨a1.trans b1, b2.trans a2, b3.trans a3, b4.trans a4, Int.le_trans a5 b5⟩
  sub := fun i j hi hj hne g s g' s' hI h hI' => by
    cases i with
    | zero =>
      cases j with
      | zero => exact absurd rfl hne
      | succ j =>
        obtain ⟨a1, a2, a3, a4, a5⟩ := h
        exact ⟨a1, by rw [a2], by rw [a3], a4 _ (by omega), a5⟩
    | succ i =>
      obtain ⟨a1, a2, a3, a4, a5, a6, a7, a8, a9, a10⟩ := h
      cases j with
      | zero =>
        refine ⟨a1, a2, a3, a4, a5, a6, a7, fun j => ?_, a10 0 (by omega)⟩
        by_cases e : j = i
        · subst e; exact a9
        · rw [(a8 j e).1]; exact Int.le_refl _
      | succ j =>
        have hji : j ≠ i := fun e => hne (by rw [e])
        exact ⟨by rw [a1]; exact List.prefix_refl _, (a8 j hji).1, (a8 j hji).2, a10 (j + 1) (by omega), by rw [a5]; exact Int.le_refl _⟩
  stable := fun i hi g s g' s' hI h hr hI' => by
    cases i with
    | zero =>
      obtain ⟨a1, a2, a3, a4, a5, a6, a7, a8, a9⟩ := hr
      obtain ⟨b1, b2, b3⟩ := h
      exact ⟨by rw [a9]; exact b1, by rw [a9]; exact b2, by rw [a1, b3]; simp only [SPar.wr, a9]⟩
    | succ j =>
      obtain ⟨a1, a2, a3, a4, a5⟩ := hr
      obtain ⟨b1, b2, b3⟩ := h
      refine ⟨by rw [a4]; exact b1, by rw [a4]; exact b2, ?_⟩
      rw [a4, b3, a3]
      obtain ⟨t, rfl⟩ := a1
      have h1 := (hI.rd j (by omega)).2
      have h2 := hI.cu
      have h3 := hI.pre.length_le
      rw [List.take_append_of_le_length (by omega)]
end
end Go.Proofs.Ytlcplealnbekeaa
/- DERIVED. A reader of the ring with one writer, under any schedule, in plain terms. -/
namespace Go.Proofs.Ytlcplealnbekeaa
open Go.RowKit Go.Turn Go.Tame Go.Conc
set_option linter.unusedVariables false
set_option linter.unusedSectionVars false
set_option linter.unusedSimpArgs false
section
variable (P : SPar) {j : Nat}
/-- From where the reader was let go on. -/
abbrev RCur (j : Nat) (all : List Int) (s0 s : SSt) : Prop := SInv P all s0 ∧ (rdP P j).gu all s0 all s ∧ SInv P all s
theorem rcur_refl {all : List Int} {s : SSt} (h : SInv P all s) : RCur P j all s s := ⟨h, ⟨rfl, rfl, rfl, rfl, rfl, rfl, rfl, fun i _ => ⟨rfl, rfl⟩, Int.le_refl _, fun _ _ => rfl⟩, h⟩
theorem pre_get {a b : List Int} (h : a <+: b) {q : Nat} (hq : q < a.length) : b.getD q 0 = a.getD q 0 := by
  obtain ⟨t, rfl⟩ := h
  simp [List.getD_eq_getElem?_getD, List.getElem?_append_left hq]
theorem wr_len {all : List Int} {s : SSt} (h : SInv P all s) : ((P.wr s).length : Int) = s.1.cursor + 1 := by have := h.cu; omega
theorem take_more {all : List Int} {p : Nat} {ls : List Int} (h : ls = (all.drop p).take ls.length) {q : Nat} (hq : q = p + ls.length) (hlt : q < all.length) : ls ++ [all.getD q 0] = (all.drop p).take (ls.length + 1) := by
  have e : (all.drop p)[ls.length]? = some (all.getD q 0) := by
    rw [List.getElem?_drop, ← hq, List.getElem?_eq_getElem hlt, List.getD_eq_getElem?_getD, List.getElem?_eq_getElem hlt]
    rfl
  rw [List.take_add_one, e, ← h]
  rfl
/-- A step of the reader's that changes nothing. -/
theorem rd_yield {all : List Int} {s0 s : SSt} {k : SSt → Tree SSt SSt} (h : RCur P j all s0 s) (hk : ∀ all2 s2, (rdP P j).re all s all2 s2 → SInv P all2 s2 → (k s2).Rg (SInv P) (rdP P j) all2 s2) : (Tree.yield s k).Rg (SInv P) (rdP P j) all s0 :=
  ⟨all, h.2.1, h.2.2, hk⟩
/-- A batch, some of its values read. -/
theorem rg_batchL (hj : j < P.k) (own : List Ans) (al : List Int) {p c M : Int} (hp : -1 ≤ p) {kk : List Int → Int → SSt → Tree SSt SSt}
    (hk : ∀ all s ls, SInv P all s → s.2 (j + 1) = own → al <+: all → s.1.place j = p → ls = (all.drop (p + 1).toNat).take ls.length → p + ls.length ≤ s.1.cursor → (ls.length : Int) ≤ M → (c ≤ p ∨ M ≤ 0 ∨ ls ≠ []) → (kk ls 0 s).Rg (SInv P) (rdP P j) all s) :
    ∀ (m : Nat) (all : List Int) (s : SSt) (ls : List Int), SInv P all s → s.2 (j + 1) = own → al <+: all → s.1.place j = p → ls = (all.drop (p + 1).toNat).take ls.length → p + ls.length + m ≤ c → c ≤ s.1.cursor → (ls.length : Int) + m ≤ M → ((ls.length : Int) + m = M ∨ p + ls.length + m = c) → (batchL (I0 P.n P.k) p m ls s kk).Rg (SInv P) (rdP P j) all s
  | 0, all, s, ls, hI, ho, ha, hpl, hls, h1, h2, h3, h4 => by
    show (kk ls 0 s).Rg _ _ all s
    refine hk all s ls hI ho ha hpl hls (by omega) (by omega) ?_
    by_cases e : ls = []
    · subst e; simp at h4; omega
    · exact .inr (.inr e)
  | m + 1, all, s, ls, hI, ho, ha, hpl, hls, h1, h2, h3, h4 => by
    have hsz := hI.sz
    have hpre := hI.pre.length_le
    have hcu := wr_len P hI
    have hq0 : 0 ≤ p + 1 + (ls.length : Int) := by omega
    have hqs : p + 1 + (ls.length : Int) < 4096 := by omega
    obtain ⟨q, hq⟩ : ∃ q : Nat, p + 1 + (ls.length : Int) = q := ⟨(p + 1 + ls.length).toNat, by omega⟩
    have hb : ¬ 65536 ≤ ls.length := by omega
    show (if 65536 ≤ ls.length then _ else _ : Tree SSt SSt).Rg _ _ all s
    rw [if_neg hb, hq]
    have hin : InB (q : Int) := ⟨by omega, by omega⟩
    rw [show ∀ k, getG soloL (I0 P.n P.k).n (q : Int) s k = getT soloL P.n (q : Int) s k from fun k => if_pos hin]
    have em : ((q : Int) % (P.n : Int)).toNat = q % P.n := by rw [← Int.natCast_emod]; rfl
    have ed : (q : Int) / (P.n : Int) = ((q / P.n : Nat) : Int) := by rw [← Int.natCast_ediv]
    unfold getT
    rw [em, ed]
    -- what lies in the slot while the reader has not gone on
    have slot : ∀ all' s', SInv P all' s' → s'.1.place j = p → s.1.cursor ≤ s'.1.cursor → s'.1.st (q % P.n) = 2 * ((q / P.n : Nat) : Int) ∧ s'.1.va (q % P.n) = all'.getD q 0 := fun all' s' hI' hp' hc' => by
      have h5 := wr_len P hI'
      have h6 := hI'.ov j hj
      have h7 := (hI'.rd j hj).1
      have h8 := hI'.nx
      exact hI'.sl q (by omega) (by omega)
    refine rd_yield P (rcur_refl P hI) fun all1 s1 hr1 hI1 => ?_
    obtain ⟨a1, a2, a3, a4, a5⟩ := hr1
    have e1 := slot all1 s1 hI1 (a3.trans hpl) a5
    rw [if_neg (show ¬ ((soloL.get s1.1).1 (q % P.n) < 2 * ((q / P.n : Nat) : Int)) from by show ¬ s1.1.st (q % P.n) < _; rw [e1.1]; omega), if_neg (show ¬ (2 * ((q / P.n : Nat) : Int) < (soloL.get s1.1).1 (q % P.n)) from by show ¬ _ < s1.1.st (q % P.n); rw [e1.1]; omega)]
    refine rd_yield P (rcur_refl P hI1) fun all2 s2 hr2 hI2 => ?_
    obtain ⟨b1, b2, b3, b4, b5⟩ := hr2
    have e2 := slot all2 s2 hI2 (b3.trans (a3.trans hpl)) (Int.le_trans a5 b5)
    refine rd_yield P (rcur_refl P hI2) fun all3 s3 hr3 hI3 => ?_
    obtain ⟨c1, c2, c3, c4, c5⟩ := hr3
    have e3 := slot all3 s3 hI3 (c3.trans (b3.trans (a3.trans hpl))) (Int.le_trans a5 (Int.le_trans b5 c5))
    rw [if_pos (show (soloL.get s3.1).1 (q % P.n) = (soloL.get s1.1).1 (q % P.n) from e3.1.trans e1.1.symm)]
    show (if (0 : Int) = 0 then batchL (I0 P.n P.k) p m (ls ++ [(soloL.get s2.1).2 (q % P.n)]) s3 kk else if ls = [] then kk [] 0 s3 else kk ls 0 s3 : Tree SSt SSt).Rg (SInv P) (rdP P j) all3 s3
    rw [if_pos rfl, show (soloL.get s2.1).2 (q % P.n) = all2.getD q 0 from e2.2]
    have hq2 : q < all2.length := by have := hI2.pre.length_le; have := wr_len P hI2; omega
    have hls3 : ls = (all3.drop (p + 1).toNat).take ls.length := by
      obtain ⟨t, rfl⟩ := (a1.trans (b1.trans c1))
      rw [List.drop_append_of_le_length (by omega), List.take_append_of_le_length (by rw [List.length_drop]; omega)]
      exact hls
    rw [← pre_get c1 hq2]
    have hq3 : q < all3.length := Nat.lt_of_lt_of_le hq2 c1.length_le
    have hnew := take_more (q := q) hls3 (by omega) hq3
    refine rg_batchL hj own al hp hk m all3 s3 (ls ++ [all3.getD q 0]) hI3 (c4.trans (b4.trans (a4.trans ho))) (ha.trans (a1.trans (b1.trans c1))) (c3.trans (b3.trans (a3.trans hpl))) (by rw [List.length_append, List.length_singleton]; exact hnew) ?_ ?_ ?_ ?_
    · simp only [List.length_append, List.length_singleton]; omega
    · omega
    · simp only [List.length_append, List.length_singleton]; omega
    · simp only [List.length_append, List.length_singleton]; omega
/-- A batch. -/
theorem rg_batch (hj : j < P.k) {all : List Int} {s0 s : SSt} (h : RCur P j all s0 s) (most : Int) (hm : most ≤ 65535) {kk : List Int → Int → SSt → Tree SSt SSt}
    (hk : ∀ all' s0' ls e s', RCur P j all' s0' s' → s'.2 (j + 1) = s.2 (j + 1) → (e = 0 ∧ ls ≠ [] ∧ (ls.length : Int) ≤ max most 1 ∧ all'.take (s'.1.place j + 1).toNat = all'.take (s.1.place j + 1).toNat ++ ls ∨ e = 4 ∧ ls = [] ∧ s'.1.place j = s.1.place j) → all <+: all' → (kk ls e s').Rg (SInv P) (rdP P j) all' s0') :
    (batchT (I0 P.n P.k) (j : Int) most s kk).Rg (SInv P) (rdP P j) all s0 := by
  obtain ⟨p, hp⟩ : ∃ p, s.1.place j = p := ⟨_, rfl⟩
  have hrd := h.2.2.rd j hj
  unfold batchT
  rw [if_neg (by omega), if_neg (by show ¬ ((P.k : Int) ≤ j); omega), Int.toNat_natCast]
  refine rd_yield P h fun all1 s1 hr1 hI1 => ?_
  obtain ⟨a1, a2, a3, a4, a5⟩ := hr1
  have hrd1 := hI1.rd j hj
  rw [hp] at hk ⊢
  by_cases hc : s1.1.cursor ≤ p
  · rw [if_pos hc]
    exact hk all1 s1 [] 4 s1 (rcur_refl P hI1) a4 (.inr ⟨rfl, rfl, a3.trans hp⟩) a1
  rw [if_neg hc]
  have hp1 : s1.1.place j = p := a3.trans hp
  refine rg_batchL P hj (s.2 (j + 1)) all1 (c := s1.1.cursor) (M := max most 1) (by omega) (fun all2 s2 ls hI2 ho2 ha2 hp2 hls hcu hM hne => ?_) _ all1 s1 [] hI1 a4 (List.prefix_refl _) hp1 rfl (by simp; omega) (Int.le_refl _) (by simp; omega) (by simp; omega)
  rw [if_pos rfl]
  have hne' : ls ≠ [] := by
    rcases hne with h | h | h
    · omega
    · omega
    · exact h
  refine rd_yield P (rcur_refl P hI2) fun all3 s3 hr3 hI3 => ?_
  obtain ⟨c1, c2, c3, c4, c5⟩ := hr3
  have hrd3 := hI3.rd j hj
  have hnum : s3.1.num j = p := hrd3.1.trans (c3.trans hp2)
  -- the reader has finished them
  have hI4 : SInv P all3 ({ s3.1 with num := upd s3.1.num j (p + ls.length), place := upd s3.1.place j (p + ls.length) }, s3.2) := by
    refine ⟨hI3.nx, hI3.cu, hI3.pu, hI3.pre, fun i hi => ?_, fun i hi => ?_, fun i hi => ?_, hI3.sl, hI3.sz, hI3.ln⟩
    · by_cases e : i = j
      · subst e
        simp only [upd, if_pos]
        exact ⟨trivial, by omega, by omega⟩
      · have := hI3.rd i hi
        simp only [upd, if_neg e]
        exact this
    · by_cases e : i = j
      · subst e
        have := hI3.ov i hi
        simp only [upd, if_pos]
        omega
      · have := hI3.ov i hi
        simp only [upd, if_neg e]
        exact this
    · by_cases e : i = j
      · subst e
        have := hI3.ca i hi
        simp only [upd, if_pos]
        omega
      · have := hI3.ca i hi
        simp only [upd, if_neg e]
        exact this
  refine hk all3 s3 ls 0 _ ⟨hI3, ⟨rfl, rfl, rfl, rfl, rfl, rfl, rfl, fun i hi => ?_, ?_, fun _ _ => rfl⟩, hI4⟩ (c4.trans ho2) (.inl ⟨rfl, hne', hM, ?_⟩) (a1.trans (ha2.trans c1))
  · simp only [upd, if_neg hi]
    exact ⟨trivial, trivial⟩
  · simp only [upd, if_pos]
    omega
  · simp only [upd, if_pos]
    have hlen2 : (p + 1).toNat + ls.length ≤ all2.length := by have := hI2.pre.length_le; have := wr_len P hI2; omega
    obtain ⟨t, rfl⟩ := c1
    have e1 : (p + ls.length + 1).toNat = (p + 1).toNat + ls.length := by omega
    rw [e1, List.take_append_of_le_length hlen2, List.take_append_of_le_length (by omega), List.take_add, ← hls]
end
end Go.Proofs.Ytlcplealnbekeaa
/- DERIVED. A reader's thread of the ring with one writer, under any schedule, in plain terms. -/
namespace Go.Proofs.Ytlcplealnbekeaa
open Go.RowKit Go.Turn Go.Tame Go.Conc
set_option linter.unusedVariables false
set_option linter.unusedSectionVars false
set_option linter.unusedSimpArgs false
section
variable (P : SPar) {j : Nat}
theorem SInv.pushR {P : SPar} {all : List Int} {s : SSt} (h : SInv P all s) {l : Nat} (hl : l ≠ 0) (a : Ans) : SInv P all (pushQ l a s) := by
  have e0 : (pushQ l a s).2 0 = s.2 0 := by
    show (if (0 : Nat) = l then _ else _) = _
    rw [if_neg (fun z => hl z.symm)]
  have e : P.wr (pushQ l a s) = P.wr s := by
    unfold SPar.wr
    rw [e0]
  exact ⟨h.nx, by rw [e]; exact h.cu, h.pu, by rw [e]; exact h.pre, h.rd, h.ov, h.ca, by rw [e]; exact h.sl, h.sz, by rw [e0]; exact h.ln⟩
theorem take_pre {all all' : List Int} (h : all <+: all') {m : Nat} (hm : m ≤ all.length) : all'.take m = all.take m := by
  obtain ⟨t, rfl⟩ := h
  exact List.take_append_of_le_length hm
theorem rg_reader (hj : j < P.k) : ∀ (rest d : List OpI) (own : List Ans) (all : List Int) (s0 s : SSt), P.ops (j + 1) = d ++ rest → own.length = d.length → RCur P j all s0 s → s.2 (j + 1) = own → rokP ((P.ops (j + 1)).zip own) → readP ((P.ops (j + 1)).zip own) = all.take (s.1.place j + 1).toNat →
    (thrQ (doS (I0 P.n P.k) (j + 1)) (j + 1) rest own s).Rg (SInv P) (rdP P j) all s0
  | [], d, own, all, s0, s, hd, hl, h, ho, hr, hv => by
    refine ⟨all, h.2.1, h.2.2, by rw [ho]; exact hr, by rw [ho, hd]; simpa using hl, by rw [ho]; exact hv⟩
  | o :: rest, d, own, all, s0, s, hd, hl, h, ho, hr, hv => by
    have hmem : o ∈ P.ops (j + 1) := by rw [hd]; simp
    have hk := P.r j hj o hmem
    have hlen0 : (s.1.place j + 1).toNat ≤ all.length := by
      have := h.2.2.rd j hj
      have := h.2.2.pre.length_le
      have := wr_len P h.2.2
      omega
    -- what follows an answer
    have next : ∀ (all' : List Int) (s0' s' : SSt) (a : Ans), RCur P j all' s0' s' → s'.2 (j + 1) = s.2 (j + 1) → ((a.ok = false → a.n = 4 ∧ a.ls = []) ∧ (a.ok = true → valsP (o, a) ≠ []) ∧ (o.kind = 6 → (valsP (o, a)).length ≤ o.a.toNat)) → all'.take (s'.1.place j + 1).toNat = all.take (s.1.place j + 1).toNat ++ valsP (o, a) →
        (if s'.2 (j + 1) = own then thrQ (doS (I0 P.n P.k) (j + 1)) (j + 1) rest (own ++ [a]) (pushQ (j + 1) a s') else .cut : Tree SSt SSt).Rg (SInv P) (rdP P j) all' s0' := by
      intro all' s0' s' a hc hown ha hval
      rw [if_pos (hown.trans ho)]
      have hz := zip_snoc a hd hl
      refine rg_reader hj rest (d ++ [o]) (own ++ [a]) all' s0' _ (by rw [hd]; simp) (by simp [hl]) ⟨hc.1, ?_, hc.2.2.pushR (by omega) a⟩ ?_ ?_ ?_
      · obtain ⟨b1, b2, b3, b4, b5, b6, b7, b8, b9, b10⟩ := hc.2.1
        exact ⟨b1, b2, b3, b4, b5, b6, b7, b8, b9, fun l hl => by simp only [pushQ, if_neg hl]; exact b10 l hl⟩
      · simp only [pushQ, if_pos]
        rw [hown.trans ho]
      · rw [hz]
        exact rokP_snoc hr ha
      · rw [hz, readP_snoc, hv]
        exact hval.symm
    show (doS (I0 P.n P.k) (j + 1) o s _).Rg _ _ all s0
    have hj1 : ((j + 1 : Nat) : Int) - 1 = j := by omega
    by_cases h5 : o.kind = 5
    · rw [show ∀ k, doS (I0 P.n P.k) (j + 1) o s k = readT (I0 P.n P.k) (j : Int) s fun q e s => k (ansT q e) s from fun k => by
        unfold doS
        rw [if_neg (by omega), if_neg (by show ¬ P.k < j + 1; omega), if_pos h5, hj1]]
      unfold readT
      refine rg_batch P hj h 1 (by decide) fun all' s0' ls e s' hc hown hcase hpre => ?_
      rcases hcase with ⟨rfl, hne, hlen, hval⟩ | ⟨rfl, rfl, hpl⟩
      · obtain ⟨x, rfl⟩ : ∃ x, ls = [x] := by
          cases ls with
          | nil => exact absurd rfl hne
          | cons x t => cases t with
            | nil => exact ⟨x, rfl⟩
            | cons y t => simp at hlen; omega
        rw [if_pos rfl]
        have hv2 : valsP (o, ansT x 0) = [x] := by simp [valsP, h5, ansT, toldN]
        refine next all' s0' s' (ansT x 0) hc hown ⟨fun z => absurd z (by simp [ansT]), fun _ => by rw [hv2]; simp, fun z => by omega⟩ ?_
        rw [hv2, hval, take_pre hpre hlen0]
      · rw [if_neg (by decide)]
        have hv2 : valsP (o, ansT 0 4) = [] := by simp [valsP, ansT]
        refine next all' s0' s' (ansT 0 4) hc hown ⟨fun _ => ⟨rfl, rfl⟩, fun z => absurd z (by simp [ansT]), fun z => by omega⟩ ?_
        rw [hv2, hpl, take_pre hpre hlen0, List.append_nil]
    · obtain ⟨h6, ha1, ha2⟩ := hk.resolve_left h5
      have hheld : heldN o.a = o.a := by unfold heldN; omega
      rw [show ∀ k, doS (I0 P.n P.k) (j + 1) o s k = batchT (I0 P.n P.k) (j : Int) o.a s fun ls e s => k ⟨e == 0, toldN 0 e, ls⟩ s from fun k => by
        unfold doS
        rw [if_neg (by omega), if_neg (by show ¬ P.k < j + 1; omega), if_neg h5, if_pos h6, hheld, hj1]]
      refine rg_batch P hj h o.a (by omega) fun all' s0' ls e s' hc hown hcase hpre => ?_
      rcases hcase with ⟨rfl, hne, hlen, hval⟩ | ⟨rfl, rfl, hpl⟩
      · have hv2 : valsP (o, ⟨(0 : Int) == 0, toldN 0 0, ls⟩) = ls := by simp [valsP, h6]
        refine next all' s0' s' ⟨(0 : Int) == 0, toldN 0 0, ls⟩ hc hown ⟨fun z => absurd z (by simp), fun _ => by rw [hv2]; exact hne, fun _ => by rw [hv2]; omega⟩ ?_
        rw [hv2, hval, take_pre hpre hlen0]
      · have hv2 : valsP (o, ⟨(4 : Int) == 0, toldN 0 4, []⟩) = [] := by simp [valsP, h6]
        refine next all' s0' s' ⟨(4 : Int) == 0, toldN 0 4, []⟩ hc hown ⟨fun _ => ⟨rfl, rfl⟩, fun z => absurd z (by simp), fun _ => by rw [hv2]; simp⟩ ?_
        rw [hv2, hpl, take_pre hpre hlen0, List.append_nil]
theorem rg_readerB (hj : j < P.k) (g : List Int) (s : SSt) (hr : (rdP P j).re [] (soloZero, fun _ => []) g s) (hI : SInv P g s) : (brQ (doS (I0 P.n P.k)) P.ops (j + 1) s).Rg (SInv P) (rdP P j) g s := by
  obtain ⟨a1, a2, a3, a4, a5⟩ := hr
  unfold brQ
  rw [if_pos a4]
  refine rg_reader P hj (P.ops (j + 1)) [] [] g s s rfl rfl (rcur_refl P hI) a4 ?_ ?_
  · rw [List.zip_nil_right]; intro p hp; simp at hp
  · rw [List.zip_nil_right, a3]
    simp [readP, soloZero]
end
end Go.Proofs.Ytlcplealnbekeaa
/- DERIVED. The writer's thread of the ring with one writer, under any schedule, in plain terms. -/
namespace Go.Proofs.Ytlcplealnbekeaa
open Go.RowKit Go.Turn Go.Tame Go.Conc
set_option linter.unusedVariables false
set_option linter.unusedSectionVars false
set_option linter.unusedSimpArgs false
theorem wsm {x : Int} (h0 : -9223372036854775808 ≤ x) (h1 : x ≤ 9223372036854775807) : wrap64 x = x := by simp only [wrap64]; omega
theorem mod_neR {n a b : Nat} (h1 : a < b) (h2 : b < a + n) : a % n ≠ b % n := by
  intro e
  have h := Nat.sub_mod_eq_zero_of_mod_eq e.symm
  have : b - a < n := by omega
  rw [Nat.mod_eq_of_lt this] at h
  omega
theorem wrote_len (n : Nat) : ∀ d : List (OpI × Ans), (∀ p ∈ d, p.1.b.toNat ≤ n) → (wroteP d).length ≤ d.length * n
  | [], _ => by simp [wroteP]
  | p :: d, h => by
    have h1 := wrote_len n d fun q hq => h q (by simp [hq])
    have h2 := h p (by simp)
    have e : wroteP (p :: d) = (if p.2.ok then rowV p.1.a p.1.b.toNat else []) ++ wroteP d := by simp [wroteP]
    rw [e, List.length_append, List.length_cons, Nat.add_mul]
    split
    · rw [rowV_len]; omega
    · simp; omega
section
variable (P : SPar)
abbrev WCur (g0 : List Int) (s0 : SSt) (all : List Int) (s : SSt) : Prop := SInv P g0 s0 ∧ (wrP P).gu g0 s0 all s ∧ SInv P all s
theorem wcur_refl {all : List Int} {s : SSt} (h : SInv P all s) : WCur P all s all s := ⟨h, ⟨List.prefix_refl _, rfl, rfl, fun _ _ => rfl, Int.le_refl _⟩, h⟩
theorem w_yield {g0 all : List Int} {s0 s : SSt} {k : SSt → Tree SSt SSt} (h : WCur P g0 s0 all s) (hk : ∀ s2, (wrP P).re all s all s2 → SInv P all s2 → (k s2).Rg (SInv P) (wrP P) all s2) : (Tree.yield s k).Rg (SInv P) (wrP P) g0 s0 :=
  ⟨all, h.2.1, h.2.2, fun g2 s2 hr hI => by obtain rfl : g2 = all := hr.1; exact hk s2 hr hI⟩
/-- What others leave of the writer's. -/
structure WSame (s s' : SSt) : Prop where
  nx : s'.1.next = s.1.next
  pu : s'.1.published = s.1.published
  cu : s'.1.cursor = s.1.cursor
  st : s'.1.st = s.1.st
  va : s'.1.va = s.1.va
  an : s'.2 0 = s.2 0
theorem WSame.of {all : List Int} {s s' : SSt} (h : (wrP P).re all s all s') : WSame s s' := ⟨h.2.1, h.2.2.2.1, h.2.2.2.2.1, h.2.2.2.2.2.1, h.2.2.2.2.2.2.1, h.2.2.2.2.2.2.2.2⟩
theorem WSame.trans {a b c : SSt} (h : WSame a b) (k : WSame b c) : WSame a c := ⟨k.nx.trans h.nx, k.pu.trans h.pu, k.cu.trans h.cu, k.st.trans h.st, k.va.trans h.va, k.an.trans h.an⟩
theorem WSame.refl (a : SSt) : WSame a a := ⟨rfl, rfl, rfl, rfl, rfl, rfl⟩
theorem rg_least {all : List Int} {kk : Int → SSt → Tree SSt SSt} (sB : SSt)
    (hk : ∀ g0' s0' s' mm, WCur P g0' s0' all s' → WSame sB s' → s'.1.cached = sB.1.cached → (∀ i, i < P.k → mm ≤ s'.1.num i) → (kk mm s').Rg (SInv P) (wrP P) g0' s0') :
    ∀ (m jj : Nat) (acc : Int) (g0 : List Int) (s0 s : SSt), m + jj = P.k → WCur P g0 s0 all s → WSame sB s → s.1.cached = sB.1.cached → (∀ i, i < jj → acc ≤ s.1.num i) → (leastT m jj acc s kk).Rg (SInv P) (wrP P) g0 s0
  | 0, jj, acc, g0, s0, s, hm, h, hw, hca, ha => hk g0 s0 s acc h hw hca fun i hi => ha i (by omega)
  | m + 1, jj, acc, g0, s0, s, hm, h, hw, hca, ha => by
    refine w_yield P h fun s2 hr hI => ?_
    refine rg_least sB hk m (jj + 1) _ all s2 s2 (by omega) (wcur_refl P hI) (hw.trans (WSame.of P hr)) (hr.2.2.1.trans hca) fun i hi => ?_
    have hmon := hr.2.2.2.2.2.2.2.1
    by_cases e : i = jj
    · subst e; split <;> omega
    · have := ha i (by omega)
      have := hmon i
      split <;> omega
/-- Claim, and what comes then. -/
theorem rg_claim {g0 all : List Int} {s0 s : SSt} (h : WCur P g0 s0 all s) (vs : List Int) (h1 : 1 ≤ vs.length) (h2 : vs.length ≤ P.n) (h3 : all.length + vs.length ≤ 4096) {kk : Int → Int → SSt → Tree SSt SSt}
    (hfull : ∀ g0' s0' s', WCur P g0' s0' all s' → WSame s s' → (kk 0 3 s').Rg (SInv P) (wrP P) g0' s0')
    (hok : ∀ g0' s0' s', WCur P g0' s0' (all ++ vs) s' → s'.1.published = s.1.published → s'.1.cursor = s.1.cursor → s'.1.st = s.1.st → s'.1.va = s.1.va → s'.2 0 = s.2 0 → (kk all.length 0 s').Rg (SInv P) (wrP P) g0' s0') :
    (claimT (I0 P.n P.k) vs.length s kk).Rg (SInv P) (wrP P) g0 s0 := by
  have hnx := h.2.2.nx
  have hn8 := P.n8
  have hW : claimW (I0 P.n P.k) vs.length s = s.1.next + vs.length - 1 - P.n := by
    show wrap64 (wrap64 (wrap64 (s.1.next + vs.length) - 1) - (P.n : Int)) = _
    rw [wsm (x := s.1.next + vs.length) (by omega) (by omega), wsm (x := s.1.next + vs.length - 1) (by omega) (by omega), wsm (by omega) (by omega)]
  -- where the least is known
  have fin : ∀ g0' s0' s', WCur P g0' s0' all s' → WSame s s' → (claimE vs.length (s.1.next + vs.length - 1 - P.n) s' kk).Rg (SInv P) (wrP P) g0' s0' := by
    intro g0' s0' s' h' hw
    unfold claimE
    by_cases hc : s'.1.cached < s.1.next + vs.length - 1 - P.n
    · rw [if_pos hc]
      exact hfull g0' s0' s' h' hw
    · rw [if_neg hc, h'.2.2.nx]
      have hwr : wrap64 ((all.length : Int) + vs.length) = ((all ++ vs).length : Int) := by
        rw [wsm (by omega) (by omega), List.length_append]; omega
      rw [hwr]
      have hI := h'.2.2
      refine hok g0' s0' _ ⟨h'.1, ⟨h'.2.1.1.trans (List.prefix_append _ _), h'.2.1.2.1, h'.2.1.2.2.1, h'.2.1.2.2.2.1, h'.2.1.2.2.2.2⟩, ?_⟩ hw.pu hw.cu hw.st hw.va hw.an
      refine ⟨rfl, hI.cu, hI.pu, hI.pre.trans (List.prefix_append _ _), hI.rd, fun j hj => ?_, hI.ca, fun q hq hlt => ?_, by rw [List.length_append]; exact h3, hI.ln⟩
      · have := hI.ca j hj
        show ((all ++ vs).length : Int) ≤ s'.1.num j + 1 + P.n
        rw [List.length_append]
        omega
      · rw [List.length_append] at hlt
        have hq2 : q < all.length := Nat.lt_of_lt_of_le hq hI.pre.length_le
        rw [pre_get (List.prefix_append all vs) hq2]
        exact hI.sl q hq (by omega)
  unfold claimT
  rw [if_neg (by omega), if_neg (by show ¬ ((P.n : Int) < vs.length); omega), if_neg (by rw [wsm (by omega) (by omega)]; omega), hW]
  by_cases hc : s.1.cached < s.1.next + vs.length - 1 - P.n
  · rw [if_pos hc]
    refine rg_least P s (fun g0' s0' s' mm h' hw hca hmm => ?_) P.k 0 _ g0 s0 s (by omega) h (WSame.refl s) rfl (fun i hi => by omega)
    have hI := h'.2.2
    exact fin g0' s0' ({ s'.1 with cached := mm }, s'.2) ⟨h'.1, ⟨h'.2.1.1, h'.2.1.2.1, h'.2.1.2.2.1, h'.2.1.2.2.2.1, h'.2.1.2.2.2.2⟩, ⟨hI.nx, hI.cu, hI.pu, hI.pre, hI.rd, hI.ov, hmm, hI.sl, hI.sz, hI.ln⟩⟩ ⟨hw.nx, hw.pu, hw.cu, hw.st, hw.va, hw.an⟩
  · rw [if_neg hc]
    exact fin g0 s0 s h (WSame.refl s)
end
end Go.Proofs.Ytlcplealnbekeaa
/- DERIVED. The writer's thread of the ring with one writer, under any schedule, in plain terms: values laid, published. -/
namespace Go.Proofs.Ytlcplealnbekeaa
open Go.RowKit Go.Turn Go.Tame Go.Conc
set_option linter.unusedVariables false
set_option linter.unusedSectionVars false
set_option linter.unusedSimpArgs false
section
variable (P : SPar)
theorem pA (A a c : Nat) (h : A = a + c) (hc : 1 ≤ c) : 0 ≤ (A : Int) - 1 := by omega
theorem pB (A a c w : Nat) (x : Int) (h : A = a + c) (hc : 1 ≤ c) (hw : w = a) (hx : (w : Int) = x + 1) : x < (A : Int) - 1 := by omega
theorem claimed_of {S : SoloSt} {q : Int} (h0 : 0 ≤ q) (h1 : q < S.next) (h2 : S.published < q) : claimedB S q = true := by simp only [claimedB, Bool.and_eq_true, decide_eq_true_eq]; exact ⟨⟨h0, h1⟩, h2⟩
/-- Of what was claimed behind the first L, i lie in their slots. -/
def Laid (L i : Nat) (all : List Int) (s : SSt) : Prop := ∀ q, L ≤ q → q < L + i → s.1.st (q % P.n) = 2 * ((q / P.n : Nat) : Int) ∧ s.1.va (q % P.n) = all.getD q 0
theorem Laid.same {P : SPar} {L i : Nat} {all : List Int} {s s' : SSt} (h : Laid P L i all s) (hw : WSame s s') : Laid P L i all s' := fun q h1 h2 => by rw [hw.st, hw.va]; exact h q h1 h2
/-- The writer turns a slot that it has claimed. -/
theorem w_slot {all : List Int} {s : SSt} (h : SInv P all s) {q : Nat} (h1 : (P.wr s).length ≤ q) (h2 : q < all.length) (x y : Int) (hxy : (x = s.1.st (q % P.n)) ∨ True) :
    SInv P all ({ s.1 with st := upd s.1.st (q % P.n) x }, s.2) ∧ SInv P all ({ s.1 with va := upd s.1.va (q % P.n) y }, s.2) := by
  have hne : ∀ q', q' < (P.wr s).length → all.length ≤ q' + P.n → q' % P.n ≠ q % P.n := fun q' h3 h4 => mod_neR (by omega) (by omega)
  refine ⟨⟨h.nx, h.cu, h.pu, h.pre, h.rd, h.ov, h.ca, fun q' h3 h4 => ?_, h.sz, h.ln⟩, ⟨h.nx, h.cu, h.pu, h.pre, h.rd, h.ov, h.ca, fun q' h3 h4 => ?_, h.sz, h.ln⟩⟩
  · have := h.sl q' h3 h4
    simp only [upd, if_neg (hne q' h3 h4)]
    exact this
  · have := h.sl q' h3 h4
    simp only [upd, if_neg (hne q' h3 h4)]
    exact this
theorem w_here {all : List Int} {s s' : SSt} (h : SInv P all s) (h' : SInv P all s') (e1 : s'.1.num = s.1.num) (e2 : s'.1.place = s.1.place) (e3 : s'.2 = s.2) (e4 : s'.1.cursor = s.1.cursor) : WCur P all s all s' :=
  ⟨h, ⟨List.prefix_refl _, e1, e2, fun _ _ => by rw [e3], by rw [e4]; exact Int.le_refl _⟩, h'⟩
/-- One value laid. -/
theorem rg_put {g0 all : List Int} {s0 s : SSt} (h : WCur P g0 s0 all s) {L i c : Nat} (hL : (P.wr s).length = L) (hall : all.length = L + c) (hc : c ≤ P.n) (hi : i < c) (hlaid : Laid P L i all s) {kk : Int → SSt → Tree SSt SSt}
    (hk : ∀ g0' s0' s', WCur P g0' s0' all s' → (P.wr s').length = L → s'.2 0 = s.2 0 → Laid P L (i + 1) all s' → (kk 0 s').Rg (SInv P) (wrP P) g0' s0') :
    (sputT (I0 P.n P.k) ((L + i : Nat) : Int) (all.getD (L + i) 0) s kk).Rg (SInv P) (wrP P) g0 s0 := by
  have hI := h.2.2
  have hsz := hI.sz
  have hnx := hI.nx
  have hcu := wr_len P hI
  have hpu := hI.pu
  have hcl : claimedB s.1 ((L + i : Nat) : Int) = true := by
    simp only [claimedB, Bool.and_eq_true, decide_eq_true_eq]
    omega
  obtain ⟨q, hq⟩ : ∃ q, L + i = q := ⟨_, rfl⟩
  rw [hq] at hcl ⊢
  unfold sputT
  rw [if_pos hcl, show ∀ k, putG soloL (I0 P.n P.k).n (q : Int) (all.getD q 0) s k = putT soloL P.n (q : Int) (all.getD q 0) s (k 0) from fun k => if_pos ⟨by omega, by omega⟩]
  have em : ((q : Int) % (P.n : Int)).toNat = q % P.n := by rw [← Int.natCast_emod]; rfl
  have ed : (q : Int) / (P.n : Int) = ((q / P.n : Nat) : Int) := by rw [← Int.natCast_ediv]
  unfold putT
  rw [em, ed]
  have wrlen : ∀ s', s'.2 0 = s.2 0 → P.wr s' = P.wr s := fun s' e => by unfold SPar.wr; rw [e]
  refine w_yield P h fun s1 hr1 hI1 => ?_
  have w1 := WSame.of P hr1
  have l1 : (P.wr s1).length ≤ q := by rw [wrlen s1 w1.an]; omega
  have hJ1 := (w_slot P hI1 l1 (by omega) (2 * ((q / P.n : Nat) : Int) - 1) 0 (.inr trivial)).1
  refine w_yield P (w_here P hI1 hJ1 rfl rfl rfl rfl) fun s2 hr2 hI2 => ?_
  have w2 := WSame.of P hr2
  have l2 : (P.wr s2).length ≤ q := by rw [wrlen s2 (w2.an.trans w1.an)]; omega
  have hJ2 := (w_slot P hI2 l2 (by omega) 0 (all.getD q 0) (.inr trivial)).2
  refine w_yield P (w_here P hI2 hJ2 rfl rfl rfl rfl) fun s3 hr3 hI3 => ?_
  have w3 := WSame.of P hr3
  have l3 : (P.wr s3).length ≤ q := by rw [wrlen s3 (w3.an.trans (w2.an.trans w1.an))]; omega
  have hJ3 := (w_slot P hI3 l3 (by omega) (2 * ((q / P.n : Nat) : Int)) 0 (.inr trivial)).1
  refine hk all s3 _ (w_here P hI3 hJ3 rfl rfl rfl rfl) ?_ (w3.an.trans (w2.an.trans w1.an)) ?_
  · exact (congrArg List.length (wrlen (soloL.st s3 (q % P.n) (2 * ((q / P.n : Nat) : Int))) (w3.an.trans (w2.an.trans w1.an)))).trans hL
  · intro q' h3 h4
    have est : s3.1.st = upd s1.1.st (q % P.n) (2 * ((q / P.n : Nat) : Int) - 1) := w3.st.trans w2.st
    have eva : s3.1.va = upd s2.1.va (q % P.n) (all.getD q 0) := w3.va
    by_cases e : q' = q
    · subst e
      refine ⟨?_, ?_⟩
      · show upd s3.1.st (q' % P.n) _ (q' % P.n) = _
        simp [upd]
      · show s3.1.va (q' % P.n) = _
        rw [eva]
        simp [upd]
    · have hlt : q' < q := by omega
      have hne : q' % P.n ≠ q % P.n := mod_neR hlt (by omega)
      obtain ⟨e1, e2⟩ := hlaid q' h3 (by omega)
      refine ⟨?_, ?_⟩
      · show upd s3.1.st (q % P.n) _ (q' % P.n) = _
        simp only [upd, if_neg hne]
        rw [est]
        simp only [upd, if_neg hne]
        rw [w1.st]
        exact e1
      · show s3.1.va (q' % P.n) = _
        rw [eva]
        simp only [upd, if_neg hne]
        have : s2.1.va = s1.1.va := w2.va
        rw [this, w1.va]
        exact e2
/-- All values of a Write laid. -/
theorem rg_puts {all : List Int} {L c : Nat} (hall : all.length = L + c) (hc : c ≤ P.n) (h4 : all.length ≤ 4096) (own : List Ans) {kk : SSt → Tree SSt SSt}
    (hk : ∀ g0' s0' s', WCur P g0' s0' all s' → (P.wr s').length = L → s'.2 0 = own → Laid P L c all s' → (kk s').Rg (SInv P) (wrP P) g0' s0') :
    ∀ (vs : List Int) (i : Nat) (g0 : List Int) (s0 s : SSt), vs = all.drop (L + i) → i + vs.length = c → WCur P g0 s0 all s → (P.wr s).length = L → s.2 0 = own → Laid P L i all s → (putsT (I0 P.n P.k) (L : Int) vs i s kk).Rg (SInv P) (wrP P) g0 s0
  | [], i, g0, s0, s, hv, hi, h, hL, ho, hla => by
    simp only [List.length_nil, Nat.add_zero] at hi
    subst hi
    exact hk g0 s0 s h hL ho hla
  | v :: vs, i, g0, s0, s, hv, hi, h, hL, ho, hla => by
    simp only [List.length_cons] at hi
    have hlt : L + i < all.length := by omega
    have hd := List.drop_eq_getElem_cons hlt
    rw [hd, List.cons.injEq] at hv
    have hv1 : v = all.getD (L + i) 0 := by rw [hv.1, List.getD_eq_getElem?_getD, List.getElem?_eq_getElem hlt]; rfl
    have e : wrap64 ((L : Int) + i) = ((L + i : Nat) : Int) := by rw [wsm (by omega) (by omega)]; omega
    show (sputT _ (wrap64 ((L : Int) + i)) v s _).Rg _ _ g0 s0
    rw [e, hv1]
    exact rg_put P h hL hall hc (by omega) hla fun g0' s0' s' h' hL' ho' hla' => rg_puts hall hc h4 own hk vs (i + 1) g0' s0' s' hv.2 (by omega) h' hL' (ho'.trans ho) hla'
set_option maxHeartbeats 1000000 in
theorem rg_writer : ∀ (rest d : List OpI) (own : List Ans) (g0 all : List Int) (s0 s : SSt), P.ops 0 = d ++ rest → own.length = d.length → WCur P g0 s0 all s → s.2 0 = own → wokP ((P.ops 0).zip own) → all = P.wr s →
    (thrQ (doS (I0 P.n P.k) 0) 0 rest own s).Rg (SInv P) (wrP P) g0 s0
  | [], d, own, g0, all, s0, s, hd, hl, h, ho, hw, ha => ⟨all, h.2.1, h.2.2, by rw [ho]; exact hw, by rw [ho, hd]; simpa using hl, ha⟩
  | o :: rest, d, own, g0, all, s0, s, hd, hl, h, ho, hw, ha => by
    have hmem : o ∈ P.ops 0 := by rw [hd]; simp
    obtain ⟨hk4, hb1, hb2⟩ := P.w o hmem
    have hn8 := P.n8
    have hz := fun a => zip_snoc (a : Ans) hd hl
    have hwr0 : P.wr s = wroteP ((P.ops 0).zip own) := by unfold SPar.wr; rw [ho]
    -- how much has been written
    have hlen : all.length ≤ 96 := by
      rw [ha, hwr0]
      refine Nat.le_trans (wrote_len P.n _ fun p hp => ?_) ?_
      · have := (P.w _ (List.of_mem_zip hp).1).2; omega
      · have h1 : ((P.ops 0).zip own).length ≤ 12 := by rw [List.length_zip]; exact Nat.le_trans (Nat.min_le_left _ _) (P.len 0)
        calc _ ≤ 12 * P.n := Nat.mul_le_mul_right _ h1
          _ ≤ 96 := by omega
    obtain ⟨c, hc⟩ : ∃ c : Nat, o.b = c := ⟨o.b.toNat, by omega⟩
    have hcnt : wcount (I0 P.n P.k) o.b = c := by show (min (max o.b 0) ((P.n : Int) + 1)).toNat = c; omega
    have hbn : o.b.toNat = c := by omega
    obtain ⟨vs, hvs⟩ : ∃ vs, rowV o.a c = vs := ⟨_, rfl⟩
    have hvl : vs.length = c := by rw [← hvs]; exact rowV_len _ _
    have hdo : ∀ k, doS (I0 P.n P.k) 0 o s k = swriteT (I0 P.n P.k) vs s fun q e s => k (ansT q e) s := fun k => by
      show wopT (I0 P.n P.k) o s k = _
      unfold wopT
      rw [if_neg (by omega), if_neg (by omega), if_neg (by omega), if_pos hk4, hcnt, hvs]
    show (doS (I0 P.n P.k) 0 o s _).Rg _ _ g0 s0
    rw [hdo]
    unfold swriteT
    refine rg_claim P h vs (by omega) (by omega) (by omega) (fun g0' s0' s' h' hs' => ?_) fun g0' s0' s' h' e1 e2 e3 e4 e5 => ?_
    · -- full
      rw [if_neg (by decide)]
      have hown : s'.2 0 = own := hs'.an.trans ho
      have hwr : P.wr (pushQ 0 (ansT 0 3) s') = P.wr s' := by
        unfold SPar.wr
        have : (pushQ 0 (ansT 0 3) s').2 0 = own ++ [ansT 0 3] := by simp [pushQ, hown]
        rw [this, hown, hz, wroteP_snoc]
        simp [ansT]
      have hI := h'.2.2
      have hI2 : SInv P all (pushQ 0 (ansT 0 3) s') := ⟨hI.nx, by rw [hwr]; exact hI.cu, hI.pu, by rw [hwr]; exact hI.pre, hI.rd, hI.ov, hI.ca, by rw [hwr]; exact hI.sl, hI.sz, by simp [pushQ, hown, hl, hd]⟩
      show (if s'.2 0 = own then thrQ (doS (I0 P.n P.k) 0) 0 rest (own ++ [ansT 0 3]) (pushQ 0 (ansT 0 3) s') else .cut : Tree SSt SSt).Rg (SInv P) (wrP P) g0' s0'
      rw [if_pos hown]
      refine rg_writer rest (d ++ [o]) (own ++ [ansT 0 3]) g0' all s0' _ (by rw [hd]; simp) (by simp [hl]) ⟨h'.1, ⟨h'.2.1.1, h'.2.1.2.1, h'.2.1.2.2.1, fun l hl => by simp only [pushQ, if_neg hl]; exact h'.2.1.2.2.2.1 l hl, h'.2.1.2.2.2.2⟩, hI2⟩ (by simp [pushQ, hown]) ?_ ?_
      · rw [hz]
        exact wokP_snoc hw (fun z => absurd z (by simp [ansT])) fun _ => rfl
      · rw [hwr, ha]
        unfold SPar.wr
        rw [hs'.an]
    · -- claimed
      rw [if_pos rfl]
      obtain ⟨A2, hA⟩ : ∃ A2, A2 = all ++ vs := ⟨_, rfl⟩
      rw [← hA] at h'
      have hown : s'.2 0 = own := e5.trans ho
      have hL : (P.wr s').length = all.length := by
        have : P.wr s' = P.wr s := by unfold SPar.wr; rw [e5]
        rw [this, ← ha]
      have hall : A2.length = all.length + c := by rw [hA, List.length_append, hvl]
      refine rg_puts P (all := A2) (L := all.length) (c := c) hall (by omega) (by omega) own (fun g1 s1 t h1 hL1 ho1 hla1 => ?_) vs 0 g0' s0' s' (by rw [hA]; simp) (by omega) h' hL hown (fun q h3 h4 => by omega)
      -- published
      have hI1 := h1.2.2
      have hnx1 := hI1.nx
      have hcu1 := wr_len P hI1
      have hpu1 := hI1.pu
      have e6 : wrap64 (wrap64 ((all.length : Int) + vs.length) - 1) = (A2.length : Int) - 1 := by
        rw [wsm (x := (all.length : Int) + vs.length) (by omega) (by omega), wsm (by omega) (by omega), hall]; omega
      rw [e6]
      clear e6
      unfold spubT
      have hcl : claimedB t.1 ((A2.length : Int) - 1) = true := claimed_of (pA A2.length all.length c hall (by omega)) (by rw [hnx1]; omega) (by rw [hpu1]; exact pB A2.length all.length c (P.wr t).length t.1.cursor hall (by omega) hL1 hcu1)
      rw [if_pos hcl]
      refine w_yield P h1 fun s2 hr2 hI2 => ?_
      have w2 := WSame.of P hr2
      have hown2 : s2.2 0 = own := w2.an.trans ho1
      show (if s2.2 0 = own then thrQ (doS (I0 P.n P.k) 0) 0 rest (own ++ [ansT all.length 0]) (pushQ 0 (ansT all.length 0) ({ s2.1 with cursor := (A2.length : Int) - 1, published := (A2.length : Int) - 1 }, s2.2)) else .cut : Tree SSt SSt).Rg (SInv P) (wrP P) A2 s2
      rw [if_pos hown2]
      have hwr : P.wr (pushQ 0 (ansT all.length 0) ({ s2.1 with cursor := (A2.length : Int) - 1, published := (A2.length : Int) - 1 }, s2.2)) = A2 := by
        unfold SPar.wr
        have : (pushQ 0 (ansT all.length 0) (({ s2.1 with cursor := (A2.length : Int) - 1, published := (A2.length : Int) - 1 }, s2.2) : SSt)).2 0 = own ++ [ansT all.length 0] := by simp [pushQ, hown2]
        rw [this, hz, wroteP_snoc, ← hwr0, ← ha, hA]
        simp [ansT, hbn, hvs]
      have hcu2 := wr_len P hI2
      have hL2 : (P.wr s2).length = all.length := by
        have : P.wr s2 = P.wr t := by unfold SPar.wr; rw [w2.an]
        rw [this, hL1]
      have hla2 := hla1.same w2
      have hI3 : SInv P A2 (pushQ 0 (ansT all.length 0) ({ s2.1 with cursor := (A2.length : Int) - 1, published := (A2.length : Int) - 1 }, s2.2)) := by
        refine ⟨hI2.nx, by rw [hwr]; exact (rfl : ((A2.length : Int) - 1) = (A2.length : Int) - 1), (rfl : ((A2.length : Int) - 1) = (A2.length : Int) - 1), by rw [hwr]; exact List.prefix_refl _, fun j hj => ?_, hI2.ov, hI2.ca, fun q hq hlt => ?_, hI2.sz, by simp [pushQ, hown2, hl, hd]⟩
        · obtain ⟨r1, r2, r3⟩ := hI2.rd j hj
          exact ⟨r1, r2, by show s2.1.place j ≤ (A2.length : Int) - 1; omega⟩
        · rw [hwr] at hq
          by_cases hq2 : q < all.length
          · exact hI2.sl q (by omega) hlt
          · exact hla2 q (by omega) (by omega)
      refine rg_writer rest (d ++ [o]) (own ++ [ansT all.length 0]) A2 A2 s2 _ (by rw [hd]; simp) (by simp [hl]) ⟨hI2, ⟨List.prefix_refl _, rfl, rfl, fun l hl => by simp only [pushQ, if_neg hl], by show s2.1.cursor ≤ (A2.length : Int) - 1; omega⟩, hI3⟩ (by simp [pushQ, hown2]) ?_ hwr.symm
      rw [hz]
      refine wokP_snoc hw (fun _ => ?_) fun z => absurd z (by simp [ansT])
      rw [← hwr0, ← ha]
      simp [ansT, toldN]
end
end Go.Proofs.Ytlcplealnbekeaa
/- DERIVED. The ring with one writer under any schedule, in plain terms: what holds at the end of a run, and wherever it is stopped. -/
namespace Go.Proofs.Ytlcplealnbekeaa
open Go.RowKit Go.Turn Go.Tame Go.Conc
set_option linter.unusedVariables false
set_option linter.unusedSectionVars false
set_option linter.unusedSimpArgs false
section
variable (P : SPar)
theorem so_zero : SInv P [] (soloZero, fun _ => []) where
  nx := rfl
  cu := by simp [SPar.wr, wroteP, soloZero]
  pu := rfl
  pre := by simp [SPar.wr, wroteP]
  rd := fun j _ => ⟨rfl, Int.le_refl _, Int.le_refl _⟩
  ov := fun j _ => by show (0 : Int) ≤ -1 + 1 + P.n; omega
  ca := fun j _ => Int.le_refl _
  sl := fun q hq => by simp [SPar.wr, wroteP] at hq
  sz := by simp
  ln := Nat.zero_le _
theorem so_births (i : Nat) (hi : i < P.k + 1) (g : List Int) (s : SSt) (hr : (soP P i).re [] (soloZero, fun _ => []) g s) (hI : SInv P g s) : (brQ (doS (I0 P.n P.k)) P.ops i s).Rg (SInv P) (soP P i) g s := by
  cases i with
  | zero =>
    obtain ⟨rfl, a2, a3, a4, a5, a6, a7, a8, a9⟩ := hr
    have e : s.2 0 = [] := a9
    unfold brQ
    rw [if_pos e]
    refine rg_writer P (P.ops 0) [] [] [] [] s s rfl rfl (wcur_refl P hI) e ?_ ?_
    · rw [List.zip_nil_right]; intro d1 p d2 hd; simp at hd
    · unfold SPar.wr; rw [e, List.zip_nil_right]; rfl
  | succ j => exact rg_readerB P (by omega) g s hr hI
/-! ### how many steps -/
theorem le_least (x : Nat) {kk : Int → SSt → Tree SSt SSt} (hk : ∀ m s, (kk m s).Le x) : ∀ (m jj : Nat) (acc : Int) (s : SSt), (leastT m jj acc s kk).Le (m + x)
  | 0, jj, acc, s => by rw [Nat.zero_add]; exact hk acc s
  | m + 1, jj, acc, s => by
    rw [show m + 1 + x = (m + x) + 1 by omega]
    exact fun s' => le_least x hk m _ _ _
theorem le_claim (I : Ids) (x : Nat) {kk : Int → Int → SSt → Tree SSt SSt} (hk : ∀ q e s, (kk q e s).Le x) (n : Int) (s : SSt) : (claimT I n s kk).Le (I.k + x) := by
  have hE : ∀ w s, (claimE n w s kk).Le x := fun w s => by unfold claimE; split <;> exact hk _ _ _
  unfold claimT
  split
  · exact (hk _ _ _).mono (by omega)
  split
  · exact (hk _ _ _).mono (by omega)
  split
  · exact (hk _ _ _).mono (by omega)
  split
  · exact le_least x (fun m s => hE _ _) _ _ _ _
  · exact (hE _ _).mono (by omega)
theorem le_put (I : Ids) (x : Nat) {kk : Int → SSt → Tree SSt SSt} (hk : ∀ e s, (kk e s).Le x) (q v : Int) (s : SSt) : (sputT I q v s kk).Le (3 + x) := by
  unfold sputT putG
  split
  · split
    · rw [show 3 + x = x + 1 + 1 + 1 by omega]
      exact fun s1 s2 s3 => hk _ _
    · exact (hk _ _).mono (by omega)
  · exact (hk _ _).mono (by omega)
theorem le_puts (I : Ids) (q : Int) (x : Nat) {kk : SSt → Tree SSt SSt} (hk : ∀ s, (kk s).Le x) : ∀ (vs : List Int) (j : Nat) (s : SSt), (putsT I q vs j s kk).Le (3 * vs.length + x)
  | [], j, s => (hk s).mono (by omega)
  | v :: vs, j, s => by
    rw [show 3 * (v :: vs).length + x = 3 + (3 * vs.length + x) by simp only [List.length_cons]; omega]
    exact le_put I _ (fun e s => le_puts I q x hk vs (j + 1) s) _ _ _
theorem le_write (I : Ids) (x : Nat) {kk : Int → Int → SSt → Tree SSt SSt} (hk : ∀ q e s, (kk q e s).Le x) (vs : List Int) (s : SSt) : (swriteT I vs s kk).Le (I.k + (3 * vs.length + (1 + x))) := by
  unfold swriteT
  refine le_claim I _ (fun q e s => ?_) _ _
  split
  · refine le_puts I q _ (fun s => ?_) vs 0 s
    unfold spubT
    split
    · rw [Nat.add_comm 1 x]
      exact fun s' => hk _ _ _
    · exact (hk _ _ _).mono (by omega)
  · exact (hk _ _ _).mono (by omega)
theorem le_get (n : Nat) (x : Nat) {kk : Int → Int → SSt → Tree SSt SSt} (hk : ∀ v e s, (kk v e s).Le x) (q : Int) (s : SSt) : (getG soloL n q s kk).Le (3 + x) := by
  unfold getG
  split
  · unfold getT
    rw [show 3 + x = x + 1 + 1 + 1 by omega]
    intro s1
    show (if _ then _ else _ : Tree SSt SSt).Le _
    split
    · exact (hk _ _ _).mono (by omega)
    split
    · exact (hk _ _ _).mono (by omega)
    intro s2 s3
    show (if _ then _ else _ : Tree SSt SSt).Le _
    split <;> exact hk _ _ _
  · exact (hk _ _ _).mono (by omega)
theorem le_batchL (I : Ids) (p : Int) (x : Nat) {kk : List Int → Int → SSt → Tree SSt SSt} (hk : ∀ ls e s, (kk ls e s).Le x) : ∀ (m : Nat) (ls : List Int) (s : SSt), (batchL I p m ls s kk).Le (3 * m + x)
  | 0, ls, s => (hk _ _ _).mono (by omega)
  | m + 1, ls, s => by
    show (if 65536 ≤ ls.length then _ else _ : Tree SSt SSt).Le _
    split
    · trivial
    · rw [show 3 * (m + 1) + x = 3 + (3 * m + x) by omega]
      refine le_get I.n _ (fun v e s => ?_) _ _
      split
      · exact le_batchL I p x hk m _ _
      · split <;> exact (hk _ _ _).mono (by omega)
theorem le_batch (I : Ids) (x : Nat) {kk : List Int → Int → SSt → Tree SSt SSt} (hk : ∀ ls e s, (kk ls e s).Le x) (r most : Int) (hm : most ≤ 3) (s : SSt) : (batchT I r most s kk).Le (11 + x) := by
  unfold batchT
  split
  · exact (hk _ _ _).mono (by omega)
  split
  · exact (hk _ _ _).mono (by omega)
  rw [show 11 + x = (9 + (1 + x)) + 1 by omega]
  intro s1
  show (if _ then _ else _ : Tree SSt SSt).Le _
  split
  · exact (hk _ _ _).mono (by omega)
  · refine Tree.Le.mono (le_batchL I _ (1 + x) (fun ls e s => ?_) _ _ _) (show 3 * (min (s1.1.cursor - s.1.place r.toNat).toNat (max most 1).toNat) + (1 + x) ≤ 9 + (1 + x) by omega)
    split
    · rw [Nat.add_comm 1 x]
      exact fun s3 => hk _ _ _
    · exact (hk _ _ _).mono (by omega)
theorem le_do (i : Nat) (hi : i < P.k + 1) (o : OpI) (ho : o ∈ P.ops i) (x : Nat) {kk : Ans → SSt → Tree SSt SSt} (hk : ∀ a s, (kk a s).Le x) (s : SSt) : (doS (I0 P.n P.k) i o s kk).Le (40 + x) := by
  have hk8 := P.k8
  have hn8 := P.n8
  cases i with
  | zero =>
    obtain ⟨h4, hb1, hb2⟩ := P.w o ho
    have hc : wcount (I0 P.n P.k) o.b ≤ 8 := by show (min (max o.b 0) ((P.n : Int) + 1)).toNat ≤ 8; omega
    show (wopT (I0 P.n P.k) o s kk).Le _
    unfold wopT
    rw [if_neg (by omega), if_neg (by omega), if_neg (by omega), if_pos h4]
    refine Tree.Le.mono (le_write _ x (fun q e s => hk _ _) _ _) ?_
    rw [rowV_len]
    show P.k + (3 * wcount (I0 P.n P.k) o.b + (1 + x)) ≤ 40 + x
    omega
  | succ j =>
    have h := P.r j (by omega) o ho
    unfold doS
    rw [if_neg (by omega), if_neg (by show ¬ P.k < j + 1; omega)]
    by_cases h5 : o.kind = 5
    · rw [if_pos h5]
      unfold readT
      refine Tree.Le.mono (le_batch _ x (fun ls e s => ?_) _ 1 (by decide) _) (by omega)
      split <;> exact hk _ _
    · obtain ⟨h6, ha1, ha2⟩ := h.resolve_left h5
      rw [if_neg h5, if_pos h6]
      exact Tree.Le.mono (le_batch _ x (fun ls e s => hk _ _) _ _ (by unfold heldN; omega) _) (by omega)
theorem le_thr (i : Nat) (hi : i < P.k + 1) : ∀ (l : List OpI) (own : List Ans) (s : SSt), (∀ o ∈ l, o ∈ P.ops i) → (thrQ (doS (I0 P.n P.k) i) i l own s).Le (40 * l.length)
  | [], own, s, _ => trivial
  | o :: l, own, s, h => by
    rw [show 40 * (o :: l).length = 40 + 40 * l.length by simp only [List.length_cons]; omega]
    refine le_do P i hi o (h o (by simp)) _ (fun a s => ?_) s
    split
    · exact le_thr i hi l _ _ fun o ho => h o (by simp [ho])
    · trivial
theorem le_br (i : Nat) (hi : i < P.k + 1) (s : SSt) : (brQ (doS (I0 P.n P.k)) P.ops i s).Le 480 := by
  unfold brQ
  split
  · exact Tree.Le.mono (le_thr P i hi _ _ s fun o ho => ho) (by have := P.len i; omega)
  · trivial
/-- ████ Every run of enough steps ends, and keeps what was promised. ████ -/
theorem solo_runs (sched : List Int) : (playRun (brQ (doS (I0 P.n P.k)) P.ops) (P.k + 1) 1048576 sched (soloZero, fun _ => [])).m.left (P.k + 1) = 0 ∧
    ∃ all, SInv P all (playRun (brQ (doS (I0 P.n P.k)) P.ops) (P.k + 1) 1048576 sched (soloZero, fun _ => [])).m.s ∧ ∀ i, i < P.k + 1 → (soP P i).po all (playRun (brQ (doS (I0 P.n P.k)) P.ops) (P.k + 1) 1048576 sched (soloZero, fun _ => [])).m.s :=
  rg_le (so_rgs P) (so_zero P) (so_births P) (fun _ => 480) (fun i hi s => le_br P i hi s) 1048576 (by
    have hb : ∀ n, sumB (fun _ => 480 + 1) n = 481 * n := fun n => by induction n with | zero => rfl | succ n ih => simp only [sumB, ih]; omega
    rw [hb]
    have := P.k8
    omega) sched
/-- ████ Wherever a run is stopped, what is published and not read lies whole in its slot. ████ -/
theorem solo_stopped (most : Nat) (sched : List Int) : ∃ all, SInv P all (playRun (brQ (doS (I0 P.n P.k)) P.ops) (P.k + 1) most sched (soloZero, fun _ => [])).m.s := by
  obtain ⟨g, h, _⟩ := rg_play (so_rgs P) (so_zero P) (so_births P) most sched
  exact ⟨g, h⟩
theorem solo_sound : Sound (brQ (doS (I0 P.n P.k)) P.ops) (P.k + 1) (soloZero, fun _ => []) := rg_sound (so_rgs P) (so_zero P) (so_births P)
end
end Go.Proofs.Ytlcplealnbekeaa
namespace Go.Proofs.Ytlcplealnbekeaa
open Go.RowKit Go.Turn Go.Tame Go.Conc
set_option linter.unusedVariables false
set_option linter.unusedSectionVars false
set_option linter.unusedSimpArgs false
def NumRow (w : World) (l : List Int) (v : Value) (w' : World) : Prop := w'.ownsRow w.heap.size 2 1 v l.length (l.map (Value.int .i64)) ∧ Kept (fun _ => False) w w'
theorem rowV_snoc (a : Int) (e : Nat) : rowV a (e + 1) = rowV a e ++ [wrap64 (a + e)] := by simp [rowV, List.range_succ]
structure WrSteps (lo : List OpI) (la : List Ans) (f : Nat → List Int) : Prop where
  len : la.length ≤ lo.length
  zero : f 0 = []
  b : ∀ j (h : j < lo.length), 1 ≤ lo[j].b ∧ lo[j].b ≤ 8
  ok : ∀ j (h : j < la.length), la[j].ok = true → la[j].n = ((f j).length : Int) ∧ f (j + 1) = f j ++ rowV (lo[j]'(by omega)).a (lo[j]'(by omega)).b.toNat
  no : ∀ j (h : j < la.length), la[j].ok = false → la[j].n = 3 ∧ f (j + 1) = f j
  sz : ∀ j, j ≤ la.length → (f j).length ≤ 4096
set_option maxHeartbeats 4000000 in
set_option maxRecDepth 100000 in
theorem written_ok (w : World) (A : Option Addr) (tc n : Nat) (ops : Nat → List OpI) (ans : Nat → List Ans) (ord sta : List Int) (Aa : Option Addr) (ca : Nat) (ov tv : Value) (st : Bool) (f : Nat → List Int) (hn : 0 < n) (L : Nat) (hL : (ans 0).length = L)
    (hT : ThreadsAt w A n ops) (hA : TraceAt w n ans ord sta Aa ca ov tv) (hf : WrSteps (ops 0) (ans 0) f) :
    Calls Try.prog 31 #[.slice A n tc, .agg #[.slice Aa n ca, ov, tv, .bool st]] w fun e w' => ∃ v, e = .returned (.tuple #[v, .bool true]) ∧ NumRow w (f L) v w' := by
  obtain ⟨o1, d1, e1, -⟩ := id hA.ord.1
  obtain ⟨s1, f1, e3, -⟩ := id hA.sta.1
  subst e1 e3
  have HT := Lib.hid (hT 0 hn)
  have HA := Lib.hid (hA.row 0 hn)
  have HF := Lib.hid hf
  clear hT hA hf
  obtain ⟨b, o, row, hAa, hrow, hans, hmax⟩ := HA.out
  obtain ⟨rA, rc, hr, hcells⟩ := hans
  rw [hL] at hr hmax
  subst hr hAa
  have HLL := Lib.hid hL
  have HC := Lib.hid hcells
  have hbl := lt_of_cell hrow
  have hm := hmax
  unfold maxLen at hm
  clear hL HA hcells hmax
  rw [Nat.add_zero] at hrow
  obtain ⟨i1, hi1, hz01, hz11, hz21⟩ := info_parts Try.info64
  go_enter Try.func31, Try.ntmps31
  go_wp2_with fail
  have hb : Kept (fun _ => False) w (w.alloc (.cells #[.slice (some ⟨b, o, none⟩) n ca, .slice o1 ord.length d1, .slice s1 sta.length f1, .bool st] 31)) ∧ (w.alloc (.cells #[.slice (some ⟨b, o, none⟩) n ca, .slice o1 ord.length d1, .slice s1 sta.length f1, .bool st] 31)).heap.size = w.heap.size + 1 := ⟨Kept.alloc _ _, by simp⟩
  generalize w.alloc _ = z at hb ⊢
  have HB := Lib.hid hb
  clear hb hrow hbl
  go_loopw [6, 16] (fun v i wr => ∃ j : Nat, j ≤ L ∧ i = .int .i64 j ∧ Hid (wr.ownsRow (w.heap.size + 1) 2 1 v (f j).length ((f j).map (Value.int .i64)) ∧ Kept (fun _ => False) z wr)) (fun _ i _ => L - (intOf i).toNat)
  case atStart => exact ⟨0, by omega, rfl, Lib.hid ⟨by rw [HF.out.zero]; exact World.ownsRow_nil _ _ _ _, Kept.refl _ _⟩⟩
  case round =>
    obtain ⟨j, hj, rfl, HR⟩ := hrel
    have hsz := HF.out.sz j (by rw [HLL.out]; exact hj)
    by_cases hlt : j < L
    · have hjl : j < (ops 0).length := Nat.lt_of_lt_of_le (by rw [HLL.out]; exact hlt) HF.out.len
      have hja : j < (ans 0).length := by rw [HLL.out]; exact hlt
      obtain ⟨b1, o1, lv, rfl, p1, p2, p3, ⟨lA, lc, rfl, -⟩, -⟩ := HC.out j hja
      obtain ⟨b2, o2, row2, rfl, q0, oA, oc, rfl, hom, q1⟩ := HT.out
      obtain ⟨b3, o3, rfl, q2, q3, q4, q5⟩ := q1 j hjl
      have hk : Kept (fun _ => False) w wr := HB.out.1.trans HR.out.2
      have far : ∀ {b o : Nat} {v : Value}, w.cell? ⟨b, o, none⟩ = some v → wr.cell? ⟨b, o, none⟩ = some v := fun h => (World.cell?_of_block (w := w) (hk.block _ (lt_of_cell h) id)).trans h
      have p1 := far p1
      have p2 := far p2
      have p3 := far p3
      have q0 := far q0
      have q2 := far q2
      have q3 := far q3
      have q4 := far q4
      have q5 := far q5
      have hbb := HF.out.b j hjl
      have hok := HF.out.ok j hja
      have hno := HF.out.no j hja
      clear far hk
      generalize (ans 0)[j] = a at *
      generalize (ops 0)[j] = op at *
      obtain ⟨okv, na, ls⟩ := a
      obtain ⟨kd, oa, ob, ocv⟩ := op
      simp only at p1 p2 p3 q2 q3 q4 q5 hbb hok hno
      obtain ⟨vA, vc, rfl⟩ := own_slice HR.out.1
      unfold maxLen at hom
      have hjo : (j : Int) < (ops 0).length := by omega
      have b0 : (0 : Int) ≤ j := by omega
      have b1' : (j : Int) < L := by omega
      have HOK := Lib.hid (And.intro hok hno)
      clear hok hno hom HT q1
      rw [Nat.add_zero] at q0
      have l0 := lt_of_cell q0
      have l1 := lt_of_cell p1
      have l2 := lt_of_cell q2
      cases okv with
      | false =>
        obtain ⟨rfl, hfj⟩ := HOK.out.2 rfl
        have HFJ := Lib.hid hfj
        clear hfj
        go_wp2
        go_roundw
        case rel => exact ⟨j + 1, by omega, by go_num, Lib.hid ⟨by rw [HFJ.out]; exact (HR.out.1.alloc _).alloc _, (HR.out.2.trans (Kept.alloc _ _)).trans (Kept.alloc _ _)⟩⟩
        case measure => simp [intOf]; omega
      | true =>
        obtain ⟨rfl, hfj⟩ := HOK.out.1 rfl
        obtain ⟨m, rfl⟩ : ∃ m : Nat, ob = m := ⟨ob.toNat, by omega⟩
        rw [Int.toNat_natCast] at hfj
        have HFJ := Lib.hid hfj
        clear hfj HOK
        go_wp2
        have hy : Blk ((wr.alloc (.cells #[.bool true, .int .i64 (f j).length, .slice lA ls.length lc] 48)).alloc (.cells #[.int .i64 kd, .int .i64 oa, .int .i64 m, .int .i64 ocv] 46)) (wr.heap.size + 1) 46 #[.int .i64 kd, .int .i64 oa, .int .i64 m, .int .i64 ocv] ∧
            Kept (fun _ => False) wr ((wr.alloc (.cells #[.bool true, .int .i64 (f j).length, .slice lA ls.length lc] 48)).alloc (.cells #[.int .i64 kd, .int .i64 oa, .int .i64 m, .int .i64 ocv] 46)) :=
          ⟨by have := Blk.new (wr.alloc (.cells #[.bool true, .int .i64 (f j).length, .slice lA ls.length lc] 48)) 46 #[.int .i64 kd, .int .i64 oa, .int .i64 m, .int .i64 ocv]; rw [World.size_alloc] at this; exact this, (Kept.alloc _ _).trans (Kept.alloc _ _)⟩
        generalize (wr.alloc _).alloc _ = y at hy ⊢
        have HY := Lib.hid hy
        clear hy p1 p2 p3 q0 q2 q3 q4 q5 l0 l1 l2
        generalize wr.heap.size + 1 = ob at HY ⊢
        have hwz : w.heap.size + 1 ≤ wr.heap.size := by have := HR.out.2.size; have := HB.out.2; omega
        have HRY : Hid (y.ownsRow (w.heap.size + 1) 2 1 (.slice vA (f j).length vc) (f j).length ((f j).map (Value.int .i64)) ∧ Kept (fun _ => False) z y) := Lib.hid ⟨own_kept HR.out.1 HY.out.2 (fun _ _ z => z), HR.out.2.trans HY.out.2⟩
        generalize wr.heap.size = gs at hwz ⊢
        clear HR
        generalize f j = l at hsz HFJ HRY ⊢
        obtain ⟨n0, HN0⟩ : ∃ n0 : Nat, Hid (l.length = n0) := ⟨_, Lib.hid rfl⟩
        rw [HN0.out] at hsz ⊢
        go_loopw [6, 40] (fun v i wx => ∃ e : Nat, e ≤ m ∧ i = .int .i64 e ∧ Hid (wx.ownsRow (w.heap.size + 1) 2 1 v (n0 + e) ((l ++ rowV oa e).map (Value.int .i64)) ∧ Kept (fun _ => False) z wx ∧ Blk wx ob 46 #[.int .i64 kd, .int .i64 oa, .int .i64 m, .int .i64 ocv])) (fun _ i _ => m - (intOf i).toNat)
        case atStart =>
          refine ⟨0, by omega, rfl, Lib.hid ⟨?_, HRY.out.2, HY.out.1⟩⟩
          have := HRY.out.1
          rw [HN0.out] at this
          simpa [rowV] using this
        case round =>
          obtain ⟨e, he, rfl, HE⟩ := hrel
          obtain ⟨vA, vc, rfl⟩ := own_slice HE.out.1
          by_cases hlt : e < m
          · have c1 : wr.cell? ⟨ob, 1, none⟩ = some (.int .i64 oa) := HE.out.2.2.cell 1
            have cl := HE.out.2.2.lt
            go_wp2_with (at_builtin; refine wpList_app _ rfl _ _ 29 rfl (w.heap.size + 1) 2 i1 (.int .i64 0) 1 8 Try.underlying29 hi1 hz01 hz11 hz21 rfl (by decide) _ _ _ rfl (HE.out.1.alloc _) (some ⟨wr.heap.size, 0, none⟩) 1 1 rfl (fun h => by cases h) (Nat.le_refl _) [.int .i64 (Go.RowKit.wrap64 (oa + e))] (by simp) (cells_new _ _ _) (by simp [Value.oneCell']) (by unfold maxLen; omega) (by omega) (by have := HE.out.2.1.size; have := HB.out.2; simp; omega) ?_)
            intro v' w2 h1 k1 _ _ _
            have HE2 := Lib.hid (show w2.ownsRow (w.heap.size + 1) 2 1 v' (n0 + (e + 1)) ((l ++ rowV oa (e + 1)).map (Value.int .i64)) ∧ Kept (fun _ => False) z w2 ∧ Blk w2 ob 46 #[.int .i64 kd, .int .i64 oa, .int .i64 m, .int .i64 ocv] from by
              refine ⟨?_, (HE.out.2.1.trans (Kept.alloc _ _)).later k1 fun b hb => by have := (HE.out.1.lt b hb).1; have := HB.out.2; omega, ?_⟩
              · rw [rowV_snoc, List.map_append, List.map_append, ← Nat.add_assoc]
                exact h1
              · refine (HE.out.2.2.alloc _).kept k1 fun hb => ?_
                obtain ⟨_, _, c, hc⟩ := own_lt HE.out.1 hb
                have := hc.symm.trans HE.out.2.2
                simp at this)
            clear h1 k1 c1 cl
            obtain ⟨vA', vc', rfl⟩ := own_slice HE2.out.1
            go_wp2
            go_roundw
            case rel => exact ⟨e + 1, by omega, by go_num, HE2⟩
            case measure => simp [intOf]; omega
          · obtain rfl : e = m := by omega
            go_wp2
            go_roundw
            case rel =>
              refine ⟨j + 1, by omega, by go_num, Lib.hid ⟨?_, HE.out.2.1⟩⟩
              rw [HFJ.out]
              have := HE.out.1
              rw [show (l ++ rowV oa e).length = n0 + e by rw [List.length_append, HN0.out, rowV_len]]
              exact this
            case measure => simp [intOf]; omega
    · obtain rfl : j = L := by omega
      obtain ⟨vA, vc, rfl⟩ := own_slice HR.out.1
      go_wp2
      refine bodyPost_ret (v := .tuple #[.slice vA (f j).length vc, .bool true]) (by simp [results, Try.f31, go_sem]) rfl ?_
      exact ⟨_, rfl, own_baseK HR.out.1 (by omega), HB.out.1.trans HR.out.2⟩
end Go.Proofs.Ytlcplealnbekeaa
