/-
  The claim ReaderNil: nil rings, gates, readers and followers, bad places and sequences answer as the chapter says; no condition.
-/
import Derived.Test.YtlhbonnminlnlaaGo
import Derived.Test.YtlhbonnminlnlaaGp
import Derived.Test.YtlhbonnminlnlaaGd
import Derived.Test.YtlhbonnminlnlaaGh
import Derived.Conc.LeavingOf
import Derived.Test.YtlhbonnminlnlaaRows
import Derived.ProofKit
import Derived.OpenShut
set_option linter.unusedVariables false
set_option linter.unusedSectionVars false
set_option linter.unusedSimpArgs false
namespace Go.Proofs.Ytlhbonnminlnlaa
open Go.RowKit Go.Turn Go.Tame Go.Conc
theorem newR_m (G : Value) (p : Int) (w : World) : Calls Try.prog 9 #[.pointer none,G,.int .i64 p] w fun e w'=>e = .returned (.tuple #[.pointer none,.int .i64 6])∧w = w':=by
  go_enter Try.func9,Try.ntmps9
  go_wp2
  go_ret2
  exact ⟨rfl,rfl⟩
theorem newR_g (M : Addr) (p : Int) (w : World) : Calls Try.prog 9 #[.pointer (some M),.pointer none,.int .i64 p] w fun e w'=>e = .returned (.tuple #[.pointer none,.int .i64 6])∧w = w':=by
  go_enter Try.func9,Try.ntmps9
  go_wp2
  go_ret2
  exact ⟨rfl,rfl⟩
def goodP (p : Int) : Prop:=0≤p∧p < 64
instance (p : Int) : Decidable (goodP p):=inferInstanceAs (Decidable (_∧_))
theorem newR_bad (M G : Addr) (p : Int) (h : ¬ goodP p) (w : World) : Calls Try.prog 9 #[.pointer (some M),.pointer (some G),.int .i64 p] w fun e w'=>e = .returned (.tuple #[.pointer none,.int .i64 1])∧w = w':=by
  by_cases h1 : p < 0
  · have d1 : decide (p < 0) = true:=decide_eq_true h1
    clear h
    go_enter Try.func9,Try.ntmps9
    go_wp2
    go_ret2
    exact ⟨rfl,rfl⟩
  · have d1 : decide (p < 0) = false:=decide_eq_false h1
    have d2 : decide (64≤p) = true:=decide_eq_true (by unfold goodP at h; omega)
    clear h h1
    go_enter Try.func9,Try.ntmps9
    go_wp2
    go_ret2
    exact ⟨rfl,rfl⟩
theorem newR_ok (M G : Addr) (p : Int) (h : goodP p) (w : World) : Calls Try.prog 9 #[.pointer (some M),.pointer (some G),.int .i64 p] w fun e w'=>e = .returned (.tuple #[.pointer (some ⟨w.heap.size,0,none⟩),.int .i64 0])∧Kept (fun _=>False) w w':=by
  have d1 : decide (p < 0) = false:=decide_eq_false (by unfold goodP at h; omega)
  have d2 : decide (64≤p) = false:=decide_eq_false (by unfold goodP at h; omega)
  clear h
  go_enter Try.func9,Try.ntmps9
  go_wp2
  go_ret2
  exact ⟨rfl,Kept.alloc _ _⟩
theorem follow_m (x : Int) (w : World) : Calls Try.prog 10 #[.pointer none,.int .i64 x] w fun e w'=>e = .returned (.tuple #[.pointer none,.int .i64 6])∧w = w':=by
  go_enter Try.func10,Try.ntmps10
  go_wp2
  go_ret2
  exact ⟨rfl,rfl⟩
def goodF (x : Int) : Prop:=0≤x∧x < 4611686018427387904
instance (p : Int) : Decidable (goodF p):=inferInstanceAs (Decidable (_∧_))
theorem follow_bad (M : Addr) (x : Int) (h : ¬ goodF x) (w : World) : Calls Try.prog 10 #[.pointer (some M),.int .i64 x] w fun e w'=>e = .returned (.tuple #[.pointer none,.int .i64 1])∧w = w':=by
  by_cases h1 : x < 0
  · have d1 : decide (x < 0) = true:=decide_eq_true h1
    clear h
    go_enter Try.func10,Try.ntmps10
    go_wp2
    go_ret2
    exact ⟨rfl,rfl⟩
  · have d1 : decide (x < 0) = false:=decide_eq_false h1
    have d2 : decide (4611686018427387904≤x) = true:=decide_eq_true (by unfold goodF at h; omega)
    clear h h1
    go_enter Try.func10,Try.ntmps10
    go_wp2
    go_ret2
    exact ⟨rfl,rfl⟩
theorem follow_ok (M : Addr) (x : Int) (h : goodF x) (w : World) : Calls Try.prog 10 #[.pointer (some M),.int .i64 x] w fun e w'=>e = .returned (.tuple #[.pointer (some ⟨w.heap.size,0,none⟩),.int .i64 0])∧Kept (fun _=>False) w w':=by
  have d1 : decide (x < 0) = false:=decide_eq_false (by unfold goodF at h; omega)
  have d2 : decide (4611686018427387904≤x) = false:=decide_eq_false (by unfold goodF at h; omega)
  clear h
  go_enter Try.func10,Try.ntmps10
  go_wp2
  go_ret2
  exact ⟨rfl,Kept.alloc _ _⟩
theorem fread_n (m : Int) (w : World) : Calls Try.prog 11 #[.pointer none,.nilIface,.int .i64 m] w fun e w'=>e = .returned (.tuple #[.slice none 0 0,.int .i64 0,.int .i64 6])∧w = w':=by
  go_enter Try.func11,Try.ntmps11
  go_wp2
  go_ret3
  exact ⟨rfl,rfl⟩
theorem fnext_n (w : World) : Calls Try.prog 12 #[.pointer none] w fun e w'=>e = .returned (.int .i64 0)∧w = w':=by
  go_enter Try.func12,Try.ntmps12
  go_wp2
  go_ret
  exact ⟨rfl,rfl⟩
def ZrR (w : World) (p : Option Addr) : Prop:=p = none∨∃ b,p = some ⟨b,0,none⟩∧w.cell? ⟨b,0,none⟩ = some (.pointer none)∧w.cell? ⟨b,3,none⟩ = some (.bool false)∧w.cell? ⟨b,4,none⟩ = some (.int .i64 0)
theorem joined_z {w : World} {p : Option Addr} (h : ZrR w p) : Calls Try.prog 18 #[.pointer p] w fun e w'=>e = .returned (.bool false)∧w = w':=by
  rcases h with rfl | ⟨b,rfl,h0,h3,h4⟩
  · go_enter Try.func18,Try.ntmps18
    go_wp2
    go_ret
    exact ⟨rfl,rfl⟩
  · go_enter Try.func18,Try.ntmps18
    go_wp2
    go_ret
    exact ⟨rfl,rfl⟩
theorem next_z {w : World} {p : Option Addr} (h : ZrR w p) : Calls Try.prog 19 #[.pointer p] w fun e w'=>e = .returned (.int .i64 0)∧w = w':=by
  rcases h with rfl | ⟨b,rfl,h0,h3,h4⟩
  · go_enter Try.func19,Try.ntmps19
    go_wp2
    go_ret
    exact ⟨rfl,rfl⟩
  · go_enter Try.func19,Try.ntmps19
    go_wp2
    go_ret
    exact ⟨rfl,rfl⟩
theorem join_z {w : World} {p : Option Addr} (h : ZrR w p) : Calls Try.prog 13 #[.pointer p,.nilIface] w fun e w'=>e = .returned (.tuple #[.int .i64 0,.int .i64 6])∧w = w':=by
  rcases h with rfl | ⟨b,rfl,h0,h3,h4⟩
  · go_enter Try.func13,Try.ntmps13
    go_wp2
    go_ret2
    exact ⟨rfl,rfl⟩
  · go_enter Try.func13,Try.ntmps13
    go_wp2
    go_ret2
    exact ⟨rfl,rfl⟩
theorem read_z {w : World} {p : Option Addr} (m : Int) (h : ZrR w p) : Calls Try.prog 14 #[.pointer p,.nilIface,.int .i64 m] w fun e w'=>e = .returned (.tuple #[.slice none 0 0,.int .i64 6])∧w = w':=by
  have HZ:=Lib.hid h
  clear h
  go_enter Try.func14,Try.ntmps14
  go_wp2_with (go_at_call 18; refine (joined_z HZ.out).mono ?_; rintro e w' ⟨rfl,rfl⟩)
  go_ret2
  exact ⟨rfl,rfl⟩
theorem skip_z {w : World} {p : Option Addr} (h : ZrR w p) : Calls Try.prog 15 #[.pointer p,.nilIface] w fun e w'=>e = .returned (.tuple #[.int .i64 0,.int .i64 6])∧w = w':=by
  have HZ:=Lib.hid h
  clear h
  go_enter Try.func15,Try.ntmps15
  go_wp2_with (go_at_call 18; refine (joined_z HZ.out).mono ?_; rintro e w' ⟨rfl,rfl⟩)
  go_ret2
  exact ⟨rfl,rfl⟩
theorem lag_z {w : World} {p : Option Addr} (h : ZrR w p) : Calls Try.prog 16 #[.pointer p,.nilIface] w fun e w'=>e = .returned (.tuple #[.int .i64 0,.int .i64 6])∧w = w':=by
  have HZ:=Lib.hid h
  clear h
  go_enter Try.func16,Try.ntmps16
  go_wp2_with (go_at_call 18; refine (joined_z HZ.out).mono ?_; rintro e w' ⟨rfl,rfl⟩)
  go_ret2
  exact ⟨rfl,rfl⟩
theorem leave_z {w : World} {p : Option Addr} (h : ZrR w p) : Calls Try.prog 17 #[.pointer p,.nilIface] w fun e w'=>e = .returned (.int .i64 6)∧w = w':=by
  have HZ:=Lib.hid h
  clear h
  go_enter Try.func17,Try.ntmps17
  go_wp2_with (go_at_call 18; refine (joined_z HZ.out).mono ?_; rintro e w' ⟨rfl,rfl⟩)
  go_ret
  exact ⟨rfl,rfl⟩
set_option maxHeartbeats 1000000 in
set_option maxRecDepth 100000 in
theorem nil_true (W : World) (place frm : Int) : (lgA Try.tame (PostT (.bool true) W) W).T () (Frame.enter Try.prog 3 #[.int .i64 place,.int .i64 frm] .normal) [] (seen0 W):=by
  have hs : ¬ (lgA Try.tame (PostT (.bool true) W) W).strict:=fun h=>h
  have hsz : (seen0 W).heap.size = W.heap.size:=seen0_size W
  have hio : (seen0 W).os = W.os∧(seen0 W).output = W.output:=seen0_io W
  generalize seen0 W = x at hsz hio ⊢
  rw [show Frame.enter Try.prog 3 #[.int .i64 place,.int .i64 frm] .normal = Frame.at { (default : Frame) with fn:=3,kind:=.normal } ⟨#[.int .i64 place,.int .i64 frm] ++ Array.replicate (Try.f3.ntmps - 2) undef,[]⟩ [.code (Try.f3.body.getD .skip)] from by simp [Frame.enter,Frame.at,Try.func3]; rfl]
  simp only [Try.f3,Option.getD_some,Nat.reduceSub,Array.replicate_succ,Array.replicate_zero,List.push_toArray,List.append_toArray,List.nil_append,List.cons_append]
  refine Lg.move _ (fun _ _=>step_seq) (fun h=>h) ?_
  refine Lg.code fun K hK y τ n' hy=>?_
  subst hy
  go_wp2
  refine hK _ _ (fun h=>absurd h hs) ?_
  clear hK K
  have hsz : y.heap.size = W.heap.size:=hsz
  have hio : y.os = W.os∧y.output = W.output:=hio
  refine Lg.move _ (fun _ _=>step_seq) (fun h=>h) ?_
  refine Lg.move _ (fun _ _=>step_seq) (fun h=>h) ?_
  refine Lg.move _ (fun _ _=>step_region) (fun h=>h) ?_
  refine Lg.call (i:=0) (rest:=[1]) (f:=6) (args:=#[]) rfl rfl (fun y=>by go_simp) (awake_true Try.tame (PostT (.bool true) W) W y (by omega)) ?_
  rintro vv t' w1 ⟨rfl,hk⟩
  have hio2 : w1.os = W.os∧w1.output = W.output:=⟨hk.io.1.trans hio.1,hk.io.2.trans hio.2⟩
  clear hk hio hsz
  rw [Frame.finish_at]
  walk_nrm
  refine (show (lgA Try.tame (PostT (.bool true) W) W).T _ (Frame.at _ ⟨_,[]⟩ (.inRegion _ (List.range' 1 (1 + 0)) :: _)) [] w1 from ?_)
  refine Lg.pre 1 1 0 (by simp) fun K hK q τ n' hq=>?_
  subst hq
  simp only [List.drop_succ_cons,List.drop_zero,List.take_succ_cons,List.take_zero]
  go_wp2
  refine hK _ _ (fun h=>absurd h hs) ?_
  clear hK K
  have hio3 : q.os = W.os∧q.output = W.output:=hio2
  clear hio2
  refine Lg.move _ (fun _ _=>step_region_end) (fun h=>h) ?_
  refine Lg.move _ (fun _ _=>step_cond (t:=false) rfl) (fun h=>h) ?_
  refine Lg.move _ (fun _ _=>step_skip) (fun h=>h) ?_
  refine lgA_rest Try.tame rfl Try.func3 (by kernel_rfl) (fun tm w v h w'=>?_) fun u τ2 n2 hu=>?_
  · simp [results,Try.f3] at h ⊢
    exact h
  subst hu
  have hio4 : u.os = W.os∧u.output = W.output:=hio3
  clear hio3
  have HI:=Lib.hid hio4
  clear hio4
  go_wp2_with fail
  refine (multi_newF 4 0 u (by decide) (by decide) (by decide) (by decide) (by decide)).mono ?_
  rintro e w2 ⟨rfl,-,-,-,-,-,-,B2,-⟩
  have k2 : Kept (fun _=>False) u w2:=Kept.of_below B2
  have HI:=Lib.hid (show w2.os = W.os∧w2.output = W.output from ⟨k2.os.trans HI.out.1,k2.output.trans HI.out.2⟩)
  clear B2 k2
  generalize u.heap.size + 4 = mb
  go_wp2_with fail
  refine (gate_newN w2).mono ?_
  rintro e w3 ⟨rfl,-,k3,-,-⟩
  have HI:=Lib.hid (show w3.os = W.os∧w3.output = W.output from ⟨k3.os.trans HI.out.1,k3.output.trans HI.out.2⟩)
  clear k3
  generalize w2.heap.size = gb
  go_wp2_with fail
  refine (newR_m _ _ _).mono ?_
  rintro e w' ⟨rfl,hw'⟩
  subst hw'
  go_wp2_with fail
  refine (newR_g _ _ _).mono ?_
  rintro e w' ⟨rfl,hw'⟩
  subst hw'
  go_wp2_with fail
  by_cases h1 : place < 0
  case' pos =>
    have d1 : decide (0≤place) = false:=decide_eq_false (by omega)
    refine (newR_bad _ _ _ (fun z=>by unfold goodP at z; omega) _).mono ?_
    rintro e w4 ⟨rfl,hw'⟩
    obtain rfl:=hw'
  case' neg =>
    have d1 : decide (0≤place) = true:=decide_eq_true (by omega)
    by_cases h2 : place < 64
    case' pos =>
      have d2 : decide (place < 64) = true:=decide_eq_true h2
      refine (newR_ok _ _ _ (show goodP place from ⟨by omega,h2⟩) _).mono ?_
      rintro e w4 ⟨rfl,k4⟩
      have HI:=Lib.hid (show w4.os = W.os∧w4.output = W.output from ⟨k4.os.trans HI.out.1,k4.output.trans HI.out.2⟩)
      clear k4
      generalize w3.heap.size = rb
    case' neg =>
      have d2 : decide (place < 64) = false:=decide_eq_false h2
      refine (newR_bad _ _ _ (fun z=>by unfold goodP at z; omega) _).mono ?_
      rintro e w4 ⟨rfl,hw'⟩
      obtain rfl:=hw'
    all_goals clear h2
  all_goals
    clear h1
    go_wp2_with fail
    by_cases h1 : frm < 0
    case' pos =>
      have g1 : decide (0≤frm) = false:=decide_eq_false (by omega)
      refine (follow_bad _ _ (fun z=>by unfold goodF at z; omega) _).mono ?_
      rintro e w5 ⟨rfl,hw'⟩
      obtain rfl:=hw'
    case' neg =>
      have g1 : decide (0≤frm) = true:=decide_eq_true (by omega)
      by_cases h2 : frm < 4611686018427387904
      case' pos =>
        have g2 : decide (frm < 4611686018427387904) = true:=decide_eq_true h2
        refine (follow_ok _ _ (show goodF frm from ⟨by omega,h2⟩) _).mono ?_
        rintro e w5 ⟨rfl,k5⟩
        have HI:=Lib.hid (show w5.os = W.os∧w5.output = W.output from ⟨k5.os.trans HI.out.1,k5.output.trans HI.out.2⟩)
        clear k5
      case' neg =>
        have g2 : decide (frm < 4611686018427387904) = false:=decide_eq_false h2
        refine (follow_bad _ _ (fun z=>by unfold goodF at z; omega) _).mono ?_
        rintro e w5 ⟨rfl,hw'⟩
        obtain rfl:=hw'
      all_goals clear h2
    all_goals
      clear h1
      go_wp2_with fail
      refine (follow_m _ _).mono ?_
      rintro e w6 ⟨rfl,hw'⟩
      obtain rfl:=hw'
      go_wp2_with fail
      refine (fread_n _ _).mono ?_
      rintro e w7 ⟨rfl,hw'⟩
      obtain rfl:=hw'
      go_wp2_with fail
      refine (fnext_n _).mono ?_
      rintro e w9 ⟨rfl,hw9⟩
      have HI9:=Lib.hid (show w9.os = W.os∧w9.output = W.output from hw9 ▸ HI.out)
      clear hw9
      go_wp2
      have b0:=(Blk.new w9 40 #[.pointer none,.pointer none,.int .i64 0,.bool false,.int .i64 0]).alloc (.cells #[.pointer none,.pointer (some ⟨w9.heap.size,0,none⟩)] 29)
      have b1:=Blk.new (w9.alloc (.cells #[.pointer none,.pointer none,.int .i64 0,.bool false,.int .i64 0] 40)) 29 #[.pointer none,.pointer (some ⟨w9.heap.size,0,none⟩)]
      rw [World.size_alloc] at b1
      have hi2 : ((w9.alloc (.cells #[.pointer none,.pointer none,.int .i64 0,.bool false,.int .i64 0] 40)).alloc (.cells #[.pointer none,.pointer (some ⟨w9.heap.size,0,none⟩)] 29)).os = W.os∧((w9.alloc (.cells #[.pointer none,.pointer none,.int .i64 0,.bool false,.int .i64 0] 40)).alloc (.cells #[.pointer none,.pointer (some ⟨w9.heap.size,0,none⟩)] 29)).output = W.output:=HI9.out
      clear HI HI9
      generalize (w9.alloc (.cells #[.pointer none,.pointer none,.int .i64 0,.bool false,.int .i64 0] 40)).alloc (.cells #[.pointer none,.pointer (some ⟨w9.heap.size,0,none⟩)] 29) = wl at b0 b1 hi2 ⊢
      generalize w9.heap.size + 1 = lb at b1 ⊢
      generalize w9.heap.size = zb at b0 b1 ⊢
      have hz0 : wl.cell? ⟨zb,0,none⟩ = some (.pointer none):=b0.cell 0
      have hz3 : wl.cell? ⟨zb,3,none⟩ = some (.bool false):=b0.cell 3
      have hz4 : wl.cell? ⟨zb,4,none⟩ = some (.int .i64 0):=b0.cell 4
      have hl0 : wl.cell? ⟨lb,0,none⟩ = some (.pointer none):=b1.cell 0
      have hl1 : wl.cell? ⟨lb,1,none⟩ = some (.pointer (some ⟨zb,0,none⟩)):=b1.cell 1
      clear b0 b1
      have HL:=Lib.hid (And.intro (And.intro hz0 (And.intro hz3 hz4)) (And.intro hl0 hl1))
      have HI:=Lib.hid hi2
      clear hz0 hz3 hz4 hl0 hl1 hi2
      go_loopw [26] (fun i wr=>∃ j : Nat,j≤2∧i = .int .i64 j∧wr = wl) (fun i _=>2 - (intOf i).toNat)
      case atStart=>exact ⟨0,by omega,rfl,rfl⟩
      case round =>
        obtain ⟨j,hj,rfl,rfl⟩:=hrel
        by_cases hlt : j < 2
        · obtain ⟨p,hp,hc⟩ : ∃ p,ZrR wr p∧wr.cell? ⟨lb,0 + j,none⟩ = some (.pointer p):=by
            obtain ⟨⟨hz,h3,h4⟩,h0,h1⟩:=HL.out
            rcases (show j = 0∨j = 1 by omega) with rfl | rfl
            · exact ⟨none,.inl rfl,h0⟩
            · exact ⟨_,.inr ⟨_,rfl,hz,h3,h4⟩,h1⟩
          have HZ:=Lib.hid hp
          clear hp
          simp only [Nat.zero_add] at hc
          have hb0 : (0 : Int)≤j:=by omega
          have hb1 : (j : Int) < 2:=by omega
          go_wp2_with (first
            | (go_at_call 13; refine (join_z HZ.out).mono ?_; rintro e w' ⟨rfl,rfl⟩)
            | (go_at_call 14; refine (read_z _ HZ.out).mono ?_; rintro e w' ⟨rfl,rfl⟩)
            | (go_at_call 15; refine (skip_z HZ.out).mono ?_; rintro e w' ⟨rfl,rfl⟩)
            | (go_at_call 16; refine (lag_z HZ.out).mono ?_; rintro e w' ⟨rfl,rfl⟩)
            | (go_at_call 17; refine (leave_z HZ.out).mono ?_; rintro e w' ⟨rfl,rfl⟩)
            | (go_at_call 18; refine (joined_z HZ.out).mono ?_; rintro e w' ⟨rfl,rfl⟩)
            | (go_at_call 19; refine (next_z HZ.out).mono ?_; rintro e w' ⟨rfl,rfl⟩))
          go_roundw
          case rel=>exact ⟨j + 1,by omega,by go_num,trivial⟩
          case measure=>simp [intOf]; omega
        · go_wp2
          go_ret
          exact ⟨rfl,HI.out.1,HI.out.2⟩
end Go.Proofs.Ytlhbonnminlnlaa
namespace Go.Proofs.Ytlhbonnminlnlaa.readerNil
open Go.ChangeShapes Go.WideShapes Go.ChangeAt Go.RowKit Go.Turn
theorem own : ownKnob Try.prog.godebug = none:=by kernel_rfl
set_option maxRecDepth 100000 in
theorem lifted (os : Os) (started : os.Started) (H : Type) (enc : TypeId × Value→H) :
    ReturnsInLeavingWide {} Try.checked os 3 .any (Rows.readerNilSpec.pre6 enc Try.prog Try.f3 Rows.readerNilRow.domain false) (Rows.readerNilSpec.post enc Try.prog Try.f3 false true false false):=by
  refine returnsInLeavingWide_of_change_sized (C:=Try.checked) own started Try.func3
    (ChangeSpec.witness6 (enc:=enc) (C:=Try.checked) false ⟨#[],#[.int .i64 0,.int .i64 0],[]⟩ 8 (by kernel_rfl) (by kernel_rfl) (by kernel_rfl) (by kernel_rfl)) ?_
  intro W base args ds gs before hval0 hW _ _ _
  have hval : ∀ (j : Nat) t v,Try.f3.params[j]? = some t→args[j]? = some v→Value.okWide Try.prog W .any base t v:=hval0
  have hW':=hW
  obtain ⟨p,q,hA0,hV,rfl,hfz,hnd⟩:=hW
  have hA : DataW.TrodAll enc Try.prog W 0 (fun _=>true) true Try.f3.params.toList args.toList ds p:=hA0
  rw [Try.params3] at hA hval
  obtain ⟨v0,vs0,d0,ds0,p0,q0,hargs,rfl,rfl,h0,r0⟩:=trodAll_cons hA
  obtain ⟨v1,vs1,d1,ds1,p1,q1,rfl,rfl,rfl,h1,r1⟩:=trodAll_cons r0
  obtain ⟨rfl,rfl,rfl⟩:=trodAll_nil r1
  obtain rfl : args = #[v0,v1]:=by cases args; simp_all
  obtain ⟨rfl,rfl⟩:=trodVars_none hV
  obtain ⟨a0,rfl,rfl,rfl,w0⟩:=open_int Try.underlying3 (hval 0 3 v0 rfl rfl) h0
  obtain ⟨a1,rfl,rfl,rfl,w1⟩:=open_int Try.underlying2 (hval 1 2 v1 rfl rfl) h1
  simp only [List.append_nil] at hW'
  obtain ⟨M,last,o,w',t',r1,r2,r3,r4⟩:=run_good Try.tame (nil_true W a0 a1)
  refine ⟨M,last,o,w',t',r1,r2,r3,r4.mono fun v hF=>?_⟩
  have hb : Below W.heap.size W { w' with tape:=W.tape }:=⟨hF.os,rfl,hF.output,hF.size,hF.old⟩
  obtain rfl:=hF.val
  exact ⟨_,_,_,[],_,[],hW',trodAll_cons_mk (shut_bool Try.underlying4 _) trodAll_mk0,
    trodAll_cons_mk (shut_int Try.underlying3 w0) (trodAll_cons_mk (shut_int Try.underlying2 w1) trodAll_mk0),rfl,hF.frame _,fun h=>by cases h⟩
theorem over : Rows.readerNilRow.holds Try.pinned (OpenSpec.ofChange Rows.readerNilSpec):=
  OpenClaim.holds_of_wide_leaving 3 Try.f3 rfl rfl rfl rfl rfl rfl rfl ⟨rfl,rfl,rfl,rfl,rfl⟩ rfl rfl rfl rfl rfl (by kernel_rfl) Try.func3 (by kernel_rfl)
    (of_decide_eq_true (by kernel_rfl)) (by unfold Func.isWrapper; first | (rw [if_pos (by decide +kernel)]; kernel_rfl) | (rw [if_neg (by decide +kernel)]; exact ⟨rfl,rfl⟩))
    (fun os started H enc _=>lifted os started H enc)
theorem proved : Rows.ReaderNilSaid:=over
end Go.Proofs.Ytlhbonnminlnlaa.readerNil
