/-
  The claim MultiCalls: calls by themselves, with a Holder of the statement's own: answers, steps, stamps, values and the cursor are the document's: for every size, first sequence, readers and calls; no condition.
-/
import Derived.Test.YtoepekcheapgmaaGq
import Derived.Test.YtoepekcheapgmaaGn
import Derived.Test.YtoepekcheapgmaaGd
import Derived.Test.YtoepekcheapgmaaGh
import Derived.Test.YtoepekcheapgmaaGe
import Derived.OpenShut
import Derived.JoinedCond
import Derived.Carry
import Derived.Deep.Slices
import Derived.SizedLaws
import Derived.Conc.LeavingOf
set_option linter.unusedVariables false
set_option linter.unusedSectionVars false
set_option linter.unusedSimpArgs false
namespace Go.Proofs.Ytoepekcheapgmaa
open Go.RowKit Go.Turn Go.Tame Go.Conc
theorem kpt_cellM {W w w' : World} (h : Kpt W w w') : ∀ b o v,b < W.heap.size→w.cell? ⟨b,o,none⟩ = some v→w'.cell? ⟨b,o,none⟩ = some v:=fun b o v hb hc=>by
  cases ho : w.heap[b]? with
  | none=>unfold World.cell? at hc; simp [ho] at hc
  | some x =>
    cases x with
    | cells cs t r=>exact (World.cell?_of_block (w:=w) (a:=⟨b,o,none⟩) ((h.near b cs t r (.inl hb) ho).trans ho.symm)).trans hc
    | _=>unfold World.cell? at hc; simp [ho] at hc
theorem docInts {M : McP} {S : MulS} {u : Who13} {cn : Option (Nat × Nat)} {ri : Nat→Option Row} {w : World} (h : Mems M.B (M.R S u cn ri) w) {r : Rn13} {g cap : Nat} {f : Nat→Int} (hr : M.R S u cn ri r = some ⟨2,1,.slice (some ⟨g,0,none⟩) M.P.n cap,M.P.n,fun j=>.int .i64 (f j)⟩) : IntsAt w (.slice (some ⟨g,0,none⟩) M.P.n cap) (rowN f M.I.n):=by
  refine ⟨_,cap,by rw [rowN_len,M.n_],fun i hi=>⟨g,0,rfl,?_⟩⟩
  rw [rowN_len] at hi
  have hc:=h.cell hr (j:=i) (by rw [M.n_]; omega)
  refine ⟨lt_of_cell hc,?_⟩
  rw [Nat.zero_add,hc]
  simp [rowN,hi]
theorem cell_step_noneM : Stepper.none.Steps Try.prog 79:=fun k w _=>by
  show Calls _ _ #[.nilIface] _ _
  go_enter Try.func79,Try.ntmps79
  go_wp2
  go_end0
  exact ⟨rfl,trivial,Kept.refl _ _,rfl⟩
set_option maxHeartbeats 4000000 in
set_option maxRecDepth 100000 in
theorem mcalls_true (W : World) (size fs : Int) (hs0 : -9223372036854775808≤size) (hs1 : size < 9223372036854775808) (rd : Int) (hr0 : 0≤rd) (hr1 : rd < 256) (A : Option Addr) (len cap : Nat) (cs : List CallI) (hcl : cs.length = len) (hl : len≤cap) (hc : cap≤maxLen) (hop : CallsAt W.heap.size A cs W) :
    (lgA Try.tame (PostT (.bool true) W) W).T () (Frame.enter Try.prog 6 #[.int .i64 size,.int .i64 fs,.int .u8 rd,.slice A len cap] .normal) [] (seen0 W):=by
  have hop0 : CallsAt W.heap.size A cs (seen0 W):=hop.keep fun b o v _ h=>by rw [seen0_cell]; exact h
  have hs : ¬ (lgA Try.tame (PostT (.bool true) W) W).strict:=fun h=>h
  have hsz : (seen0 W).heap.size = W.heap.size:=seen0_size W
  have hio : (seen0 W).os = W.os∧(seen0 W).output = W.output:=seen0_io W
  clear hop
  generalize seen0 W = x at hop0 hsz hio ⊢
  rw [show Frame.enter Try.prog 6 #[.int .i64 size,.int .i64 fs,.int .u8 rd,.slice A len cap] .normal = Frame.at { (default : Frame) with fn:=6,kind:=.normal } ⟨#[.int .i64 size,.int .i64 fs,.int .u8 rd,.slice A len cap] ++ Array.replicate (Try.f6.ntmps - 4) undef,[]⟩ [.code (Try.f6.body.getD .skip)] from by simp [Frame.enter,Frame.at,Try.func6]; rfl]
  simp only [Try.f6,Option.getD_some,Nat.reduceSub,Array.replicate_succ,Array.replicate_zero,List.push_toArray,List.append_toArray,List.nil_append,List.cons_append]
  refine Lg.move _ (fun _ _=>step_seq) (fun h=>h) ?_
  refine Lg.code fun K hK y τ n' hy=>?_
  subst hy
  go_wp2
  refine hK _ _ (fun h=>absurd h hs) ?_
  clear hK K
  have hop1 : CallsAt W.heap.size A cs y:=hop0.keep fun b o v _ h=>h
  have hsz : y.heap.size = W.heap.size:=hsz
  have hio : y.os = W.os∧y.output = W.output:=hio
  clear hop0
  refine Lg.move _ (fun _ _=>step_seq) (fun h=>h) ?_
  refine Lg.move _ (fun _ _=>step_seq) (fun h=>h) ?_
  refine Lg.move _ (fun _ _=>step_region) (fun h=>h) ?_
  refine Lg.call (i:=0) (rest:=[1]) (f:=8) (args:=#[]) rfl rfl (fun y=>by go_simp) (awake_true Try.tame (PostT (.bool true) W) W y (by omega)) ?_
  rintro vv t' w1 ⟨rfl,hk⟩
  have hop2 : CallsAt W.heap.size A cs w1:=hop1.keep (kpt_cellM hk)
  have hio2 : w1.os = W.os∧w1.output = W.output:=⟨hk.io.1.trans hio.1,hk.io.2.trans hio.2⟩
  have hsz2 : W.heap.size≤w1.heap.size:=by have:=hk.size; omega
  clear hop1 hk hio hsz
  rw [Frame.finish_at]
  walk_nrm
  refine (show (lgA Try.tame (PostT (.bool true) W) W).T _ (Frame.at _ ⟨_,[]⟩ (.inRegion _ (List.range' 1 (1 + 0)) :: _)) [] w1 from ?_)
  refine Lg.pre 1 1 0 (by simp) fun K hK q τ n' hq=>?_
  subst hq
  simp only [List.drop_succ_cons,List.drop_zero,List.take_succ_cons,List.take_zero]
  go_wp2
  refine hK _ _ (fun h=>absurd h hs) ?_
  clear hK K
  have hop3 : CallsAt W.heap.size A cs q:=hop2.keep fun b o v _ h=>h
  have hio3 : q.os = W.os∧q.output = W.output:=hio2
  have hsz3 : W.heap.size≤q.heap.size:=hsz2
  clear hop2 hio2 hsz2
  refine Lg.move _ (fun _ _=>step_region_end) (fun h=>h) ?_
  refine Lg.move _ (fun _ _=>step_cond (t:=false) rfl) (fun h=>h) ?_
  refine Lg.move _ (fun _ _=>step_skip) (fun h=>h) ?_
  refine lgA_rest Try.tame rfl Try.func6 (by kernel_rfl) (fun tm w v h w'=>?_) fun u τ2 n2 hu=>?_
  · simp [results,Try.f6] at h ⊢
    exact h
  subst hu
  have hop4 : CallsAt W.heap.size A cs u:=hop3.keep fun b o v _ h=>h
  have hio4 : u.os = W.os∧u.output = W.output:=hio3
  have hsz4 : W.heap.size≤u.heap.size:=hsz3
  clear hop3 hio3 hsz3
  have HO:=Lib.hid hop4
  have HI:=Lib.hid hio4
  have HZ:=Lib.hid hsz4
  have HCL:=Lib.hid hcl
  clear hop4 hio4 hsz4 hcl
  by_cases hF : FitsM size fs
  · obtain ⟨n,rfl⟩ : ∃ n : Nat,size = n:=⟨size.toNat,by have:=hF.1.1; omega⟩
    have HFT:=Lib.hid (fun w=>fits_ok (n : Int) fs w hs0)
    have hd : decide (FitsM (n : Int) fs) = true:=decide_eq_true hF
    rw [hd] at HFT
    obtain ⟨⟨hn0,hn2,hn3⟩,hf0,hf1⟩:=hF
    have hn0 : 0 < n:=by omega
    have hn2 : n≤65536:=by omega
    have HN3:=Lib.hid hn3
    clear hn3 hd hs0 hs1
    go_wp2_with fail
    refine (multi_newF n fs u hn0 hn2 HN3.out hf0 hf1).mono ?_
    rintro e w2 ⟨rfl,R1,N0,N1,B2,B3,B4,B5,Z1⟩
    obtain ⟨I,hI⟩ : ∃ I : MIds,I = ⟨u.heap.size + 4,u.heap.size + 1,u.heap.size,u.heap.size + 2,u.heap.size + 3,n,fs⟩:=⟨_,rfl⟩
    have hIm : u.heap.size + 4 = I.mb∧I.n = n∧I.first = fs:=by rw [hI]; exact ⟨rfl,rfl,rfl⟩
    have hlo : (I.mb < w2.heap.size∧I.rb < w2.heap.size∧I.gb < w2.heap.size∧I.cb < w2.heap.size∧I.eb < w2.heap.size)∧(W.heap.size≤I.mb∧W.heap.size≤I.rb∧W.heap.size≤I.gb∧W.heap.size≤I.cb∧W.heap.size≤I.eb∧W.heap.size≤w2.heap.size):=by
      have:=HZ.out
      rw [hI]
      exact ⟨⟨by show u.heap.size + 4 < _; omega,by show u.heap.size + 1 < _; omega,by show u.heap.size < _; omega,by show u.heap.size + 2 < _; omega,by show u.heap.size + 3 < _; omega⟩,by show _≤u.heap.size + 4; omega,by show _≤u.heap.size + 1; omega,by show _≤u.heap.size; omega,by show _≤u.heap.size + 2; omega,by show _≤u.heap.size + 3; omega,by omega⟩
    have m0 : MulX I (s13 fs) (fun _=>False) w2:=by
      rw [hI]
      refine ⟨B4,R1,B2,B3,?_,?_,?_,fun b z=>z.elim,hf0,hf1,by show -1≤fs - 1; omega,by show fs - 1 < _; omega⟩
      · exact ⟨by show u.heap.size≠u.heap.size + 4; omega,by show u.heap.size≠u.heap.size + 2; omega,by show u.heap.size≠u.heap.size + 3; omega⟩
      · exact ⟨by show u.heap.size + 2≠u.heap.size + 4; omega,by show u.heap.size + 2≠u.heap.size + 3; omega,by show u.heap.size + 2≠u.heap.size + 1; omega⟩
      · exact ⟨by show u.heap.size + 3≠u.heap.size + 4; omega,by show u.heap.size + 3≠u.heap.size + 1; omega⟩
    have b0 : w2.cell? ⟨I.mb,0,none⟩ = some (.pointer (some ⟨I.rb,0,none⟩)):=m0.mul.cell 0
    have r0 : w2.cell? ⟨I.rb,0,none⟩ = some (.slice (some ⟨I.gb,0,none⟩) n n):=by have:=m0.ring.ring; rw [hIm.2.1] at this; exact this
    rw [hIm.1]
    have H2:=Lib.hid (And.intro m0 (And.intro hlo (And.intro (HO.out.below (B5.mono HZ.out)) (And.intro (B5.os.trans HI.out.1) (B5.output.trans HI.out.2)))))
    have HIM:=Lib.hid hIm.2
    clear m0 hlo R1 N0 N1 B2 B3 B4 B5 Z1 hIm hI HO HI HZ
    go_wp2_with (first | (go_at_call 22; refine (HFT.out _).mono ?_; rintro e w' ⟨rfl,hw'⟩; subst hw') | (go_at_call 23; refine (multi_sizeM _ _ _ _ _ _ b0 r0).mono ?_; rintro e w' ⟨rfl,hw'⟩; subst hw') | (go_at_call 24; refine (ringM_ok _ _ _ b0).mono ?_; rintro e w' ⟨rfl,hw'⟩; subst hw') | (go_at_call 25; refine (new13_ok w2 n hn0 hn2 hf0 hf1).mono ?_; rintro e w3 ⟨rfl,⟨sb,sc,vb,vc,hm3⟩,hb3⟩; have H3:=Lib.hid (And.intro hm3 hb3); clear hm3 hb3 b0 r0))
    have hBs : w2.heap.size≤w3.heap.size:=H3.out.2.size
    have hm5:=mems_world H3.out.1 hBs
    have hb5 : Below w2.heap.size w2 (((w3.alloc (.cells #[.bool false,.slice none 0 0,.int .i64 0,.slice none 0 0] 62)).alloc (.cells #[.pointer (some ⟨w2.heap.size,0,none⟩),.pointer (some ⟨w3.heap.size,0,none⟩)] 64)).alloc (.cells #[.slice none 0 0] 67)):=((H3.out.2.alloc hBs _).alloc (by rw [World.size_alloc]; omega) _).alloc (by rw [World.size_alloc,World.size_alloc]; omega) _
    have HM5:=Lib.hid (And.intro hm5 hb5)
    clear hm5 hb5
    dsimp only at HM5
    obtain ⟨hb,hhb⟩ : ∃ hb,hb = w3.heap.size + 1 + 1:=⟨_,rfl⟩
    rw [show w3.heap.size + 2 = hb by omega] at HM5
    rw [← hhb]
    obtain ⟨xb,hxb⟩ : ∃ xb,xb = w3.heap.size + 1:=⟨_,rfl⟩
    rw [← hxb] at HM5 ⊢
    obtain ⟨B,hB⟩ : ∃ B,B = w2.heap.size:=⟨_,rfl⟩
    rw [← hB] at HM5 H2 hBs ⊢
    obtain ⟨P,hP⟩ : ∃ P : Pl13,P = ⟨B,w3.heap.size,0,0,0,0,sb,sc,vb,vc,n,fs⟩:=⟨_,rfl⟩
    have hPf : P.mb = B∧P.wb = w3.heap.size∧P.n = n∧P.fs = fs:=by rw [hP]; exact ⟨rfl,rfl,rfl,rfl⟩
    rw [← hP] at HM5
    rw [← hPf.2.1] at HM5 ⊢
    have HPF:=Lib.hid hPf
    clear hP hPf hhb hxb hB hBs H3
    generalize World.alloc _ _ = w5 at *
    obtain ⟨k,hk⟩ : ∃ k : Nat,rd % 5 = k:=⟨(rd % 5).toNat,by omega⟩
    have hk4 : k≤4:=by omega
    have hkm : Int.tmod rd 5 = k:=by rw [Int.tmod_eq_emod_of_nonneg hr0,hk]
    clear hk
    go_loopw [13] (fun i wr=>∃ (j : Nat) (vI vN vH : Value),j≤k∧i = .int .i64 j∧Mems B (bR P (s13 fs) xb hb vI vN vH ((List.range j).map Int.ofNat) (List.replicate j (fs - 1)) (List.replicate j (fs - 1))) wr∧Below B w2 wr) (fun i _=>k - (intOf i).toNat)
    case atStart=>exact ⟨0,_,_,_,Nat.zero_le _,rfl,HM5.out.1,HM5.out.2⟩
    case round =>
      obtain ⟨j,vI,vN,vH,hj,rfl,hm,hbb⟩:=hrel
      have HM:=Lib.hid (And.intro hm hbb)
      clear hm hbb
      by_cases hlt : j < k
      · obtain ⟨i0,hi0,hz0,hz1,hz2⟩:=info_parts Try.info64b
        obtain ⟨i1,hi1,hy0,hy1,hy2⟩:=info_parts Try.infoint13
        have hBw : B≤wr.heap.size:=by
          have:=(HM.out.1.lt (r:=.X 1) (d:=boxRow 67 hb vH) rfl (b:=hb) rfl)
          omega
        have hq : wr.ownsRow B 2 1 vH (List.replicate j (fs - 1)).length ((List.replicate j (fs - 1)).map (.int .i64)):=numsRow_own.1 (HM.out.1.at_ (r:=.X 2) (d:=numsRow 2 vH (List.replicate j (fs - 1))) rfl)
        have d0 : wr.cell? ⟨hb,0,none⟩ = some vH:=HM.out.1.cell (r:=.X 1) (e:=67) (sz:=1) (g:=hb) (cap:=1) (n:=1) (f:=fun _=>vH) rfl (j:=0) (by omega)
        rw [List.length_replicate] at hq
        obtain ⟨A2,cA2,rfl⟩:=own_slice hq
        have HQ2:=Lib.hid hq
        have hj4 : j≤4:=by omega
        clear hq
        refine wp_cut fun K hK=>?_
        go_wp2
        refine hK.out _ _ ?_
        clear hK K
        refine wp_cut fun K2 hK2=>?_
        refine wp_block ?_
        refine wp_cut fun K hK=>?_
        go_wp2_with (at_builtin; refine wpList_append_lies _ rfl _ _ 22 rfl B 2 i0 (.int .i64 0) 1 8 Try.underlying22 hi0 hz0 hz1 hz2 rfl (by decide) (.slice A2 j cA2) j _ rfl (HQ2.out.alloc _) ⟨wr.heap.size,0,none⟩ 1 1 [.int .i64 (fs - 1)] rfl rfl (World.news_of_block (cs:=#[.int .i64 (fs - 1)]) (t:=2) (fr:=(0,0)) (Blk.new wr 2 #[.int .i64 (fs - 1)])) (by simp [Value.oneCell']) (by omega) (by unfold maxLen; omega) (by omega) (by simp; omega) (wr.heap.size + 1) (by simp) ?_)
        intro gg2 cap2 y2 hown hgrow hgat hgl
        obtain ⟨e2,z2,hm⟩:=appX (x:=fs - 1) (v':=.slice (some ⟨gg2,0,none⟩) (j + 1) cap2) (HM.out.1.alloc (.cells #[.int .i64 (fs - 1)] 2)) (by rw [List.length_replicate,List.map_replicate]; exact hown) hgrow (by
          rcases hgat with z | z
          · exact .inl z.symm
          · right; simp [Value.ownBlock,z])
        have hgB : ∀ b,(Value.slice A2 j cA2).ownBlock = some b→B≤b:=fun b hb=>(HQ2.out.lt b hb).1
        have hb3:=((HM.out.2.alloc hBw (.cells #[.int .i64 (fs - 1)] 2)).grown hgrow (by simp; omega) hgB).setCell (p:=⟨hb,0,none⟩) (HM.out.1.lt (r:=.X 1) (d:=boxRow 67 hb (.slice A2 j cA2)) rfl (b:=hb) rfl).1 (.slice (some ⟨gg2,0,none⟩) (j + 1) cap2)
        rw [show List.replicate j (fs - 1) ++ [fs - 1] = List.replicate (j + 1) (fs - 1) from (List.replicate_succ' ..).symm] at hm
        clear HM
        have HM:=Lib.hid (And.intro hm hb3)
        clear hm hb3 hown hgrow hgat hgB HQ2 d0
        go_wp2
        refine hK.out _ _ ?_
        clear hK K e2 z2 hgl hBw
        generalize World.setCell _ _ _ = wr2 at *
        have hqI : wr2.ownsRow B 3 1 vI ((List.range j).map Int.ofNat).length (((List.range j).map Int.ofNat).map (.int .i64)):=numsRow_own.1 (HM.out.1.at_ (r:=.I) (d:=numsRow 3 vI ((List.range j).map Int.ofNat)) rfl)
        rw [show ((List.range j).map Int.ofNat).length = j by simp] at hqI
        obtain ⟨AI,cI,rfl⟩:=own_slice hqI
        have HQI:=Lib.hid hqI
        clear hqI
        refine wp_cut fun K hK=>?_
        refine wp_region_lastR (S:=fun w'=>w'.cell? ⟨xb,1,none⟩ = some (.pointer (some ⟨P.wb,0,none⟩))∧w'.cell? ⟨P.wb,1,none⟩ = some (.slice AI j cI)) 16 (by kernel_rfl) (by kernel_rfl) (by kernel_rfl) ?_
        simp only [idle,List.modify_toArray,List.modify_succ_cons,List.modify_zero_cons,List.size_toArray,List.length_cons,List.length_nil,Nat.reduceAdd]
        have hmd : Mems B _ wr2.drew∧Below B w2 wr2.drew:=⟨HM.out.1.drewN 1,HM.out.2.trans (Below.drewN (Below.refl B _) 1)⟩
        have hqd : wr2.drew.ownsRow B 3 1 (.slice AI j cI) j (((List.range j).map Int.ofNat).map (.int .i64)):=HQI.out
        clear HM HQI
        generalize World.drew wr2 = wd at hmd hqd ⊢
        have HM:=Lib.hid hmd
        have HQI:=Lib.hid hqd
        have hBd : B≤wd.heap.size:=by have:=(hmd.1.lt (r:=.X 1) (d:=boxRow 67 hb _) rfl (b:=hb) rfl); omega
        have hS0 : wd.cell? ⟨xb,1,none⟩ = some (.pointer (some ⟨P.wb,0,none⟩))∧wd.cell? ⟨P.wb,1,none⟩ = some (.slice AI j cI):=⟨xcell hmd.1 (fun _=>rfl) rfl 1 (by omega),wcell (u:=bU (.slice AI j cI) vN _ _) hmd.1 1 (by omega)⟩
        have HS:=Lib.hid hS0
        clear hmd hqd hS0
        refine rdL 0 16 77 ?_
        refine ⟨_,rfl,rfl,by kernel_rfl,by kernel_rfl,by kernel_rfl,(fun c a w h=>h),rfl,HS.out,?_⟩
        apply Exists.intro
        refine ⟨fun wq hw=>?_,?_⟩
        · obtain ⟨hw1,hw2⟩:=hw
          go_simp
          rfl
        simp only [Act.put,List.setIfInBounds_toArray,List.set_cons_zero,List.set_cons_succ]
        refine rdL 1 15 78 ?_
        refine ⟨_,rfl,rfl,by kernel_rfl,by kernel_rfl,by kernel_rfl,(fun c a w h=>h),rfl,HS.out,?_⟩
        apply Exists.intro
        refine ⟨fun wq hw=>?_,?_⟩
        · obtain ⟨hw1,hw2⟩:=hw
          go_simp
          rfl
        simp only [Act.put,List.setIfInBounds_toArray,List.set_cons_zero,List.set_cons_succ]
        refine rdL 2 14 79 ?_
        refine ⟨_,rfl,rfl,by kernel_rfl,by kernel_rfl,by kernel_rfl,(fun c a w h=>h),rfl,HS.out,?_⟩
        apply Exists.intro
        refine ⟨fun wq hw=>?_,?_⟩
        · obtain ⟨hw1,hw2⟩:=hw
          go_simp
          rfl
        simp only [Act.put,List.setIfInBounds_toArray,List.set_cons_zero,List.set_cons_succ]
        refine rdL 3 13 80 ?_
        refine ⟨_,rfl,rfl,by kernel_rfl,by kernel_rfl,by kernel_rfl,(fun c a w h=>h),rfl,HS.out,?_⟩
        apply Exists.intro
        refine ⟨fun wq hw=>?_,?_⟩
        · obtain ⟨hw1,hw2⟩:=hw
          go_simp
          rfl
        simp only [Act.put,List.setIfInBounds_toArray,List.set_cons_zero,List.set_cons_succ]
        refine rdL 4 12 81 ?_
        refine ⟨_,rfl,rfl,by kernel_rfl,by kernel_rfl,by kernel_rfl,(fun c a w h=>h),rfl,HS.out,?_⟩
        apply Exists.intro
        refine ⟨fun wq hw=>?_,?_⟩
        · obtain ⟨hw1,hw2⟩:=hw
          go_simp
          rfl
        simp only [Act.put,List.setIfInBounds_toArray,List.set_cons_zero,List.set_cons_succ]
        refine rdL 5 11 82 ?_
        refine ⟨_,rfl,rfl,by kernel_rfl,by kernel_rfl,by kernel_rfl,(fun c a w h=>h),rfl,HS.out,?_⟩
        apply Exists.intro
        refine ⟨fun wq hw=>?_,?_⟩
        · obtain ⟨hw1,hw2⟩:=hw
          go_simp
          rfl
        simp only [Act.put,List.setIfInBounds_toArray,List.set_cons_zero,List.set_cons_succ]
        refine rdL 6 10 83 ?_
        refine ⟨_,rfl,rfl,by kernel_rfl,by kernel_rfl,by kernel_rfl,(fun c a w h=>h),rfl,HS.out,?_⟩
        apply Exists.intro
        refine ⟨fun wq hw=>?_,?_⟩
        · obtain ⟨hw1,hw2⟩:=hw
          go_simp
          rfl
        simp only [Act.put,List.setIfInBounds_toArray,List.set_cons_zero,List.set_cons_succ]
        refine rdL 7 9 84 ?_
        refine ⟨_,rfl,rfl,by kernel_rfl,by kernel_rfl,by kernel_rfl,(fun c a w h=>h),rfl,HS.out,?_⟩
        apply Exists.intro
        refine ⟨fun wq hw=>?_,?_⟩
        · obtain ⟨hw1,hw2⟩:=hw
          go_simp
          rfl
        simp only [Act.put,List.setIfInBounds_toArray,List.set_cons_zero,List.set_cons_succ]
        refine rdL 8 8 85 ?_
        refine ⟨_,rfl,rfl,by kernel_rfl,by kernel_rfl,by kernel_rfl,(fun c a w h=>h),rfl,HS.out,?_⟩
        apply Exists.intro
        refine ⟨fun wq hw=>?_,?_⟩
        · obtain ⟨hw1,hw2⟩:=hw
          go_simp
          rfl
        simp only [Act.put,List.setIfInBounds_toArray,List.set_cons_zero,List.set_cons_succ]
        refine rdL 9 7 86 ?_
        refine ⟨_,rfl,rfl,by kernel_rfl,by kernel_rfl,by kernel_rfl,(fun c a w h=>h),rfl,HS.out,?_⟩
        apply Exists.intro
        refine ⟨fun wq hw=>?_,?_⟩
        · obtain ⟨hw1,hw2⟩:=hw
          go_simp
          rfl
        simp only [Act.put,List.setIfInBounds_toArray,List.set_cons_zero,List.set_cons_succ]
        refine rdL 10 6 87 ?_
        refine ⟨_,rfl,rfl,by kernel_rfl,by kernel_rfl,by kernel_rfl,(fun c a w h=>h),rfl,HS.out,?_⟩
        apply Exists.intro
        refine ⟨fun wq hw=>?_,?_⟩
        · obtain ⟨hw1,hw2⟩:=hw
          go_simp
          rfl
        simp only [Act.put,List.setIfInBounds_toArray,List.set_cons_zero,List.set_cons_succ]
        refine rdL 11 5 88 ?_
        refine ⟨_,rfl,rfl,by kernel_rfl,by kernel_rfl,by kernel_rfl,(fun c a w h=>h),rfl,HS.out,?_⟩
        apply Exists.intro
        refine ⟨fun wq hw=>?_,?_⟩
        · obtain ⟨hw1,hw2⟩:=hw
          go_simp
          rfl
        simp only [Act.put,List.setIfInBounds_toArray,List.set_cons_zero,List.set_cons_succ]
        refine oneL (i:=12) (fuel:=4) (by kernel_rfl) rfl rfl fun K' hK'=>?_
        unfold Oper.wp
        go_simp
        have hSa : (wd.alloc (.cells #[.int .i64 (j : Int)] 3)).cell? ⟨xb,1,none⟩ = some (.pointer (some ⟨P.wb,0,none⟩))∧(wd.alloc (.cells #[.int .i64 (j : Int)] 3)).cell? ⟨P.wb,1,none⟩ = some (.slice AI j cI):=⟨(World.cell?_of_block (w:=wd) (a:=⟨xb,1,none⟩) (Below.heap_alloc _ _ _ (lt_of_cell HS.out.1))).trans HS.out.1,(World.cell?_of_block (w:=wd) (a:=⟨P.wb,1,none⟩) (Below.heap_alloc _ _ _ (lt_of_cell HS.out.2))).trans HS.out.2⟩
        refine hK' _ _ hSa ?_
        clear hK' K' HS hSa
        try simp only [Act.put,List.setIfInBounds_toArray,List.set_cons_zero,List.set_cons_succ]
        refine oneL (i:=13) (fuel:=3) (by kernel_rfl) rfl rfl fun K' hK'=>?_
        refine wp_append_lies (P:=Try.prog) (wd.alloc (.cells #[.int .i64 (j : Int)] 3)) (.tmp 87) (.tmp 89) 24 rfl B 3 i1 (.int .i64 0) 1 8 Try.underlying24 hi1 hy0 hy1 hy2 rfl (by decide) (.slice AI j cI) j _ rfl (HQI.out.alloc _) ⟨wd.heap.size,0,none⟩ 1 1 [.int .i64 (j : Int)] rfl rfl (World.news_of_block (cs:=#[.int .i64 (j : Int)]) (t:=3) (fr:=(0,0)) (Blk.new wd 3 #[.int .i64 (j : Int)])) (by simp [Value.oneCell']) (by omega) (by unfold maxLen; omega) (by omega) (by simp; omega) (wd.heap.size + 1) (by simp) ?_
        intro gg cap2 yw hown hgrow hgat hgl
        obtain ⟨hwc,hxc,hfz,hmn⟩:=appI (x:=(j : Int)) (v':=.slice (some ⟨gg,0,none⟩) (j + 1) cap2) (HM.out.1.alloc (.cells #[.int .i64 (j : Int)] 3)) (by rw [show ((List.range j).map Int.ofNat).length = j by simp]; exact hown) hgrow (by
          rcases hgat with z | z
          · exact .inl z.symm
          · right; simp [Value.ownBlock,z])
        have hgB : ∀ b,(Value.slice AI j cI).ownBlock = some b→B≤b:=fun b hb=>(HQI.out.lt b hb).1
        have hbn:=((HM.out.2.alloc hBd (.cells #[.int .i64 (j : Int)] 3)).grown hgrow (by simp; omega) hgB).setCell (p:=⟨P.wb,1,none⟩) (HM.out.1.lt (r:=.W) rfl (b:=P.wb) rfl).1 (.slice (some ⟨gg,0,none⟩) (j + 1) cap2)
        have hw1:=hwc 1 (by omega)
        simp only [wF] at hw1
        have HS:=Lib.hid (And.intro hxc hw1)
        have hold:=hw1
        refine hK' _ _ HS.out ?_
        clear hK' K' HM HQI hown hgrow hgat hgl hgB hwc hBd
        have HMN:=Lib.hid (And.intro hmn hbn)
        clear hmn hbn
        try simp only [Act.put,List.setIfInBounds_toArray,List.set_cons_zero,List.set_cons_succ]
        refine oneL (i:=14) (fuel:=2) (by kernel_rfl) rfl rfl fun K' hK'=>?_
        unfold Oper.wp
        go_simp
        refine hK' _ _ HS.out ?_
        clear hK' K'
        try simp only [Act.put,List.setIfInBounds_toArray,List.set_cons_zero,List.set_cons_succ]
        refine oneL (i:=15) (fuel:=1) (by kernel_rfl) rfl rfl fun K' hK'=>?_
        unfold Oper.wp
        go_simp
        refine hK' _ _ HS.out ?_
        clear hK' K'
        try simp only [Act.put,List.setIfInBounds_toArray,List.set_cons_zero,List.set_cons_succ]
        refine oneL (i:=16) (fuel:=0) (by kernel_rfl) rfl rfl fun K' hK'=>?_
        unfold Oper.wp
        go_simp
        refine hK' _ _ HS.out ?_
        clear hK' K'
        try simp only [Act.put,List.setIfInBounds_toArray,List.set_cons_zero,List.set_cons_succ]
        refine wpAnyH_done (by kernel_rfl) ?_ _
        simp only [Exit.then]
        refine wpOps_list (m:=16) rfl ?_
        go_wp2
        refine hK.out _ _ ?_
        clear hK K hold hw1 hfz HS hxc
        have hmn:=HMN.out
        rw [show (List.range j).map Int.ofNat ++ [(j : Int)] = (List.range (j + 1)).map Int.ofNat by rw [List.range_succ,List.map_append]; rfl] at hmn
        have HM:=Lib.hid hmn
        clear hmn HMN
        generalize World.setCell _ _ _ = wr3 at *
        have hqN : wr3.ownsRow B 2 1 vN (List.replicate j (fs - 1)).length ((List.replicate j (fs - 1)).map (.int .i64)):=numsRow_own.1 (HM.out.1.at_ (r:=.N) (d:=numsRow 2 vN (List.replicate j (fs - 1))) rfl)
        rw [List.length_replicate] at hqN
        obtain ⟨AN,cN,rfl⟩:=own_slice hqN
        have HQN:=Lib.hid hqN
        clear hqN
        refine wp_region_lastR (S:=fun w'=>w'.cell? ⟨xb,1,none⟩ = some (.pointer (some ⟨P.wb,0,none⟩))∧w'.cell? ⟨P.wb,3,none⟩ = some (.slice AN j cN)) 17 (by kernel_rfl) (by kernel_rfl) (by kernel_rfl) ?_
        simp only [idle,List.modify_toArray,List.modify_succ_cons,List.modify_zero_cons,List.size_toArray,List.length_cons,List.length_nil,Nat.reduceAdd]
        have hmd : Mems B _ wr3.drew∧Below B w2 wr3.drew:=⟨HM.out.1.drewN 1,HM.out.2.trans (Below.drewN (Below.refl B _) 1)⟩
        have hqd : wr3.drew.ownsRow B 2 1 (.slice AN j cN) j ((List.replicate j (fs - 1)).map (.int .i64)):=HQN.out
        clear HM HQN
        generalize World.drew wr3 = wd at hmd hqd ⊢
        have HM:=Lib.hid hmd
        have HQN:=Lib.hid hqd
        have hBd : B≤wd.heap.size:=by have:=(hmd.1.lt (r:=.X 1) (d:=boxRow 67 hb _) rfl (b:=hb) rfl); omega
        have hS0 : wd.cell? ⟨xb,1,none⟩ = some (.pointer (some ⟨P.wb,0,none⟩))∧wd.cell? ⟨P.wb,3,none⟩ = some (.slice AN j cN):=⟨xcell hmd.1 (fun _=>rfl) rfl 1 (by omega),wcell (u:=bU _ (.slice AN j cN) _ _) hmd.1 3 (by omega)⟩
        have HS:=Lib.hid hS0
        clear hmd hqd hS0
        refine rdL 0 17 93 ?_
        refine ⟨_,rfl,rfl,by kernel_rfl,by kernel_rfl,by kernel_rfl,(fun c a w h=>h),rfl,HS.out,?_⟩
        apply Exists.intro
        refine ⟨fun wq hw=>?_,?_⟩
        · obtain ⟨hw1,hw2⟩:=hw
          go_simp
          rfl
        simp only [Act.put,List.setIfInBounds_toArray,List.set_cons_zero,List.set_cons_succ]
        refine rdL 1 16 94 ?_
        refine ⟨_,rfl,rfl,by kernel_rfl,by kernel_rfl,by kernel_rfl,(fun c a w h=>h),rfl,HS.out,?_⟩
        apply Exists.intro
        refine ⟨fun wq hw=>?_,?_⟩
        · obtain ⟨hw1,hw2⟩:=hw
          go_simp
          rfl
        simp only [Act.put,List.setIfInBounds_toArray,List.set_cons_zero,List.set_cons_succ]
        refine rdL 2 15 95 ?_
        refine ⟨_,rfl,rfl,by kernel_rfl,by kernel_rfl,by kernel_rfl,(fun c a w h=>h),rfl,HS.out,?_⟩
        apply Exists.intro
        refine ⟨fun wq hw=>?_,?_⟩
        · obtain ⟨hw1,hw2⟩:=hw
          go_simp
          rfl
        simp only [Act.put,List.setIfInBounds_toArray,List.set_cons_zero,List.set_cons_succ]
        refine rdL 3 14 96 ?_
        refine ⟨_,rfl,rfl,by kernel_rfl,by kernel_rfl,by kernel_rfl,(fun c a w h=>h),rfl,HS.out,?_⟩
        apply Exists.intro
        refine ⟨fun wq hw=>?_,?_⟩
        · obtain ⟨hw1,hw2⟩:=hw
          go_simp
          rfl
        simp only [Act.put,List.setIfInBounds_toArray,List.set_cons_zero,List.set_cons_succ]
        refine rdL 4 13 97 ?_
        refine ⟨_,rfl,rfl,by kernel_rfl,by kernel_rfl,by kernel_rfl,(fun c a w h=>h),rfl,HS.out,?_⟩
        apply Exists.intro
        refine ⟨fun wq hw=>?_,?_⟩
        · obtain ⟨hw1,hw2⟩:=hw
          go_simp
          rfl
        simp only [Act.put,List.setIfInBounds_toArray,List.set_cons_zero,List.set_cons_succ]
        refine rdL 5 12 98 ?_
        refine ⟨_,rfl,rfl,by kernel_rfl,by kernel_rfl,by kernel_rfl,(fun c a w h=>h),rfl,HS.out,?_⟩
        apply Exists.intro
        refine ⟨fun wq hw=>?_,?_⟩
        · obtain ⟨hw1,hw2⟩:=hw
          go_simp
          rfl
        simp only [Act.put,List.setIfInBounds_toArray,List.set_cons_zero,List.set_cons_succ]
        refine rdL 6 11 99 ?_
        refine ⟨_,rfl,rfl,by kernel_rfl,by kernel_rfl,by kernel_rfl,(fun c a w h=>h),rfl,HS.out,?_⟩
        apply Exists.intro
        refine ⟨fun wq hw=>?_,?_⟩
        · obtain ⟨hw1,hw2⟩:=hw
          go_simp
          rfl
        simp only [Act.put,List.setIfInBounds_toArray,List.set_cons_zero,List.set_cons_succ]
        refine rdL 7 10 100 ?_
        refine ⟨_,rfl,rfl,by kernel_rfl,by kernel_rfl,by kernel_rfl,(fun c a w h=>h),rfl,HS.out,?_⟩
        apply Exists.intro
        refine ⟨fun wq hw=>?_,?_⟩
        · obtain ⟨hw1,hw2⟩:=hw
          go_simp
          rfl
        simp only [Act.put,List.setIfInBounds_toArray,List.set_cons_zero,List.set_cons_succ]
        refine rdL 8 9 101 ?_
        refine ⟨_,rfl,rfl,by kernel_rfl,by kernel_rfl,by kernel_rfl,(fun c a w h=>h),rfl,HS.out,?_⟩
        apply Exists.intro
        refine ⟨fun wq hw=>?_,?_⟩
        · obtain ⟨hw1,hw2⟩:=hw
          go_simp
          rfl
        simp only [Act.put,List.setIfInBounds_toArray,List.set_cons_zero,List.set_cons_succ]
        refine rdL 9 8 102 ?_
        refine ⟨_,rfl,rfl,by kernel_rfl,by kernel_rfl,by kernel_rfl,(fun c a w h=>h),rfl,HS.out,?_⟩
        apply Exists.intro
        refine ⟨fun wq hw=>?_,?_⟩
        · obtain ⟨hw1,hw2⟩:=hw
          go_simp
          rfl
        simp only [Act.put,List.setIfInBounds_toArray,List.set_cons_zero,List.set_cons_succ]
        refine rdL 10 7 103 ?_
        refine ⟨_,rfl,rfl,by kernel_rfl,by kernel_rfl,by kernel_rfl,(fun c a w h=>h),rfl,HS.out,?_⟩
        apply Exists.intro
        refine ⟨fun wq hw=>?_,?_⟩
        · obtain ⟨hw1,hw2⟩:=hw
          go_simp
          rfl
        simp only [Act.put,List.setIfInBounds_toArray,List.set_cons_zero,List.set_cons_succ]
        refine rdL 11 6 104 ?_
        refine ⟨_,rfl,rfl,by kernel_rfl,by kernel_rfl,by kernel_rfl,(fun c a w h=>h),rfl,HS.out,?_⟩
        apply Exists.intro
        refine ⟨fun wq hw=>?_,?_⟩
        · obtain ⟨hw1,hw2⟩:=hw
          go_simp
          rfl
        simp only [Act.put,List.setIfInBounds_toArray,List.set_cons_zero,List.set_cons_succ]
        refine rdL 12 5 105 ?_
        refine ⟨_,rfl,rfl,by kernel_rfl,by kernel_rfl,by kernel_rfl,(fun c a w h=>h),rfl,HS.out,?_⟩
        apply Exists.intro
        refine ⟨fun wq hw=>?_,?_⟩
        · obtain ⟨hw1,hw2⟩:=hw
          go_simp
          rfl
        simp only [Act.put,List.setIfInBounds_toArray,List.set_cons_zero,List.set_cons_succ]
        rw [show IntKind.wrap .i64 (fs - 1) = fs - 1 by rw [IntKind.wrap_i64]; omega]
        refine oneL (i:=13) (fuel:=4) (by kernel_rfl) rfl rfl fun K' hK'=>?_
        unfold Oper.wp
        go_simp
        have hSa : (wd.alloc (.cells #[.int .i64 (fs - 1)] 2)).cell? ⟨xb,1,none⟩ = some (.pointer (some ⟨P.wb,0,none⟩))∧(wd.alloc (.cells #[.int .i64 (fs - 1)] 2)).cell? ⟨P.wb,3,none⟩ = some (.slice AN j cN):=⟨(World.cell?_of_block (w:=wd) (a:=⟨xb,1,none⟩) (Below.heap_alloc _ _ _ (lt_of_cell HS.out.1))).trans HS.out.1,(World.cell?_of_block (w:=wd) (a:=⟨P.wb,3,none⟩) (Below.heap_alloc _ _ _ (lt_of_cell HS.out.2))).trans HS.out.2⟩
        refine hK' _ _ hSa ?_
        clear hK' K' HS hSa
        try simp only [Act.put,List.setIfInBounds_toArray,List.set_cons_zero,List.set_cons_succ]
        refine oneL (i:=14) (fuel:=3) (by kernel_rfl) rfl rfl fun K' hK'=>?_
        refine wp_append_lies (P:=Try.prog) (wd.alloc (.cells #[.int .i64 (fs - 1)] 2)) (.tmp 103) (.tmp 106) 22 rfl B 2 i0 (.int .i64 0) 1 8 Try.underlying22 hi0 hz0 hz1 hz2 rfl (by decide) (.slice AN j cN) j _ rfl (HQN.out.alloc _) ⟨wd.heap.size,0,none⟩ 1 1 [.int .i64 (fs - 1)] rfl rfl (World.news_of_block (cs:=#[.int .i64 (fs - 1)]) (t:=2) (fr:=(0,0)) (Blk.new wd 2 #[.int .i64 (fs - 1)])) (by simp [Value.oneCell']) (by omega) (by unfold maxLen; omega) (by omega) (by simp; omega) (wd.heap.size + 1) (by simp) ?_
        intro gg cap2 yw hown hgrow hgat hgl
        obtain ⟨hwc,hxc,hfz,hmn⟩:=appN (x:=fs - 1) (v':=.slice (some ⟨gg,0,none⟩) (j + 1) cap2) (HM.out.1.alloc (.cells #[.int .i64 (fs - 1)] 2)) (by rw [List.length_replicate]; exact hown) hgrow (by
          rcases hgat with z | z
          · exact .inl z.symm
          · right; simp [Value.ownBlock,z])
        have hgB : ∀ b,(Value.slice AN j cN).ownBlock = some b→B≤b:=fun b hb=>(HQN.out.lt b hb).1
        have hbn:=((HM.out.2.alloc hBd (.cells #[.int .i64 (fs - 1)] 2)).grown hgrow (by simp; omega) hgB).setCell (p:=⟨P.wb,3,none⟩) (HM.out.1.lt (r:=.W) rfl (b:=P.wb) rfl).1 (.slice (some ⟨gg,0,none⟩) (j + 1) cap2)
        have hw1:=hwc 3 (by omega)
        simp only [wF] at hw1
        have HS:=Lib.hid (And.intro hxc hw1)
        have hold:=hw1
        refine hK' _ _ HS.out ?_
        clear hK' K' HM HQN hown hgrow hgat hgl hgB hwc hBd
        have HMN:=Lib.hid (And.intro hmn hbn)
        clear hmn hbn
        try simp only [Act.put,List.setIfInBounds_toArray,List.set_cons_zero,List.set_cons_succ]
        refine oneL (i:=15) (fuel:=2) (by kernel_rfl) rfl rfl fun K' hK'=>?_
        unfold Oper.wp
        go_simp
        refine hK' _ _ HS.out ?_
        clear hK' K'
        try simp only [Act.put,List.setIfInBounds_toArray,List.set_cons_zero,List.set_cons_succ]
        refine oneL (i:=16) (fuel:=1) (by kernel_rfl) rfl rfl fun K' hK'=>?_
        unfold Oper.wp
        go_simp
        refine hK' _ _ HS.out ?_
        clear hK' K'
        try simp only [Act.put,List.setIfInBounds_toArray,List.set_cons_zero,List.set_cons_succ]
        refine oneL (i:=17) (fuel:=0) (by kernel_rfl) rfl rfl fun K' hK'=>?_
        unfold Oper.wp
        go_simp
        refine hK' _ _ HS.out ?_
        clear hK' K'
        try simp only [Act.put,List.setIfInBounds_toArray,List.set_cons_zero,List.set_cons_succ]
        refine wpAnyH_done (by kernel_rfl) ?_ _
        simp only [Exit.then]
        refine wpOps_list (m:=17) rfl ?_
        go_wp2
        refine hK2.out _ _ ?_
        clear hK2 K2 hold hw1 hfz HS hxc
        have hmn:=HMN.out
        rw [show List.replicate j (fs - 1) ++ [fs - 1] = List.replicate (j + 1) (fs - 1) from (List.replicate_succ' ..).symm] at hmn
        have HM:=Lib.hid hmn
        clear hmn HMN
        generalize World.setCell _ _ _ = wr4 at *
        go_wp2
        go_roundw
        case rel=>exact ⟨j + 1,_,_,_,by omega,by go_num,HM.out.1,HM.out.2⟩
        case measure=>simp [intOf]; omega
      · obtain rfl : j = k:=by omega
        have hstart : ∃ (M : McP) (u0 : Who13),M.I = I∧M.P = P∧M.B = B∧M.xb = xb∧M.hb = hb∧M.B0 = W.heap.size∧McU u0∧McS M (s13 fs) u0 none (fun _=>none) wr:=by
          obtain ⟨p1,p2,p3,p4⟩:=HPF.out
          obtain ⟨m0,⟨lt,lo⟩,-⟩:=H2.out
          refine ⟨⟨I,P,B,xb,hb,vH,by rw [p3,HIM.out.1],by rw [p4,HIM.out.2],lt,Nat.le_of_eq p1.symm,W.heap.size,lo⟩,bU vI vN ((List.range j).map Int.ofNat) (List.replicate j (fs - 1)),rfl,rfl,rfl,rfl,rfl,rfl,⟨⟨rfl,by show (List.range j).map Int.ofNat = (List.range (List.replicate j (fs - 1)).length).map Int.ofNat; rw [List.length_replicate]⟩,by show (List.replicate j (fs - 1)).length≤4; rw [List.length_replicate]; exact hk4⟩,?_⟩
          have hb2:=HM.out.2
          have hk : Kept (fun b=>B≤b) w2 wr:=⟨hb2.os,hb2.tape,hb2.output,hb2.size,fun k _ hs=>hb2.block k (Nat.lt_of_not_le hs)⟩
          obtain ⟨l1,l2,l3,l4,l5⟩:=lt
          exact ⟨m0.kept hk (Nat.not_le.2 l1) (Nat.not_le.2 l2) (Nat.not_le.2 l3) (Nat.not_le.2 l4) (Nat.not_le.2 l5),HM.out.1⟩
        obtain ⟨M,u0,eI,eP,eB,ex,eh,eB0,hu0,hs0⟩:=hstart
        have HST:=Lib.hid (And.intro hs0 hu0)
        have hbw : Below W.heap.size w2 wr:=HM.out.2.mono (by have:=H2.out.2.1.2.2.2.2.2.2; omega)
        have HB2:=Lib.hid hbw
        have HB0:=Lib.hid eB0
        rw [← eI,← ex,← eh]
        have HE:=Lib.hid (And.intro eI (And.intro eP (And.intro eB (And.intro ex eh))))
        clear hs0 hu0 hbw eB0 eI eP eB ex eh HM
        rename World=>w9
        go_wp2
        clear hk4 hkm
        go_loopw [14] (fun i wr=>∃ (j : Nat) (S : MulS) (u : Who13),j≤len∧i = .int .i64 j∧McS M S u none (fun _=>none) wr∧McU u∧Below W.heap.size w2 wr) (fun i _=>len - (intOf i).toNat)
        case atStart=>exact ⟨0,_,_,Nat.zero_le _,rfl,HST.out.1,HST.out.2,HB2.out⟩
        case round =>
          obtain ⟨q,S,u,hq,rfl,hms,hmu,hbq⟩:=hrel
          have HS:=Lib.hid (And.intro hms (And.intro hmu hbq))
          clear hms hmu hbq
          by_cases hlt : q < len
          · obtain ⟨c,hcq⟩ : ∃ c,cs[q]? = some c:=⟨_,List.getElem?_eq_getElem (by have:=HCL.out; omega)⟩
            obtain ⟨b,o,hA,hbW,c0,c1,c2,c3,hok⟩:=(H2.out.2.2.1.below HS.out.2.2) q c hcq
            subst hA
            have hca : Calls Try.prog 26 #[.pointer (some ⟨M.xb,0,none⟩),.pointer (some ⟨M.I.mb,0,none⟩),.pointer (some ⟨M.hb,0,none⟩),.agg #[.int .i64 c.kd,.int .i64 c.N,.int .i64 c.V,.slice c.A c.vs.length c.cp]] wr fun e w'=>e = .returned (.bool true)∧∃ S' u',McDone M S' u' wr w'∧McU u':=call_any HS.out.1 HS.out.2.1 c (by rw [HB0.out]; exact hok)
            have HCA:=Lib.hid hca
            have hq63 : q < 9223372036854775807:=by unfold maxLen at hc; omega
            clear hca hok hcq
            go_wp2_with (go_at_call 26; refine HCA.out.mono ?_; rintro e w4 ⟨rfl,S4,u4,hd4,hu4⟩; have H4:=Lib.hid (And.intro hd4 hu4); clear hd4 hu4 c0 c1 c2 c3)
            go_roundw
            case rel=>exact ⟨q + 1,S4,u4,by omega,by go_num,H4.out.1.1,H4.out.2,HS.out.2.2.trans (HB0.out ▸ H4.out.1.2)⟩
            case measure=>simp [intOf]; omega
          · obtain rfl : q = len:=by omega
            clear HCL hlt
            go_wp2
            rename_i K0 hK0
            have key : ∀ z,McS M S u none (fun _=>none) z→z.cell? ⟨M.xb,0,none⟩ = some (.pointer (some ⟨M.P.mb,0,none⟩))∧z.cell? ⟨M.P.mb,1,none⟩ = some (.slice (some ⟨M.P.sb,0,none⟩) M.P.n M.P.sc)∧z.cell? ⟨M.P.mb,2,none⟩ = some (.slice (some ⟨M.P.vb,0,none⟩) M.P.n M.P.vc)∧z.cell? ⟨M.P.mb,4,none⟩ = some (.int .i64 S.cur):=fun z hz=>⟨xcell hz.mem (fun _=>rfl) rfl 0 (by omega),mcell hz.mem 1 (by omega),mcell hz.mem 2 (by omega),mcell hz.mem 4 (by omega)⟩
            have HKEY:=Lib.hid key
            clear key
            refine strictL ?_
            refine wp_region_held (S:=fun z=>z.cell? ⟨M.xb,0,none⟩ = some (.pointer (some ⟨M.P.mb,0,none⟩))∧z.cell? ⟨M.P.mb,1,none⟩ = some (.slice (some ⟨M.P.sb,0,none⟩) M.P.n M.P.sc)∧z.cell? ⟨M.P.mb,2,none⟩ = some (.slice (some ⟨M.P.vb,0,none⟩) M.P.n M.P.vc)∧z.cell? ⟨M.P.mb,4,none⟩ = some (.int .i64 S.cur)) (by kernel_rfl) ?_
            simp only [List.size_toArray,List.length_cons,List.length_nil,Nat.reduceAdd]
            have kd : Kept (fun _=>False) wr ({ wr with drawn:=wr.drawn + 1 } : World):=Kept.drewN _ wr 1
            generalize ({ wr with drawn:=wr.drawn + 1 } : World) = wd at kd ⊢
            have HW:=Lib.hid (And.intro (HS.out.1.kept kd) kd)
            clear kd
            refine rdL 0 38 125 ?_
            refine ⟨_,rfl,rfl,by kernel_rfl,by kernel_rfl,by kernel_rfl,(fun c a w h=>by cases h.1),rfl,HKEY.out _ HW.out.1,?_⟩
            apply Exists.intro
            refine ⟨fun wq hw=>?_,?_⟩
            · obtain ⟨hw1,hw2,hw3,hw4⟩:=hw
              go_simp
              rfl
            simp only [Act.put,List.setIfInBounds_toArray,List.set_cons_zero,List.set_cons_succ]
            refine rdL 3 37 128 ?_
            refine ⟨_,rfl,rfl,by kernel_rfl,by kernel_rfl,by kernel_rfl,(fun c a w h=>by cases h.1),rfl,HKEY.out _ HW.out.1,?_⟩
            apply Exists.intro
            refine ⟨fun wq hw=>?_,?_⟩
            · obtain ⟨hw1,hw2,hw3,hw4⟩:=hw
              go_simp
              rfl
            simp only [Act.put,List.setIfInBounds_toArray,List.set_cons_zero,List.set_cons_succ]
            refine rdL 4 36 129 ?_
            refine ⟨_,rfl,rfl,by kernel_rfl,by kernel_rfl,by kernel_rfl,(fun c a w h=>by cases h.1),rfl,HKEY.out _ HW.out.1,?_⟩
            apply Exists.intro
            refine ⟨fun wq hw=>?_,?_⟩
            · obtain ⟨hw1,hw2,hw3,hw4⟩:=hw
              go_simp
              rfl
            simp only [Act.put,List.setIfInBounds_toArray,List.set_cons_zero,List.set_cons_succ]
            refine rdL 5 35 130 ?_
            refine ⟨_,rfl,rfl,by kernel_rfl,by kernel_rfl,by kernel_rfl,(fun c a w h=>by cases h.1),rfl,HKEY.out _ HW.out.1,?_⟩
            apply Exists.intro
            refine ⟨fun wq hw=>?_,?_⟩
            · obtain ⟨hw1,hw2,hw3,hw4⟩:=hw
              go_simp
              rfl
            simp only [Act.put,List.setIfInBounds_toArray,List.set_cons_zero,List.set_cons_succ]
            refine rdL 6 34 131 ?_
            refine ⟨_,rfl,rfl,by kernel_rfl,by kernel_rfl,by kernel_rfl,(fun c a w h=>by cases h.1),rfl,HKEY.out _ HW.out.1,?_⟩
            apply Exists.intro
            refine ⟨fun wq hw=>?_,?_⟩
            · obtain ⟨hw1,hw2,hw3,hw4⟩:=hw
              go_simp
              rfl
            simp only [Act.put,List.setIfInBounds_toArray,List.set_cons_zero,List.set_cons_succ]
            refine rdL 7 33 132 ?_
            refine ⟨_,rfl,rfl,by kernel_rfl,by kernel_rfl,by kernel_rfl,(fun c a w h=>by cases h.1),rfl,HKEY.out _ HW.out.1,?_⟩
            apply Exists.intro
            refine ⟨fun wq hw=>?_,?_⟩
            · obtain ⟨hw1,hw2,hw3,hw4⟩:=hw
              go_simp
              rfl
            simp only [Act.put,List.setIfInBounds_toArray,List.set_cons_zero,List.set_cons_succ]
            refine rdL 8 32 133 ?_
            refine ⟨_,rfl,rfl,by kernel_rfl,by kernel_rfl,by kernel_rfl,(fun c a w h=>by cases h.1),rfl,HKEY.out _ HW.out.1,?_⟩
            apply Exists.intro
            refine ⟨fun wq hw=>?_,?_⟩
            · obtain ⟨hw1,hw2,hw3,hw4⟩:=hw
              go_simp
              rfl
            simp only [Act.put,List.setIfInBounds_toArray,List.set_cons_zero,List.set_cons_succ]
            refine rdL 9 31 134 ?_
            refine ⟨_,rfl,rfl,by kernel_rfl,by kernel_rfl,by kernel_rfl,(fun c a w h=>by cases h.1),rfl,HKEY.out _ HW.out.1,?_⟩
            apply Exists.intro
            refine ⟨fun wq hw=>?_,?_⟩
            · obtain ⟨hw1,hw2,hw3,hw4⟩:=hw
              go_simp
              rfl
            simp only [Act.put,List.setIfInBounds_toArray,List.set_cons_zero,List.set_cons_succ]
            refine rdL 10 30 135 ?_
            refine ⟨_,rfl,rfl,by kernel_rfl,by kernel_rfl,by kernel_rfl,(fun c a w h=>by cases h.1),rfl,HKEY.out _ HW.out.1,?_⟩
            apply Exists.intro
            refine ⟨fun wq hw=>?_,?_⟩
            · obtain ⟨hw1,hw2,hw3,hw4⟩:=hw
              go_simp
              rfl
            simp only [Act.put,List.setIfInBounds_toArray,List.set_cons_zero,List.set_cons_succ]
            refine oneL (i:=1) (fuel:=29) (by kernel_rfl) rfl rfl fun K' hK'=>?_
            unfold Oper.wp
            go_simp
            refine (ringM_ok M.I.mb M.I.rb _ (HW.out.1.mx.mul.cell 0)).mono ?_
            rintro e wq ⟨rfl,hwq⟩
            subst hwq
            dsimp only
            refine hK' _ _ (HKEY.out _ HW.out.1) ?_
            clear hK' K'
            try simp only [Act.put,List.setIfInBounds_toArray,List.set_cons_zero,List.set_cons_succ]
            refine oneL (i:=2) (fuel:=28) (by kernel_rfl) rfl rfl fun K' hK'=>?_
            unfold Oper.wp
            go_simp
            refine (stamps_ok _ M.I.rb M.I.gb M.I.n S.st S.va HW.out.1.mx.ring).mono ?_
            rintro e wq ⟨va,rfl,ho,hbl⟩
            dsimp only
            have hkq : Kept (fun _=>False) _ wq:=Kept.of_below hbl
            have hw2:=HW.out
            have HW:=Lib.hid (And.intro (hw2.1.kept hkq) (hw2.2.trans hkq))
            have HA:=Lib.hid (IntsAt.of_own ho)
            clear hkq hw2 ho hbl
            refine hK' _ _ (HKEY.out _ HW.out.1) ?_
            clear hK' K'
            rename World=>wa
            try simp only [Act.put,List.setIfInBounds_toArray,List.set_cons_zero,List.set_cons_succ]
            refine oneL (i:=11) (fuel:=27) (by kernel_rfl) rfl rfl fun K' hK'=>?_
            unfold Oper.wp
            go_simp
            refine (same_numbers _ _ (rowN S.st M.I.n) (rowN S.st M.I.n) _ HA.out (docInts HW.out.1.mem (r:=.S) rfl) (by rw [rowN_len]; have:=HW.out.1.mx.ring.most; unfold maxLen; omega)).mono ?_
            rintro e wq ⟨rfl,nq,hwq⟩
            dsimp only
            have hkq : Kept (fun _=>False) _ wq:=hwq ▸ Kept.drewN _ _ nq
            have hw2:=HW.out
            have HW:=Lib.hid (And.intro (hw2.1.kept hkq) (hw2.2.trans hkq))
            clear hkq hw2 hwq HA
            refine hK' _ _ (HKEY.out _ HW.out.1) ?_
            clear hK' K'
            rw [show decide (rowN S.st M.I.n = rowN S.st M.I.n) = true from decide_eq_true rfl]
            rename World=>wb
            try simp only [Act.put,List.setIfInBounds_toArray,List.set_cons_zero,List.set_cons_succ]
            refine oneL (i:=12) (fuel:=26) (by kernel_rfl) rfl rfl fun K' hK'=>?_
            unfold Oper.wp
            go_simp
            refine hK' _ _ (HKEY.out _ HW.out.1) ?_
            clear hK' K'
            try simp only [Act.put,List.setIfInBounds_toArray,List.set_cons_zero,List.set_cons_succ]
            refine rdL 13 25 138 ?_
            refine ⟨_,rfl,rfl,by kernel_rfl,by kernel_rfl,by kernel_rfl,(fun c a w h=>by cases h.1),rfl,HKEY.out _ HW.out.1,?_⟩
            apply Exists.intro
            refine ⟨fun wq hw=>?_,?_⟩
            · obtain ⟨hw1,hw2,hw3,hw4⟩:=hw
              go_simp
              rfl
            simp only [Act.put,List.setIfInBounds_toArray,List.set_cons_zero,List.set_cons_succ]
            refine rdL 16 24 141 ?_
            refine ⟨_,rfl,rfl,by kernel_rfl,by kernel_rfl,by kernel_rfl,(fun c a w h=>by cases h.1),rfl,HKEY.out _ HW.out.1,?_⟩
            apply Exists.intro
            refine ⟨fun wq hw=>?_,?_⟩
            · obtain ⟨hw1,hw2,hw3,hw4⟩:=hw
              go_simp
              rfl
            simp only [Act.put,List.setIfInBounds_toArray,List.set_cons_zero,List.set_cons_succ]
            refine rdL 17 23 142 ?_
            refine ⟨_,rfl,rfl,by kernel_rfl,by kernel_rfl,by kernel_rfl,(fun c a w h=>by cases h.1),rfl,HKEY.out _ HW.out.1,?_⟩
            apply Exists.intro
            refine ⟨fun wq hw=>?_,?_⟩
            · obtain ⟨hw1,hw2,hw3,hw4⟩:=hw
              go_simp
              rfl
            simp only [Act.put,List.setIfInBounds_toArray,List.set_cons_zero,List.set_cons_succ]
            refine rdL 18 22 143 ?_
            refine ⟨_,rfl,rfl,by kernel_rfl,by kernel_rfl,by kernel_rfl,(fun c a w h=>by cases h.1),rfl,HKEY.out _ HW.out.1,?_⟩
            apply Exists.intro
            refine ⟨fun wq hw=>?_,?_⟩
            · obtain ⟨hw1,hw2,hw3,hw4⟩:=hw
              go_simp
              rfl
            simp only [Act.put,List.setIfInBounds_toArray,List.set_cons_zero,List.set_cons_succ]
            refine rdL 19 21 144 ?_
            refine ⟨_,rfl,rfl,by kernel_rfl,by kernel_rfl,by kernel_rfl,(fun c a w h=>by cases h.1),rfl,HKEY.out _ HW.out.1,?_⟩
            apply Exists.intro
            refine ⟨fun wq hw=>?_,?_⟩
            · obtain ⟨hw1,hw2,hw3,hw4⟩:=hw
              go_simp
              rfl
            simp only [Act.put,List.setIfInBounds_toArray,List.set_cons_zero,List.set_cons_succ]
            refine rdL 20 20 145 ?_
            refine ⟨_,rfl,rfl,by kernel_rfl,by kernel_rfl,by kernel_rfl,(fun c a w h=>by cases h.1),rfl,HKEY.out _ HW.out.1,?_⟩
            apply Exists.intro
            refine ⟨fun wq hw=>?_,?_⟩
            · obtain ⟨hw1,hw2,hw3,hw4⟩:=hw
              go_simp
              rfl
            simp only [Act.put,List.setIfInBounds_toArray,List.set_cons_zero,List.set_cons_succ]
            refine rdL 21 19 146 ?_
            refine ⟨_,rfl,rfl,by kernel_rfl,by kernel_rfl,by kernel_rfl,(fun c a w h=>by cases h.1),rfl,HKEY.out _ HW.out.1,?_⟩
            apply Exists.intro
            refine ⟨fun wq hw=>?_,?_⟩
            · obtain ⟨hw1,hw2,hw3,hw4⟩:=hw
              go_simp
              rfl
            simp only [Act.put,List.setIfInBounds_toArray,List.set_cons_zero,List.set_cons_succ]
            refine rdL 22 18 147 ?_
            refine ⟨_,rfl,rfl,by kernel_rfl,by kernel_rfl,by kernel_rfl,(fun c a w h=>by cases h.1),rfl,HKEY.out _ HW.out.1,?_⟩
            apply Exists.intro
            refine ⟨fun wq hw=>?_,?_⟩
            · obtain ⟨hw1,hw2,hw3,hw4⟩:=hw
              go_simp
              rfl
            simp only [Act.put,List.setIfInBounds_toArray,List.set_cons_zero,List.set_cons_succ]
            refine rdL 23 17 148 ?_
            refine ⟨_,rfl,rfl,by kernel_rfl,by kernel_rfl,by kernel_rfl,(fun c a w h=>by cases h.1),rfl,HKEY.out _ HW.out.1,?_⟩
            apply Exists.intro
            refine ⟨fun wq hw=>?_,?_⟩
            · obtain ⟨hw1,hw2,hw3,hw4⟩:=hw
              go_simp
              rfl
            simp only [Act.put,List.setIfInBounds_toArray,List.set_cons_zero,List.set_cons_succ]
            refine oneL (i:=14) (fuel:=16) (by kernel_rfl) rfl rfl fun K' hK'=>?_
            unfold Oper.wp
            go_simp
            refine (ringM_ok M.I.mb M.I.rb _ (HW.out.1.mx.mul.cell 0)).mono ?_
            rintro e wq ⟨rfl,hwq⟩
            subst hwq
            dsimp only
            refine hK' _ _ (HKEY.out _ HW.out.1) ?_
            clear hK' K'
            try simp only [Act.put,List.setIfInBounds_toArray,List.set_cons_zero,List.set_cons_succ]
            refine oneL (i:=15) (fuel:=15) (by kernel_rfl) rfl rfl fun K' hK'=>?_
            unfold Oper.wp
            go_simp
            refine (values_ok _ M.I.rb M.I.gb M.I.n S.st S.va HW.out.1.mx.ring).mono ?_
            rintro e wq ⟨vb,rfl,ho,hbl⟩
            dsimp only
            have hkq : Kept (fun _=>False) _ wq:=Kept.of_below hbl
            have hw2:=HW.out
            have HW:=Lib.hid (And.intro (hw2.1.kept hkq) (hw2.2.trans hkq))
            have HB:=Lib.hid (IntsAt.of_own ho)
            clear hkq hw2 ho hbl
            refine hK' _ _ (HKEY.out _ HW.out.1) ?_
            clear hK' K'
            rename World=>wc
            try simp only [Act.put,List.setIfInBounds_toArray,List.set_cons_zero,List.set_cons_succ]
            refine oneL (i:=24) (fuel:=14) (by kernel_rfl) rfl rfl fun K' hK'=>?_
            unfold Oper.wp
            go_simp
            refine (same_numbers _ _ (rowN S.va M.I.n) (rowN S.va M.I.n) _ HB.out (docInts HW.out.1.mem (r:=.V) rfl) (by rw [rowN_len]; have:=HW.out.1.mx.ring.most; unfold maxLen; omega)).mono ?_
            rintro e wq ⟨rfl,nq,hwq⟩
            dsimp only
            have hkq : Kept (fun _=>False) _ wq:=hwq ▸ Kept.drewN _ _ nq
            have hw2:=HW.out
            have HW:=Lib.hid (And.intro (hw2.1.kept hkq) (hw2.2.trans hkq))
            clear hkq hw2 hwq HB
            refine hK' _ _ (HKEY.out _ HW.out.1) ?_
            clear hK' K'
            rw [show decide (rowN S.va M.I.n = rowN S.va M.I.n) = true from decide_eq_true rfl]
            rename World=>wd2
            try simp only [Act.put,List.setIfInBounds_toArray,List.set_cons_zero,List.set_cons_succ]
            refine oneL (i:=25) (fuel:=13) (by kernel_rfl) rfl rfl fun K' hK'=>?_
            unfold Oper.wp
            go_simp
            refine hK' _ _ (HKEY.out _ HW.out.1) ?_
            clear hK' K'
            try simp only [Act.put,List.setIfInBounds_toArray,List.set_cons_zero,List.set_cons_succ]
            refine oneL (i:=26) (fuel:=12) (by kernel_rfl) rfl rfl fun K' hK'=>?_
            unfold Oper.wp
            go_simp
            refine hK' _ _ (HKEY.out _ HW.out.1) ?_
            clear hK' K'
            try simp only [Act.put,List.setIfInBounds_toArray,List.set_cons_zero,List.set_cons_succ]
            refine rdL 27 11 152 ?_
            refine ⟨_,rfl,rfl,by kernel_rfl,by kernel_rfl,by kernel_rfl,(fun c a w h=>by cases h.1),rfl,HKEY.out _ HW.out.1,?_⟩
            apply Exists.intro
            refine ⟨fun wq hw=>?_,?_⟩
            · obtain ⟨hw1,hw2,hw3,hw4⟩:=hw
              go_simp
              rfl
            simp only [Act.put,List.setIfInBounds_toArray,List.set_cons_zero,List.set_cons_succ]
            refine rdL 29 10 154 ?_
            refine ⟨_,rfl,rfl,by kernel_rfl,by kernel_rfl,by kernel_rfl,(fun c a w h=>by cases h.1),rfl,HKEY.out _ HW.out.1,?_⟩
            apply Exists.intro
            refine ⟨fun wq hw=>?_,?_⟩
            · obtain ⟨hw1,hw2,hw3,hw4⟩:=hw
              go_simp
              rfl
            simp only [Act.put,List.setIfInBounds_toArray,List.set_cons_zero,List.set_cons_succ]
            refine rdL 30 9 155 ?_
            refine ⟨_,rfl,rfl,by kernel_rfl,by kernel_rfl,by kernel_rfl,(fun c a w h=>by cases h.1),rfl,HKEY.out _ HW.out.1,?_⟩
            apply Exists.intro
            refine ⟨fun wq hw=>?_,?_⟩
            · obtain ⟨hw1,hw2,hw3,hw4⟩:=hw
              go_simp
              rfl
            simp only [Act.put,List.setIfInBounds_toArray,List.set_cons_zero,List.set_cons_succ]
            refine rdL 31 8 156 ?_
            refine ⟨_,rfl,rfl,by kernel_rfl,by kernel_rfl,by kernel_rfl,(fun c a w h=>by cases h.1),rfl,HKEY.out _ HW.out.1,?_⟩
            apply Exists.intro
            refine ⟨fun wq hw=>?_,?_⟩
            · obtain ⟨hw1,hw2,hw3,hw4⟩:=hw
              go_simp
              rfl
            simp only [Act.put,List.setIfInBounds_toArray,List.set_cons_zero,List.set_cons_succ]
            refine rdL 32 7 157 ?_
            refine ⟨_,rfl,rfl,by kernel_rfl,by kernel_rfl,by kernel_rfl,(fun c a w h=>by cases h.1),rfl,HKEY.out _ HW.out.1,?_⟩
            apply Exists.intro
            refine ⟨fun wq hw=>?_,?_⟩
            · obtain ⟨hw1,hw2,hw3,hw4⟩:=hw
              go_simp
              rfl
            simp only [Act.put,List.setIfInBounds_toArray,List.set_cons_zero,List.set_cons_succ]
            refine rdL 33 6 158 ?_
            refine ⟨_,rfl,rfl,by kernel_rfl,by kernel_rfl,by kernel_rfl,(fun c a w h=>by cases h.1),rfl,HKEY.out _ HW.out.1,?_⟩
            apply Exists.intro
            refine ⟨fun wq hw=>?_,?_⟩
            · obtain ⟨hw1,hw2,hw3,hw4⟩:=hw
              go_simp
              rfl
            simp only [Act.put,List.setIfInBounds_toArray,List.set_cons_zero,List.set_cons_succ]
            refine rdL 34 5 159 ?_
            refine ⟨_,rfl,rfl,by kernel_rfl,by kernel_rfl,by kernel_rfl,(fun c a w h=>by cases h.1),rfl,HKEY.out _ HW.out.1,?_⟩
            apply Exists.intro
            refine ⟨fun wq hw=>?_,?_⟩
            · obtain ⟨hw1,hw2,hw3,hw4⟩:=hw
              go_simp
              rfl
            simp only [Act.put,List.setIfInBounds_toArray,List.set_cons_zero,List.set_cons_succ]
            refine rdL 35 4 160 ?_
            refine ⟨_,rfl,rfl,by kernel_rfl,by kernel_rfl,by kernel_rfl,(fun c a w h=>by cases h.1),rfl,HKEY.out _ HW.out.1,?_⟩
            apply Exists.intro
            refine ⟨fun wq hw=>?_,?_⟩
            · obtain ⟨hw1,hw2,hw3,hw4⟩:=hw
              go_simp
              rfl
            simp only [Act.put,List.setIfInBounds_toArray,List.set_cons_zero,List.set_cons_succ]
            refine oneL (i:=28) (fuel:=3) (by kernel_rfl) rfl rfl fun K' hK'=>?_
            unfold Oper.wp
            go_simp
            refine (cursor_x Stepper.none cell_step_noneM M.I 0 S _ HW.out.1.mx trivial).mono ?_
            rintro e wq ⟨rfl,hkq,-,-⟩
            dsimp only
            have hkq : Kept (fun _=>False) _ wq:=hkq
            have hw2:=HW.out
            have HW:=Lib.hid (And.intro (hw2.1.kept hkq) (hw2.2.trans hkq))
            clear hkq hw2
            refine hK' _ _ (HKEY.out _ HW.out.1) ?_
            clear hK' K'
            rename World=>wz
            try simp only [Act.put,List.setIfInBounds_toArray,List.set_cons_zero,List.set_cons_succ]
            refine oneL (i:=36) (fuel:=2) (by kernel_rfl) rfl rfl fun K' hK'=>?_
            unfold Oper.wp
            go_simp
            refine hK' _ _ (HKEY.out _ HW.out.1) ?_
            clear hK' K'
            try simp only [Act.put,List.setIfInBounds_toArray,List.set_cons_zero,List.set_cons_succ]
            refine oneL (i:=37) (fuel:=1) (by kernel_rfl) rfl rfl fun K' hK'=>?_
            unfold Oper.wp
            go_simp
            refine hK' _ _ (HKEY.out _ HW.out.1) ?_
            clear hK' K'
            try simp only [Act.put,List.setIfInBounds_toArray,List.set_cons_zero,List.set_cons_succ]
            refine oneL (i:=38) (fuel:=0) (by kernel_rfl) rfl rfl fun K' hK'=>?_
            unfold Oper.wp
            go_simp
            refine hK' _ _ (HKEY.out _ HW.out.1) ?_
            clear hK' K'
            try simp only [Act.put,List.setIfInBounds_toArray,List.set_cons_zero,List.set_cons_succ]
            refine wpAnyH_done (by kernel_rfl) ⟨rfl,?_⟩ _
            refine hK0 _ _ ?_
            clear hK0 K0
            go_wp2
            go_ret
            exact ⟨by simp,HW.out.2.os.trans (HS.out.2.2.os.trans H2.out.2.2.2.1),HW.out.2.output.trans (HS.out.2.2.output.trans H2.out.2.2.2.2)⟩
  · have HNB:=Lib.hid (multi_newB size fs u hF hs0)
    have HFT:=Lib.hid (fun w=>fits_ok size fs w hs0)
    have hd : decide (FitsM size fs) = false:=decide_eq_false hF
    rw [hd] at HFT
    clear hF hd
    go_wp2_with (first | (go_at_call 17; refine HNB.out.mono ?_; rintro e w1 ⟨rfl,b1⟩; have HB1:=Lib.hid b1; clear b1) | (go_at_call 22; refine (HFT.out _).mono ?_; rintro e w' ⟨rfl,hw'⟩; subst hw'))
    go_ret
    exact ⟨rfl,HB1.out.os.trans HI.out.1,HB1.out.output.trans HI.out.2⟩
end Go.Proofs.Ytoepekcheapgmaa
namespace Go.Proofs.Ytoepekcheapgmaa
open Go.ChangeShapes Go.WideShapes Go.ChangeAt Go.RowKit Go.Deep
theorem spot_none {w : World} {p : Addr} {v : Value} (h : w.cell? p = some v) : p.spot = none∧p.block < w.heap.size:=by
  unfold World.cell? at h
  cases ho : w.heap[p.block]? with
  | none=>rw [ho] at h; cases h
  | some x =>
    have hlt : p.block < w.heap.size:=(Array.getElem?_eq_some_iff.1 ho).1
    rw [ho] at h
    cases x with
    | cells c t r =>
      simp only at h
      split at h
      · cases h
      · rename_i hs
        exact ⟨by simpa using hs,hlt⟩
    | _=>cases h
theorem Try.opCells : Try.prog.cellsOf 87 = 4:=by kernel_rfl
section
variable {H : Type} {enc : TypeId × Value→H}
end
end Go.Proofs.Ytoepekcheapgmaa
namespace Go.Proofs.Ytoepekcheapgmaa
open Go.ChangeShapes Go.WideShapes Go.ChangeAt Go.RowKit Go.Deep Go.Turn Go.Tame Go.Conc
theorem Try.callCells : Try.prog.cellsOf 70 = 4:=by kernel_rfl
theorem Try.numsCellsC : Try.prog.cellsOf 22 = 1:=by kernel_rfl
theorem Try.intCellsC : Try.prog.cellsOf 3 = 1:=by kernel_rfl
theorem Try.longCellsC : Try.prog.cellsOf 2 = 1:=by kernel_rfl
theorem list_ofC {α : Type} {Q : Nat→α→Prop} (m : Nat) (h : ∀ j,j < m→∃ x,Q j x) : ∃ l : List α,l.length = m∧∀ j x,l[j]? = some x→Q j x:=by
  induction m with
  | zero=>exact ⟨[],rfl,fun j x hx=>by simp at hx⟩
  | succ m ih =>
    obtain ⟨l,hl,hq⟩:=ih fun j hj=>h j (by omega)
    obtain ⟨y,hy⟩:=h m (by omega)
    refine ⟨l ++ [y],by simp [hl],fun j x hx=>?_⟩
    rcases Nat.lt_or_ge j m with hlt | hge
    · rw [List.getElem?_append_left (by omega)] at hx
      exact hq j x hx
    · have hj : j < (l ++ [y]).length:=(List.getElem?_eq_some_iff.1 hx).1
      have : j = m:=by simp [hl] at hj; omega
      subst this
      rw [List.getElem?_append_right (by omega),hl] at hx
      simp at hx
      subst hx
      exact hy
section
variable {H : Type} {enc : TypeId × Value→H}
theorem lit_rangeC {k : Int} (h : (Lit.int .i64 k).wf = true) : -9223372036854775808≤k∧k < 9223372036854775808:=by
  simp [Lit.wf,IntKind.min,IntKind.max,IntKind.signed,IntKind.bits] at h
  omega
theorem weights_allC {P : Program} {e : TypeId} : ∀ {l : List (DataW H)} {d : DataW H},d ∈ l→∀ n ∈ d.weights P e,n ∈ DataW.weightsAll P e l
  | d0 :: l,d,hd,n,hn=>by
    simp only [DataW.weightsAll,List.mem_append]
    rcases List.mem_cons.1 hd with rfl | h
    · exact .inl hn
    · exact .inr (weights_allC h n hn)
set_option maxRecDepth 100000 in
theorem open_numsC {W : World} {sp : Nat→Bool} {fuel : Nat} {cs : List Value} {x : DataW H × List MemPlace} {t e : TypeId} (ht : Try.prog.underlying t = some (.slice e)) (he : Try.prog.underlying e = some (.int .i64)) (hc : Try.prog.cellsOf e = 1) (h : DataW.trod enc Try.prog W 0 sp true fuel t cs = some x) :
    ∃ (A : Option Addr) (cap : Nat) (xs : List Int),cs = [.slice A xs.length cap]∧xs.length≤cap∧cap≤maxLen∧(A = none→cap = 0)∧(∀ i,i < xs.length→∃ b o,A = some ⟨b,o,none⟩∧b < W.heap.size∧W.cell? ⟨b,o + i,none⟩ = some (.int .i64 (xs.getD i 0)))∧(∀ y ∈ xs,-9223372036854775808≤y∧y < 9223372036854775808)∧(xs.length = 0∨∃ el spa,x.1 = .slice el spa∧xs.length≤el.length + spa.length):=by
  rcases open_slice1 ht hc h with ⟨rfl,rfl⟩ | ⟨a,len,cap,m,n,V,D,Pl,rfl,hb,hl,hm,hmm,rfl,hx⟩
  · exact ⟨none,0,[],rfl,Nat.le_refl _,by unfold maxLen; omega,fun _=>rfl,fun i hi=>(by simp at hi),fun y hy=>(by cases hy),.inl rfl⟩
  have hlm : len≤m:=by rw [hmm]; split <;> omega
  obtain ⟨xs,hxl,hxs⟩:=list_ofC (α:=Int) (Q:=fun j y=>(-9223372036854775808≤y∧y < 9223372036854775808)∧∃ b o,a = ⟨b,o,none⟩∧b < W.heap.size∧W.cell? ⟨b,o + j,none⟩ = some (.int .i64 y)) len fun j hj=>by
    obtain ⟨c1,c2⟩:=hx j (by omega)
    obtain ⟨y,e0,_,hw⟩:=DataW.trod_int he c2
    simp only [List.cons.injEq,and_true] at e0
    rw [e0] at c1
    have ha : a.spot = none:=by
      obtain ⟨c0,_⟩:=hx 0 (by omega)
      have : W.cell? a = some (V 0):=by simpa [Addr.add] using c0
      exact (spot_none this).1
    obtain ⟨b,o,s⟩:=a
    simp only at ha
    subst ha
    have e : (⟨b,o,none⟩ : Addr).add j = ⟨b,o + j,none⟩:=by
      unfold Addr.add
      by_cases h4 : j = 0 <;> simp [h4]
    rw [e] at c1
    exact ⟨y,lit_rangeC hw,b,o,rfl,(spot_none c1).2,c1⟩
  refine ⟨some a,cap,xs,by rw [hxl],by omega,hm,fun h=>(by cases h),fun i hi=>?_,fun y hy=>?_,.inr ⟨_,_,rfl,?_⟩⟩
  · obtain ⟨_,b,o,e1,e2,e3⟩:=hxs i xs[i] (List.getElem?_eq_getElem hi)
    exact ⟨b,o,by rw [e1],e2,by rw [e3,List.getD_eq_getElem?_getD,List.getElem?_eq_getElem hi]; rfl⟩
  · obtain ⟨j,hj,e⟩:=List.mem_iff_getElem.1 hy
    exact (hxs j y (by rw [List.getElem?_eq_getElem hj,e])).1
  · simp [hxl] <;> omega
set_option maxRecDepth 100000 in
theorem open_calls {W : World} {sp : Nat→Bool} {fuel : Nat} {cs : List Value} {x : DataW H × List MemPlace} (h : DataW.trod enc Try.prog W 0 sp true fuel 52 cs = some x)
    (hw : ∀ n ∈ DataW.weights Try.prog 52 x.1,n≤reachBytes) :
    ∃ (A : Option Addr) (len cap : Nat) (l : List CallI),cs = [.slice A len cap]∧len≤cap∧cap≤maxLen∧l.length = len∧CallsAt W.heap.size A l W:=by
  rcases open_slice Try.underlying52 h with ⟨rfl,rfl⟩ | ⟨a,len,cap,m,n,D,Pl,rfl,hb,hl,hm,hmm,rfl,hx⟩
  · exact ⟨none,0,0,[],rfl,Nat.le_refl _,by unfold maxLen; omega,rfl,fun j o hj=>by simp at hj⟩
  have hlm : len≤m:=by rw [hmm]; split <;> omega
  have h8 : Try.prog.bytesOf 2 = 8:=by kernel_rfl
  obtain ⟨l,hol,ho⟩:=list_ofC (α:=CallI) (Q:=fun j c=>∃ b f,a = ⟨b,f,none⟩∧b < W.heap.size∧W.cell? ⟨b,f + j * 4,none⟩ = some (.int .i64 c.kd)∧W.cell? ⟨b,f + j * 4 + 1,none⟩ = some (.int .i64 c.N)∧W.cell? ⟨b,f + j * 4 + 2,none⟩ = some (.int .i64 c.V)∧W.cell? ⟨b,f + j * 4 + 3,none⟩ = some (.slice c.A c.vs.length c.cp)∧c.Ok W.heap.size W) len fun j hj=>by
    have ha : a.spot = none:=by
      obtain ⟨cs',h1,_⟩:=hx 0 (by omega)
      rw [Try.callCells] at h1
      obtain ⟨_,hlen,hcell⟩:=World.cells?_some h1
      have c0:=hcell 0 (by omega)
      match cs',hlen with
      | [v0,v1,v2,v3],_ =>
        have c0 : W.cell? a = some v0:=by simpa [Addr.add] using c0
        exact (spot_none c0).1
    obtain ⟨b,o,s⟩:=a
    simp only at ha
    subst ha
    obtain ⟨cs',h1,h2⟩:=hx j (by omega)
    rw [Try.callCells] at h1
    obtain ⟨_,hlen,hcell⟩:=World.cells?_some h1
    match cs',hlen with
    | [v1,v2,v3,v4],_ =>
      obtain ⟨xs,k',_,hxd,_,hlx,hf⟩:=DataW.trod_struct Try.underlying70 h2
      match xs,hlx with
      | [x0,x1,x2,x3],_ =>
        have f0 : DataW.trod enc Try.prog W 0 sp true k' 3 [v1] = some x0:=by
          have h:=hf 0 _ rfl
          change DataW.trod enc Try.prog W 0 sp true k' 3 (List.take (Try.prog.cellsOf 3) (List.drop 0 [v1,v2,v3,v4])) = some x0 at h
          rw [Try.intCellsC] at h
          exact h
        have f1 : DataW.trod enc Try.prog W 0 sp true k' 2 [v2] = some x1:=by
          have h:=hf 1 _ rfl
          change DataW.trod enc Try.prog W 0 sp true k' 2 (List.take (Try.prog.cellsOf 2) (List.drop 1 [v1,v2,v3,v4])) = some x1 at h
          rw [Try.longCellsC] at h
          exact h
        have f2 : DataW.trod enc Try.prog W 0 sp true k' 2 [v3] = some x2:=by
          have h:=hf 2 _ rfl
          change DataW.trod enc Try.prog W 0 sp true k' 2 (List.take (Try.prog.cellsOf 2) (List.drop 2 [v1,v2,v3,v4])) = some x2 at h
          rw [Try.longCellsC] at h
          exact h
        have f3 : DataW.trod enc Try.prog W 0 sp true k' 22 [v4] = some x3:=by
          have h:=hf 3 _ rfl
          change DataW.trod enc Try.prog W 0 sp true k' 22 (List.take (Try.prog.cellsOf 22) (List.drop 3 [v1,v2,v3,v4])) = some x3 at h
          rw [Try.numsCellsC] at h
          exact h
        obtain ⟨n0,g0,_,_⟩:=DataW.trod_int Try.underlying3 f0
        obtain ⟨n1,g1,_,hw1⟩:=DataW.trod_int Try.underlying2 f1
        obtain ⟨n2,g2,_,hw2⟩:=DataW.trod_int Try.underlying2 f2
        obtain ⟨vA,vc,vs,g3,a1,a2,a3,a4,_,a5⟩:=open_numsC Try.underlying22 Try.underlying2 Try.longCellsC f3
        simp only [List.cons.injEq,and_true] at g0 g1 g2 g3
        subst g0; subst g1; subst g2; subst g3
        have c0:=hcell 0 (by omega)
        have c1:=hcell 1 (by omega)
        have c2:=hcell 2 (by omega)
        have c3:=hcell 3 (by omega)
        have e : ∀ k,((⟨b,o,none⟩ : Addr).add (j * 4)).add k = ⟨b,o + j * 4 + k,none⟩:=fun k=>by
          unfold Addr.add
          by_cases h4 : j * 4 = 0 <;> by_cases hk : k = 0 <;> simp [h4,hk]
        rw [e] at c0 c1 c2 c3
        have hby : vs.length * 8≤140737488355328:=by
          rcases a5 with z | ⟨el,spa,z1,z2⟩
          · omega
          · have hm:=hw ((el.length + spa.length) * Try.prog.bytesOf 2) (by
              simp only [DataW.weights,Try.underlying52,List.mem_cons,List.mem_append]
              refine .inr (.inl (weights_allC (d:=D j) (List.mem_map.2 ⟨j,by simpa using hj,rfl⟩) _ ?_))
              have hxd : D j = .agg [x0.1,x1.1,x2.1,x3.1]:=congrArg Prod.fst hxd
              rw [hxd]
              simp only [DataW.weights,Try.underlying70]
              refine DataW.weights_mem_each (j:=3) (t:=22) (d:=x3.1) rfl rfl _ ?_
              rw [z1]
              simp [DataW.weights,Try.underlying22])
            rw [h8] at hm
            unfold reachBytes at hm
            omega
        exact ⟨⟨n0,n1,n2,vA,vc,vs⟩,b,o,rfl,(spot_none c1).2,c0,c1,c2,c3,⟨(lit_rangeC hw1).1,(lit_rangeC hw1).2,a1,a3,hby,a4⟩⟩
  refine ⟨some a,len,cap,l,rfl,hl,hm,hol,fun j c hj=>?_⟩
  obtain ⟨b,f,rfl,h3⟩:=ho j c hj
  exact ⟨b,f,rfl,h3⟩
end
end Go.Proofs.Ytoepekcheapgmaa
namespace Go.Proofs.Ytoepekcheapgmaa.multiCalls
open Go.ChangeShapes Go.WideShapes Go.ChangeAt Go.RowKit Go.Deep Go.Turn
theorem own : ownKnob Try.prog.godebug = none:=by kernel_rfl
theorem laidOut : laidOutB Try.prog = true:=by kernel_rfl
set_option maxRecDepth 100000 in
theorem lifted (os : Os) (started : os.Started) (H : Type) (enc : TypeId × Value→H) :
    ReturnsInLeavingWide {} Try.checked os 6 .any (Rows.multiCallsSpec.pre6 enc Try.prog Try.f6 Rows.multiCallsRow.domain false) (Rows.multiCallsSpec.post enc Try.prog Try.f6 false true false false):=by
  refine returnsInLeavingWide_of_change_sized (C:=Try.checked) own started Try.func6
    (ChangeSpec.witness6 (enc:=enc) (C:=Try.checked) false ⟨#[],#[.int .i64 0,.int .i64 0,.int .u8 0,.slice none 0 0],[]⟩ 8 (by kernel_rfl) (by kernel_rfl) (by kernel_rfl) (by kernel_rfl)) ?_
  intro W base args ds gs before hval0 hW _ hsz _
  have hval : ∀ (j : Nat) t v,Try.f6.params[j]? = some t→args[j]? = some v→Value.okWide Try.prog W .any base t v:=hval0
  have hW':=hW
  obtain ⟨p,q,hA0,hV,rfl,hfz,hnd⟩:=hW
  have hA : DataW.TrodAll enc Try.prog W 0 (fun _=>true) true Try.f6.params.toList args.toList ds p:=hA0
  rw [Try.params6] at hA hval hsz
  obtain ⟨v0,vs0,d0,ds0,p0,q0,hargs,rfl,rfl,h0,r0⟩:=trodAll_cons hA
  obtain ⟨v1,vs1,d1,ds1,p1,q1,rfl,rfl,rfl,h1,r1⟩:=trodAll_cons r0
  obtain ⟨v2,vs2,d2,ds2,p2,q2,rfl,rfl,rfl,h2,r2⟩:=trodAll_cons r1
  obtain ⟨v3,vs3,d3,ds3,p3,q3,rfl,rfl,rfl,h3,r3⟩:=trodAll_cons r2
  obtain ⟨rfl,rfl,rfl⟩:=trodAll_nil r3
  obtain rfl : args = #[v0,v1,v2,v3]:=by cases args; simp_all
  obtain ⟨rfl,rfl⟩:=trodVars_none hV
  obtain ⟨a0,rfl,rfl,rfl,w0⟩:=open_int Try.underlying3 (hval 0 3 v0 rfl rfl) h0
  obtain ⟨a1,rfl,rfl,rfl,w1⟩:=open_int Try.underlying2 (hval 1 2 v1 rfl rfl) h1
  obtain ⟨a2,rfl,rfl,rfl,w2⟩:=open_int Try.underlying5 (hval 2 5 v2 rfl rfl) h2
  obtain ⟨B,n,cap,rfl⟩:=okWide_slice Try.underlying52 (hval 3 52 v3 rfl rfl)
  have h3k:=h3
  have hlt : ∀ x ∈ p3,x.block < W.heap.size:=fun x hx=>by simpa using hW'.lt x (by simp [hx])
  obtain ⟨fuel,h3⟩:=h3
  have hw3 : ∀ n ∈ DataW.weights Try.prog 52 d3,n≤reachBytes:=fun n hn =>
    of_decide_eq_true (List.all_eq_true.1 hsz n (DataW.weights_mem_each (j:=3) (t:=52) (d:=d3) rfl rfl n hn))
  obtain ⟨A,len,cap',l,hcs,hle,hmax,hcl,hop⟩:=open_calls h3 hw3
  simp only [Value.cells,List.cons.injEq,and_true,Value.slice.injEq] at hcs
  obtain ⟨rfl,rfl,rfl⟩:=hcs
  simp only [List.append_nil] at hW'
  have b0 : -9223372036854775808≤a0∧a0 < 9223372036854775808:=by
    have h:=w0
    simp [Lit.wf,IntKind.min,IntKind.max,IntKind.signed,IntKind.bits] at h; omega
  have b2 : 0≤a2∧a2 < 256:=by
    have h:=w2
    simp [Lit.wf,IntKind.min,IntKind.max,IntKind.signed,IntKind.bits] at h; omega
  obtain ⟨M,last,o,w',t',r1,r2,r3,r4⟩:=run_good Try.tame (mcalls_true W a0 a1 b0.1 b0.2 a2 b2.1 b2.2 B n cap l hcl hle hmax hop)
  refine ⟨M,last,o,w',t',r1,r2,r3,r4.mono fun v hF=>?_⟩
  have hb : Below W.heap.size W { w' with tape:=W.tape }:=⟨hF.os,rfl,hF.output,hF.size,hF.old⟩
  obtain rfl:=hF.val
  exact ⟨_,_,_,[],_,[],hW',trodAll_cons_mk (shut_bool Try.underlying4 _) trodAll_mk0,
    trodAll_cons_mk (shut_int Try.underlying3 w0) (trodAll_cons_mk (shut_int Try.underlying2 w1) (trodAll_cons_mk (shut_int Try.underlying5 w2) (trodAll_cons_mk ((Below.trod laidOut (by kernel_rfl) (of_decide_eq_true (by kernel_rfl)) h3k hb hlt).of_heap (by rfl)) trodAll_mk0))),rfl,hF.frame _,fun h=>by cases h⟩
theorem over : Rows.multiCallsRow.holds Try.pinned (OpenSpec.ofChange Rows.multiCallsSpec):=
  OpenClaim.holds_of_wide_leaving 6 Try.f6 rfl rfl rfl rfl rfl rfl rfl ⟨rfl,rfl,rfl,rfl,rfl⟩ rfl rfl rfl rfl rfl (by kernel_rfl) Try.func6 (by kernel_rfl)
    (of_decide_eq_true (by kernel_rfl)) (by unfold Func.isWrapper; first | (rw [if_pos (by decide +kernel)]; kernel_rfl) | (rw [if_neg (by decide +kernel)]; exact ⟨rfl,rfl⟩))
    (fun os started H enc _=>lifted os started H enc)
theorem proved : Rows.MultiCallsSaid:=over
end Go.Proofs.Ytoepekcheapgmaa.multiCalls
