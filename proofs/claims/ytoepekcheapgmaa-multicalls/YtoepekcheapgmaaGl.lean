/- DERIVED. The ring of many writers (package multi) among threads: operations of the kinds 1, 2. -/
import Derived.Test.YtoepekcheapgmaaGk
set_option linter.unusedVariables false
set_option linter.unusedSectionVars false
set_option linter.unusedSimpArgs false
namespace Go.Proofs.Ytoepekcheapgmaa
open Go.RowKit Go.Turn Go.Tame Go.Conc
set_option maxHeartbeats 8000000 in
set_option maxRecDepth 100000 in
theorem multi_do1 {I : WIds} (hI : I.Ok) {B : OpsB} {good : OpI→Prop} {L : Lg Try.prog (Tree MSS MSS)} {Cap : (Nat→Prop)→World→Prop} {V : Value} (hk : CapK Cap) (hS : SStep (B.on (multiY I).inner good) L Cap 79 V) (hS2 : SStep (B.on (multiY I).inner good) L Cap 85 V) (H0 : Nat→Prop) (w0 : World) (s : MSS) (H : Nat→Prop) (w : World) (hn : Now (B.on (multiY I).inner good) Cap H0 w0 s H w)
    (hcut : ∀ fr mid x,L.T .cut fr mid x) (i : Nat) (hi : i < 64) (kd oa ob oc : Int) (hg : SG ⟨kd,oa,ob,oc⟩) (q : kd = 1) (k : Ans→MSS→Tree MSS MSS) : Ccalls L 35 #[.pointer (some ⟨I.wb,0,none⟩),V,.int .i64 i,OpI.val ⟨kd,oa,ob,oc⟩] (doM I.M I.k i ⟨kd,oa,ob,oc⟩ s k) w fun u t' w'=>∃ a s' H' lv,u = .agg #[.bool a.ok,.int .i64 a.n,lv]∧t' = k a s'∧Now (B.on (multiY I).inner good) Cap H0 w0 s' H' w'∧OutRow (B.on (multiY I).inner good) w0 H' w' lv a.ls:=by
  have Q:=Lib.hid q
  clear q
  rw [show OpI.val ⟨kd,oa,ob,oc⟩ = .agg #[.int .i64 kd,.int .i64 oa,.int .i64 ob,.int .i64 oc] from rfl]
  intro c mid hR
  have HR:=Lib.hid hR
  have HN:=Lib.hid hn
  clear hR hn
  rw [show Frame.enter Try.prog 35 #[.pointer (some ⟨I.wb,0,none⟩),V,.int .i64 i,.agg #[.int .i64 kd,.int .i64 oa,.int .i64 ob,.int .i64 oc]] .normal = Frame.at { (default : Frame) with fn:=35,kind:=.normal } ⟨#[.pointer (some ⟨I.wb,0,none⟩),V,.int .i64 i,.agg #[.int .i64 kd,.int .i64 oa,.int .i64 ob,.int .i64 oc]] ++ Array.replicate (Try.f35.ntmps - 4) undef,[]⟩ [.code (Try.f35.body.getD .skip)] from by simp [Frame.enter,Frame.at,Try.func35]; rfl]
  simp only [Try.f35,Option.getD_some,Nat.reduceSub,Array.replicate_succ,Array.replicate_zero,List.push_toArray,List.append_toArray,List.nil_append,List.cons_append]
  with_reducible refine Lg.mv_seq _ ?_
  refine Lg.mv_reg _ fun K hK y τ n' hy=>?_
  subst hy
  have hn:=HN.out.re hk
  clear HN
  have HN:=Lib.hid hn
  clear hn
  go_wp2
  refine hK _ _ (fun _=>rfl) ?_
  clear hK K
  have hb5:=(HN.out.own 87 #[.int .i64 kd,.int .i64 oa,.int .i64 ob,.int .i64 oc]).alloc (.cells #[.bool false,.int .i64 0,.slice none 0 0] 91)
  have hb6:=(HN.out.alloc (.cells #[.int .i64 kd,.int .i64 oa,.int .i64 ob,.int .i64 oc] 87)).own 91 #[.bool false,.int .i64 0,.slice none 0 0]
  have hn:=(HN.out.alloc (.cells #[.int .i64 kd,.int .i64 oa,.int .i64 ob,.int .i64 oc] 87)).alloc (.cells #[.bool false,.int .i64 0,.slice none 0 0] 91)
  rw [show (y.alloc (.cells #[.int .i64 kd,.int .i64 oa,.int .i64 ob,.int .i64 oc] 87)).heap.size = y.heap.size + 1 from by simp] at hb6
  clear HN
  generalize (y.alloc (.cells #[.int .i64 kd,.int .i64 oa,.int .i64 ob,.int .i64 oc] 87)).alloc (.cells #[.bool false,.int .i64 0,.slice none 0 0] 91) = z at hn hb5 hb6 ⊢
  have hne : y.heap.size≠y.heap.size + 1:=by omega
  generalize y.heap.size + 1 = b6 at hb6 hne ⊢
  generalize y.heap.size = b5 at hb5 hne ⊢
  have HN:=Lib.hid hn
  have HB5:=Lib.hid hb5
  have HB6:=Lib.hid hb6
  clear hn hb5 hb6
  with_reducible refine Lg.mv_seq _ ?_
  with_reducible refine Lg.mv_reg _ ?_
  intro K hK y τ n' hy
  subst hy
  have hn:=HN.out.re hk
  have hb5:=HB5.out.re
  have hb6:=HB6.out.re
  clear HN HB5 HB6
  obtain ⟨w1,w2,w3,w4⟩:=Lay.At.world hI (show (multiY I).At s.1 _ from hn.rep.at_)
  have HN:=Lib.hid hn
  have HB5:=Lib.hid hb5
  have HB6:=Lib.hid hb6
  clear hn hb5 hb6
  have hi0 : (0 : Int)≤i:=by omega
  have hi1 : (i : Int) < 64:=by omega
  go_quiet (fail)
  refine hK _ _ (fun _=>rfl) ?_
  clear hK K w1 w2 w3 w4 hi0 hi1
  have hn:=HN.out.drewN hk nq
  have hb5:=HB5.out.drewN nq
  have hb6:=HB6.out.drewN nq
  clear HN HB5 HB6
  generalize World.drewN _ nq = z2 at hn hb5 hb6 ⊢
  have HN:=Lib.hid hn
  have HB5:=Lib.hid hb5
  have HB6:=Lib.hid hb6
  clear hn hb5 hb6
  have R : MultiIn (B.on (multiY I).inner good) L Cap V mrl mcl mel I.M:=m_in hI hk hS hS2
  have hFR:=R.free_in hk (readers_hold hI hk hS)
  obtain rfl:=Q.out
  clear Q
  rw [show doM I.M I.k i ⟨1,oa,ob,oc⟩ s k = claimM mrl mcl mel I.M (fun c s kk=>rleastT I.k I.k c (-1) s kk) oa s fun x e s=>k (ansT x e) (if e = 0 then clm s i (x - oa + 1) oa else s) from rfl]
  repeat (first
    | with_reducible refine Lg.mv_seq _ ?_
    | with_reducible refine Lg.mv_skip _ ?_
    | with_reducible refine Lg.mv_block _ ?_
    | with_reducible refine Lg.mv_inBlock _ ?_
    | with_reducible refine Lg.mv_end _ ?_
    | ((with_reducible refine Lg.mv_condT _ ?_ ?_); exact rfl)
    | ((with_reducible refine Lg.mv_condF _ ?_ ?_); exact rfl)
    | ((with_reducible apply Lg.mv_exit); exact rfl)
    | (with_reducible refine Lg.mv_reg _ ?_
       intro K hK y τ n' hy
       subst hy
       have hn:=HN.out.re hk
       have hb5:=HB5.out.re
       have hb6:=HB6.out.re
       clear HN HB5 HB6
       have o0:=hb5.blk.cell 0
       have o1:=hb5.blk.cell 1
       have o2:=hb5.blk.cell 2
       have o3:=hb5.blk.cell 3
       simp only [List.getElem?_toArray,List.getElem?_cons_zero,List.getElem?_cons_succ] at o0 o1 o2 o3
       have HN:=Lib.hid hn
       have HB5:=Lib.hid hb5
       have HB6:=Lib.hid hb6
       clear hn hb5 hb6
       go_wp2
       refine hK _ _ (fun _=>rfl) ?_
       clear hK K o0 o1 o2 o3))
  refine Lg.anyS (MDS I i b5 ⟨1,oa,ob,oc⟩) (by kernel_rfl) ?_
  simp only [List.size_toArray,List.length_cons,List.length_nil,Nat.reduceAdd]
  refine any_readS (i:=0) (fuel:=14) (some 30) rfl rfl (fun _ _ _ h=>h) (fun _ _ _ _ _=>(Lg.re_iff _).1) (by kernel_rfl) (by kernel_rfl) (by kernel_rfl) rfl (mds_of hI HN.out HB5.out) rfl ?_
  apply Exists.intro
  refine ⟨fun wq hw=>?_,?_⟩
  · obtain ⟨⟨hw0,hw1,hw2,hw3⟩,hw4,hw5,hw6,hw7⟩:=hw
    go_simp
    rfl
  simp only [Act.put,List.setIfInBounds_toArray,List.set_cons_zero,List.set_cons_succ]
  refine any_readS (i:=1) (fuel:=13) (some 31) rfl rfl (fun _ _ _ h=>h) (fun _ _ _ _ _=>(Lg.re_iff _).1) (by kernel_rfl) (by kernel_rfl) (by kernel_rfl) rfl (mds_of hI HN.out HB5.out) rfl ?_
  apply Exists.intro
  refine ⟨fun wq hw=>?_,?_⟩
  · obtain ⟨⟨hw0,hw1,hw2,hw3⟩,hw4,hw5,hw6,hw7⟩:=hw
    go_simp
    rfl
  simp only [Act.put,List.setIfInBounds_toArray,List.set_cons_zero,List.set_cons_succ]
  refine any_readS (i:=2) (fuel:=12) (some 32) rfl rfl (fun _ _ _ h=>h) (fun _ _ _ _ _=>(Lg.re_iff _).1) (by kernel_rfl) (by kernel_rfl) (by kernel_rfl) rfl (mds_of hI HN.out HB5.out) rfl ?_
  apply Exists.intro
  refine ⟨fun wq hw=>?_,?_⟩
  · obtain ⟨⟨hw0,hw1,hw2,hw3⟩,hw4,hw5,hw6,hw7⟩:=hw
    go_simp
    rfl
  simp only [Act.put,List.setIfInBounds_toArray,List.set_cons_zero,List.set_cons_succ]
  refine any_readS (i:=3) (fuel:=11) (some 33) rfl rfl (fun _ _ _ h=>h) (fun _ _ _ _ _=>(Lg.re_iff _).1) (by kernel_rfl) (by kernel_rfl) (by kernel_rfl) rfl (mds_of hI HN.out HB5.out) rfl ?_
  apply Exists.intro
  refine ⟨fun wq hw=>?_,?_⟩
  · obtain ⟨⟨hw0,hw1,hw2,hw3⟩,hw4,hw5,hw6,hw7⟩:=hw
    go_simp
    rfl
  simp only [Act.put,List.setIfInBounds_toArray,List.set_cons_zero,List.set_cons_succ]
  refine any_readS (i:=4) (fuel:=10) (some 34) rfl rfl (fun _ _ _ h=>h) (fun _ _ _ _ _=>(Lg.re_iff _).1) (by kernel_rfl) (by kernel_rfl) (by kernel_rfl) rfl (mds_of hI HN.out HB5.out) rfl ?_
  apply Exists.intro
  refine ⟨fun wq hw=>?_,?_⟩
  · obtain ⟨⟨hw0,hw1,hw2,hw3⟩,hw4,hw5,hw6,hw7⟩:=hw
    go_simp
    rfl
  simp only [Act.put,List.setIfInBounds_toArray,List.set_cons_zero,List.set_cons_succ]
  refine any_readS (i:=5) (fuel:=9) (some 35) rfl rfl (fun _ _ _ h=>h) (fun _ _ _ _ _=>(Lg.re_iff _).1) (by kernel_rfl) (by kernel_rfl) (by kernel_rfl) rfl (mds_of hI HN.out HB5.out) rfl ?_
  apply Exists.intro
  refine ⟨fun wq hw=>?_,?_⟩
  · obtain ⟨⟨hw0,hw1,hw2,hw3⟩,hw4,hw5,hw6,hw7⟩:=hw
    go_simp
    rfl
  simp only [Act.put,List.setIfInBounds_toArray,List.set_cons_zero,List.set_cons_succ]
  refine any_readS (i:=6) (fuel:=8) (some 36) rfl rfl (fun _ _ _ h=>h) (fun _ _ _ _ _=>(Lg.re_iff _).1) (by kernel_rfl) (by kernel_rfl) (by kernel_rfl) rfl (mds_of hI HN.out HB5.out) rfl ?_
  apply Exists.intro
  refine ⟨fun wq hw=>?_,?_⟩
  · obtain ⟨⟨hw0,hw1,hw2,hw3⟩,hw4,hw5,hw6,hw7⟩:=hw
    go_simp
    rfl
  simp only [Act.put,List.setIfInBounds_toArray,List.set_cons_zero,List.set_cons_succ]
  refine any_readS (i:=7) (fuel:=7) (some 37) rfl rfl (fun _ _ _ h=>h) (fun _ _ _ _ _=>(Lg.re_iff _).1) (by kernel_rfl) (by kernel_rfl) (by kernel_rfl) rfl (mds_of hI HN.out HB5.out) rfl ?_
  apply Exists.intro
  refine ⟨fun wq hw=>?_,?_⟩
  · obtain ⟨⟨hw0,hw1,hw2,hw3⟩,hw4,hw5,hw6,hw7⟩:=hw
    go_simp
    rfl
  simp only [Act.put,List.setIfInBounds_toArray,List.set_cons_zero,List.set_cons_succ]
  refine any_readS (i:=8) (fuel:=6) (some 38) rfl rfl (fun _ _ _ h=>h) (fun _ _ _ _ _=>(Lg.re_iff _).1) (by kernel_rfl) (by kernel_rfl) (by kernel_rfl) rfl (mds_of hI HN.out HB5.out) rfl ?_
  apply Exists.intro
  refine ⟨fun wq hw=>?_,?_⟩
  · obtain ⟨⟨hw0,hw1,hw2,hw3⟩,hw4,hw5,hw6,hw7⟩:=hw
    go_simp
    rfl
  simp only [Act.put,List.setIfInBounds_toArray,List.set_cons_zero,List.set_cons_succ]
  refine AnyS.one (i:=9) (fuel:=5) (by kernel_rfl) (.inr ⟨_,18,#[.pointer (some ⟨I.M.mb,0,none⟩),V,.iface 159 (.slice I.rA I.k I.rc),.int .i64 oa],rfl,rfl,fun y=>by go_simp,(multi_claimT R hk H y s H _ (HN.out.here hk) hFR hcut oa _).mono ?_⟩)
  rintro vv t' w' ⟨x,e,(s : MSS),H,rfl,⟨hx0,hx1,hx2⟩,rfl,hn'⟩
  have hb5:=HB5.out.held hn'.held
  have hb6:=HB6.out.held hn'.held
  have hn:=HN.out.on hn'
  clear HN HB5 HB6 hn'
  have HN:=Lib.hid hn
  have HB5:=Lib.hid hb5
  have HB6:=Lib.hid hb6
  clear hn hb5 hb6
  refine ⟨mds_of hI HN.out HB5.out,fun _=>rfl,?_⟩
  refine (show AnyS L .any _ _ _ _ _ _ (Act.put _ (some 39) _) _ from ?_)
  simp only [Act.put,List.setIfInBounds_toArray,List.set_cons_zero,List.set_cons_succ]
  refine any_readS (i:=10) (fuel:=4) (some 29) rfl rfl (fun _ _ _ h=>h) (fun _ _ _ _ _=>(Lg.re_iff _).1) (by kernel_rfl) (by kernel_rfl) (by kernel_rfl) rfl (mds_of hI HN.out HB5.out) rfl ?_
  apply Exists.intro
  refine ⟨fun wq hw=>?_,?_⟩
  · obtain ⟨⟨hw0,hw1,hw2,hw3⟩,hw4,hw5,hw6,hw7⟩:=hw
    go_simp
    rfl
  simp only [Act.put,List.setIfInBounds_toArray,List.set_cons_zero,List.set_cons_succ]
  refine any_readS (i:=11) (fuel:=3) (some 40) rfl rfl (fun _ _ _ h=>h) (fun _ _ _ _ _=>(Lg.re_iff _).1) (by kernel_rfl) (by kernel_rfl) (by kernel_rfl) rfl (mds_of hI HN.out HB5.out) rfl ?_
  apply Exists.intro
  refine ⟨fun wq hw=>?_,?_⟩
  · obtain ⟨⟨hw0,hw1,hw2,hw3⟩,hw4,hw5,hw6,hw7⟩:=hw
    go_simp
    rfl
  simp only [Act.put,List.setIfInBounds_toArray,List.set_cons_zero,List.set_cons_succ]
  refine any_readS (i:=12) (fuel:=2) (some 41) rfl rfl (fun _ _ _ h=>h) (fun _ _ _ _ _=>(Lg.re_iff _).1) (by kernel_rfl) (by kernel_rfl) (by kernel_rfl) rfl (mds_of hI HN.out HB5.out) rfl ?_
  apply Exists.intro
  refine ⟨fun wq hw=>?_,?_⟩
  · obtain ⟨⟨hw0,hw1,hw2,hw3⟩,hw4,hw5,hw6,hw7⟩:=hw
    go_simp
    rfl
  simp only [Act.put,List.setIfInBounds_toArray,List.set_cons_zero,List.set_cons_succ]
  refine any_readS (i:=13) (fuel:=1) (some 11) rfl rfl (fun _ _ _ h=>h) (fun _ _ _ _ _=>(Lg.re_iff _).1) (by kernel_rfl) (by kernel_rfl) (by kernel_rfl) rfl (mds_of hI HN.out HB5.out) rfl ?_
  apply Exists.intro
  refine ⟨fun wq hw=>?_,?_⟩
  · obtain ⟨⟨hw0,hw1,hw2,hw3⟩,hw4,hw5,hw6,hw7⟩:=hw
    go_simp
    rfl
  simp only [Act.put,List.setIfInBounds_toArray,List.set_cons_zero,List.set_cons_succ]
  refine any_readS (i:=14) (fuel:=0) (some 12) rfl rfl (fun _ _ _ h=>h) (fun _ _ _ _ _=>(Lg.re_iff _).1) (by kernel_rfl) (by kernel_rfl) (by kernel_rfl) rfl (mds_of hI HN.out HB5.out) rfl ?_
  apply Exists.intro
  refine ⟨fun wq hw=>?_,?_⟩
  · obtain ⟨⟨hw0,hw1,hw2,hw3⟩,hw4,hw5,hw6,hw7⟩:=hw
    go_simp
    rfl
  simp only [Act.put,List.setIfInBounds_toArray,List.set_cons_zero,List.set_cons_succ]
  refine AnyS.done (by kernel_rfl) ?_ _
  refine (show L.T (k (ansT x e) (if e = 0 then clm s i (x - oa + 1) oa else s)) _ _ _ from ?_)
  by_cases he : e = 0
  · subst he
    obtain ⟨hx3,hx4⟩:=hx2 rfl
    have hM2:=R.n2
    refine (show L.T (k (ansT x 0) (clm s i (x - oa + 1) oa)) _ _ _ from ?_)
    with_reducible refine Lg.mv_seq _ ?_
    with_reducible refine Lg.mv_seq _ ?_
    with_reducible refine Lg.mv_reg _ ?_
    intro K hK y τ n' hy
    subst hy
    have hn:=HN.out.re hk
    have hb5:=HB5.out.re
    have hb6:=HB6.out.re
    clear HN HB5 HB6
    have o0:=hb5.blk.cell 0
    have o1:=hb5.blk.cell 1
    have o2:=hb5.blk.cell 2
    have o3:=hb5.blk.cell 3
    simp only [List.getElem?_toArray,List.getElem?_cons_zero,List.getElem?_cons_succ] at o0 o1 o2 o3
    have HN:=Lib.hid hn
    have HB5:=Lib.hid hb5
    have HB6:=Lib.hid hb6
    clear hn hb5 hb6
    go_wp2
    refine hK _ _ (fun _=>rfl) ?_
    clear hK K o0 o1 o2 o3
    ((with_reducible refine Lg.mv_condT _ ?_ ?_); exact rfl)
    with_reducible refine Lg.mv_reg _ ?_
    intro K hK y τ n' hy
    subst hy
    have hn:=HN.out.re hk
    have hb5:=HB5.out.re
    have hb6:=HB6.out.re
    clear HN HB5 HB6
    have o1 : y.cell? ⟨b5,1,none⟩ = some (.int .i64 oa):=hb5.blk.cell 1
    have hat:=(show (multiY I).At s.1 y from hn.rep.at_)
    obtain ⟨p0,p1⟩:=hat.claim hi
    have z0:=hat.free (b:=I.wb) (.inl rfl) (2 + i * 2)
    have z1:=hat.free (b:=I.wb) (.inl rfl) (2 + i * 2 + 1)
    have hok:=hat.ok
    clear hat
    have HOK:=Lib.hid hok
    clear hok
    have HN:=Lib.hid hn
    have HB5:=Lib.hid hb5
    have HB6:=Lib.hid hb6
    clear hn hb5 hb6
    go_wp2
    refine hK _ _ (fun _=>rfl) ?_
    clear hK K o1 p0 p1 z0 z1
    have hn:=HN.out
    have hb5:=HB5.out
    have hb6:=HB6.out
    have hok:=HOK.out
    clear HN HB5 HB6 HOK
    have hok1 : MOk { s.1 with cf:=upd s.1.cf i (x - oa + 1) }:=⟨hok.c0,hok.c1,upd_all (P:=fun x=>-65536≤x∧x≤4611686018427387904) (by omega) hok.f0,hok.f1⟩
    have hok2 : MOk (clm s i (x - oa + 1) oa).1:=⟨hok.c0,hok.c1,hok1.f0,upd_all (P:=fun x=>0≤x∧x≤65536) (by omega) hok.f1⟩
    have l1:=lay_set hn.rep (m_cf hI hi s.1 (x - oa + 1)) hok1
    have hn1:=hn.to hk l1
    have l2:=lay_set hn1.rep (m_cn hI hi { s.1 with cf:=upd s.1.cf i (x - oa + 1) } oa) hok2
    have hn:=(hn1.to hk l2 : Now (B.on (multiY I).inner good) Cap H0 w0 (clm s i (x - oa + 1) oa) H _)
    have hb5:=(hb5.held l1.2).held l2.2
    have hb6:=(hb6.held l1.2).held l2.2
    clear l1 l2 hn1 hok hok1 hok2
    generalize (y.setCell ⟨I.wb,2 + i * 2,none⟩ (Value.int IntKind.i64 (x - oa + 1))).setCell ⟨I.wb,2 + i * 2 + 1,none⟩ (Value.int IntKind.i64 oa) = z at hn hb5 hb6 ⊢
    have HN:=Lib.hid hn
    have HB5:=Lib.hid hb5
    have HB6:=Lib.hid hb6
    clear hn hb5 hb6
    with_reducible refine Lg.mv_seq _ ?_
    with_reducible refine Lg.mv_reg _ ?_
    intro K hK y τ n' hy
    subst hy
    have hn:=HN.out.re hk
    have hb5:=HB5.out.re
    have hb6:=HB6.out.re
    clear HN HB5 HB6
    have o0:=hb6.blk.cell 0
    have o1:=hb6.blk.cell 1
    have o2:=hb6.blk.cell 2
    have z0:=hb6.blk.frozen 0
    have z1:=hb6.blk.frozen 1
    have z2:=hb6.blk.frozen 2
    simp only [List.getElem?_toArray,List.getElem?_cons_zero,List.getElem?_cons_succ] at o0 o1 o2
    have HN:=Lib.hid hn
    have HB5:=Lib.hid hb5
    have HB6:=Lib.hid hb6
    clear hn hb5 hb6
    go_wp2_with (go_at_call 65; refine (multi_told _ _ _).mono ?_; rintro e' w' ⟨rfl,hkept⟩; have hn:=HN.out.kept hkept; have hb6:=HB6.out.kept hkept; have z0:=hb6.blk.frozen 0; have z1:=hb6.blk.frozen 1; have z2:=hb6.blk.frozen 2; have o0:=hb6.blk.cell 0; have o1:=hb6.blk.cell 1; have o2:=hb6.blk.cell 2; simp at o0 o1 o2)
    refine hK _ _ (fun _=>rfl) ?_
    clear hK K HN HB5 HB6 o0 o1 o2 z0 z1 z2
    have hbb:=((hb6.set_ 0 (.bool (true))).set_ 1 (.int .i64 (toldN x 0))).set_ 2 (.slice none 0 0)
    have hnn:=((hn.set_ hb6 0 (.bool (true))).set_ (hb6.set_ 0 (.bool (true))) 1 (.int .i64 (toldN x 0))).set_ ((hb6.set_ 0 (.bool (true))).set_ 1 (.int .i64 (toldN x 0))) 2 (.slice none 0 0)
    simp only [List.setIfInBounds_toArray,List.set_cons_zero,List.set_cons_succ] at hbb
    generalize World.setCell _ _ _ = w6 at hbb hnn ⊢
    clear hn hb6
    with_reducible refine Lg.mv_ret _ ?_
    refine Lg.leave rfl Try.func35 rfl (v:=.agg #[.bool (true),.int .i64 (toldN x 0),.slice none 0 0]) (fun y τ n hy=>?_) (HR.out _ _ _ ⟨⟨true,toldN x 0,[]⟩,_,H,.slice none 0 0,rfl,rfl,hnn,OutRow.nil⟩)
    have c0 : y.cell? ⟨b6,0,none⟩ = some (.bool (true)):=by have:=hbb.blk.cell 0; rw [hy] at this; exact this
    have c1 : y.cell? ⟨b6,1,none⟩ = some (.int .i64 (toldN x 0)):=by have:=hbb.blk.cell 1; rw [hy] at this; exact this
    have c2 : y.cell? ⟨b6,2,none⟩ = some (.slice none 0 0):=by have:=hbb.blk.cell 2; rw [hy] at this; exact this
    simp [results,Try.f35,go_sem,c0,c1,c2]
  · rw [if_neg he]
    have hd : (e == 0) = false:=by simpa using he
    clear he
    with_reducible refine Lg.mv_seq _ ?_
    with_reducible refine Lg.mv_seq _ ?_
    with_reducible refine Lg.mv_reg _ ?_
    intro K hK y τ n' hy
    subst hy
    have hn:=HN.out.re hk
    have hb5:=HB5.out.re
    have hb6:=HB6.out.re
    clear HN HB5 HB6
    have o0:=hb5.blk.cell 0
    have o1:=hb5.blk.cell 1
    have o2:=hb5.blk.cell 2
    have o3:=hb5.blk.cell 3
    simp only [List.getElem?_toArray,List.getElem?_cons_zero,List.getElem?_cons_succ] at o0 o1 o2 o3
    have HN:=Lib.hid hn
    have HB5:=Lib.hid hb5
    have HB6:=Lib.hid hb6
    clear hn hb5 hb6
    go_wp2
    refine hK _ _ (fun _=>rfl) ?_
    clear hK K o0 o1 o2 o3
    ((with_reducible refine Lg.mv_condF _ ?_ ?_); exact rfl)
    with_reducible refine Lg.mv_skip _ ?_
    clear hd
    with_reducible refine Lg.mv_seq _ ?_
    with_reducible refine Lg.mv_reg _ ?_
    intro K hK y τ n' hy
    subst hy
    have hn:=HN.out.re hk
    have hb5:=HB5.out.re
    have hb6:=HB6.out.re
    clear HN HB5 HB6
    have o0:=hb6.blk.cell 0
    have o1:=hb6.blk.cell 1
    have o2:=hb6.blk.cell 2
    have z0:=hb6.blk.frozen 0
    have z1:=hb6.blk.frozen 1
    have z2:=hb6.blk.frozen 2
    simp only [List.getElem?_toArray,List.getElem?_cons_zero,List.getElem?_cons_succ] at o0 o1 o2
    have HN:=Lib.hid hn
    have HB5:=Lib.hid hb5
    have HB6:=Lib.hid hb6
    clear hn hb5 hb6
    go_wp2_with (go_at_call 65; refine (multi_told _ _ _).mono ?_; rintro e' w' ⟨rfl,hkept⟩; have hn:=HN.out.kept hkept; have hb6:=HB6.out.kept hkept; have z0:=hb6.blk.frozen 0; have z1:=hb6.blk.frozen 1; have z2:=hb6.blk.frozen 2; have o0:=hb6.blk.cell 0; have o1:=hb6.blk.cell 1; have o2:=hb6.blk.cell 2; simp at o0 o1 o2)
    refine hK _ _ (fun _=>rfl) ?_
    clear hK K HN HB5 HB6 o0 o1 o2 z0 z1 z2
    have hbb:=((hb6.set_ 0 (.bool (e == 0))).set_ 1 (.int .i64 (toldN x e))).set_ 2 (.slice none 0 0)
    have hnn:=((hn.set_ hb6 0 (.bool (e == 0))).set_ (hb6.set_ 0 (.bool (e == 0))) 1 (.int .i64 (toldN x e))).set_ ((hb6.set_ 0 (.bool (e == 0))).set_ 1 (.int .i64 (toldN x e))) 2 (.slice none 0 0)
    simp only [List.setIfInBounds_toArray,List.set_cons_zero,List.set_cons_succ] at hbb
    generalize World.setCell _ _ _ = w6 at hbb hnn ⊢
    clear hn hb6
    with_reducible refine Lg.mv_ret _ ?_
    refine Lg.leave rfl Try.func35 rfl (v:=.agg #[.bool (e == 0),.int .i64 (toldN x e),.slice none 0 0]) (fun y τ n hy=>?_) (HR.out _ _ _ ⟨⟨e == 0,toldN x e,[]⟩,_,H,.slice none 0 0,rfl,rfl,hnn,OutRow.nil⟩)
    have c0 : y.cell? ⟨b6,0,none⟩ = some (.bool (e == 0)):=by have:=hbb.blk.cell 0; rw [hy] at this; exact this
    have c1 : y.cell? ⟨b6,1,none⟩ = some (.int .i64 (toldN x e)):=by have:=hbb.blk.cell 1; rw [hy] at this; exact this
    have c2 : y.cell? ⟨b6,2,none⟩ = some (.slice none 0 0):=by have:=hbb.blk.cell 2; rw [hy] at this; exact this
    simp [results,Try.f35,go_sem,c0,c1,c2]
end Go.Proofs.Ytoepekcheapgmaa
