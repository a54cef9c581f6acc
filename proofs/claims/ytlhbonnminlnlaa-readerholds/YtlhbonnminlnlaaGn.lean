/- DERIVED. The world with which a run of readers begins (package reader: made), lone: rows of pointers. -/
import Derived.Test.YtlhbonnminlnlaaGm
import Derived.Test.YtlhbonnminlnlaaGj
import Derived.Test.YtlhbonnminlnlaaGi
import Derived.Test.YtlhbonnminlnlaaGl
import Derived.Test.YtlhbonnminlnlaaGh
import Derived.Test.YtlhbonnminlnlaaGk
set_option linter.unusedVariables false
set_option linter.unusedSectionVars false
set_option linter.unusedSimpArgs false
namespace Go.Proofs.Ytlhbonnminlnlaa
open Go.RowKit Go.Turn Go.Tame Go.Conc
open Go.ConcN (upd upd_ne upd_same)
theorem OutRow.far {D : OpsD} {w0 wa : World} {H : Nat→Prop} {v : Value} {ls : List Int} (h : OutRow D w0 H wa v ls) {b : Nat} (o : Nat) (u : Value) (hb : ∀ b',v.ownBlock = some b'→b'≠b) : OutRow D w0 H (wa.setCell ⟨b,o,none⟩ u) v ls:=
 ⟨own_same h.own fun b' hb'=>Below.heap_setCell _ _ _ _ (hb b' hb'),h.nh⟩
theorem OutRow.not {D : OpsD} {w0 wa w1 : World} {H H1 : Nat→Prop} {v : Value} {ls : List Int} (h : OutRow D w0 H wa v ls) {b : Nat} {t : TypeId} {cs : Array Value} (h2 : Own1 D w1 H1 wa b t cs) (ht : t≠2) (b' : Nat) (hb : v.ownBlock = some b') : b'≠b:=fun e=>by
 obtain ⟨_,cur,h1⟩:=h.blk hb
 rw [e,show wa.heap[b]? = _ from h2.blk] at h1
 simp only [Option.some.injEq,Obj.cells.injEq] at h1
 exact ht h1.2.1
theorem wpList_append_none {P : Program} (w : World) {ops : Array Oper} {rest : List Oper} {o : Oper} {a : Act} {Q : Exit→Act→World→Prop} (hgd : o.guard = none) (s x : Operand) (t : TypeId)
  (ho : o.op = .call { callee:=.builtin .append,args:=#[s,x],argTypes:=#[t,t] }) (e : TypeId) (i : TypeInfo) (ht : P.underlying t = some (.slice e)) (hi : P.info? e = some i) (g n c : Nat) (hnc : n≤c)
  (hs : a.eval s = .slice (some ⟨g,0,none⟩) n c) (hx : a.eval x = .slice none 0 0) (h : wpList P ops Q rest (a.put o.dst (.slice (some ⟨g,0,none⟩) n c)) w) : wpList P ops Q (o :: rest) a w:=by
 refine wpList_plain hgd fun _ hK=>?_
 have hr : (Builtin.append_ #[t,t] o.type #[.slice (some ⟨g,0,none⟩) n c,.slice none 0 0]).run P w = .ok (.slice (some ⟨g,0,none⟩) n c) w:=by
  simp [Builtin.append_,run_underlying ht,sizeOf,typeInfo,hi,Builtin.lenOf,Builtin.firstCells,hnc,storeCells]
 unfold Oper.wp execOp
 simp only [ho,resolve,invoke,builtin,Sem.run_bind,Sem.run_pure,Result.andThen_ok,List.map_toArray,List.map_cons,List.map_nil,hs,hx,hr]
 exact hK _ _ h
set_option maxHeartbeats 8000000 in
set_option maxRecDepth 100000 in
theorem reader_do3 {I : RIds} (hI : I.Ok) {B : OpsB} {good : OpI→Prop} {L : Lg Try.prog (Tree RSS RSS)} {Cap : (Nat→Prop)→World→Prop} {V : Value} (hk : CapK Cap) (hS : SStep (B.on (readY I).inner good) L Cap 75 V) (hS2 : SStep (B.on (readY I).inner good) L Cap 51 V) (hS3 : SStep (B.on (readY I).inner good) L Cap 59 V) (H0 : Nat→Prop) (w0 : World) (s : RSS) (H : Nat→Prop) (w : World) (hn : Now (B.on (readY I).inner good) Cap H0 w0 s H w)
  (hcut : ∀ fr mid x,L.T .cut fr mid x) (i : Nat) (hi : i < I.k) (kd oa ob oc : Int) (hg : SG ⟨kd,oa,ob,oc⟩) (q : kd = 3) (k : Ans→RSS→Tree RSS RSS) : Ccalls L 40 #[.pointer (some ⟨I.wb,0,none⟩),V,.int .i64 i,OpI.val ⟨kd,oa,ob,oc⟩] (doR I.M I.k i ⟨kd,oa,ob,oc⟩ s k) w fun u t' w'=>∃ a s' H' lv,u = .agg #[.bool a.ok,.int .i64 a.n,lv]∧t' = k a s'∧Now (B.on (readY I).inner good) Cap H0 w0 s' H' w'∧OutRow (B.on (readY I).inner good) w0 H' w' lv a.ls:=by
 have Q:=Lib.hid q
 clear q
 rw [show OpI.val ⟨kd,oa,ob,oc⟩ = .agg #[.int .i64 kd,.int .i64 oa,.int .i64 ob,.int .i64 oc] from rfl]
 intro c mid hR
 have HR:=Lib.hid hR
 have HN:=Lib.hid hn
 clear hR hn
 rw [show Frame.enter Try.prog 40 #[.pointer (some ⟨I.wb,0,none⟩),V,.int .i64 i,.agg #[.int .i64 kd,.int .i64 oa,.int .i64 ob,.int .i64 oc]] .normal = Frame.at { (default : Frame) with fn:=40,kind:=.normal } ⟨#[.pointer (some ⟨I.wb,0,none⟩),V,.int .i64 i,.agg #[.int .i64 kd,.int .i64 oa,.int .i64 ob,.int .i64 oc]] ++ Array.replicate (Try.f40.ntmps - 4) undef,[]⟩ [.code (Try.f40.body.getD .skip)] from by simp [Frame.enter,Frame.at,Try.func40]; rfl]
 simp only [Try.f40,Option.getD_some,Nat.reduceSub,Array.replicate_succ,Array.replicate_zero,List.push_toArray,List.append_toArray,List.nil_append,List.cons_append]
 with_reducible refine Lg.mv_seq _ ?_
 refine Lg.mv_reg _ fun K hK y τ n' hy=>?_
 subst hy
 have hn:=HN.out.re hk
 clear HN
 have HN:=Lib.hid hn
 clear hn
 go_wp2
 refine hK _ _ (fun _=>rfl) ?_
 clear hK K
 have hb5:=(HN.out.own 62 #[.int .i64 kd,.int .i64 oa,.int .i64 ob,.int .i64 oc]).alloc (.cells #[.bool false,.int .i64 0,.slice none 0 0] 66)
 have hb6:=(HN.out.alloc (.cells #[.int .i64 kd,.int .i64 oa,.int .i64 ob,.int .i64 oc] 62)).own 66 #[.bool false,.int .i64 0,.slice none 0 0]
 have hn:=(HN.out.alloc (.cells #[.int .i64 kd,.int .i64 oa,.int .i64 ob,.int .i64 oc] 62)).alloc (.cells #[.bool false,.int .i64 0,.slice none 0 0] 66)
 rw [show (y.alloc (.cells #[.int .i64 kd,.int .i64 oa,.int .i64 ob,.int .i64 oc] 62)).heap.size = y.heap.size + 1 from by simp] at hb6
 clear HN
 generalize (y.alloc (.cells #[.int .i64 kd,.int .i64 oa,.int .i64 ob,.int .i64 oc] 62)).alloc (.cells #[.bool false,.int .i64 0,.slice none 0 0] 66) = z at hn hb5 hb6 ⊢
 have hne : y.heap.size≠y.heap.size + 1:=by omega
 generalize y.heap.size + 1 = b6 at hb6 hne ⊢
 generalize y.heap.size = b5 at hb5 hne ⊢
 have HN:=Lib.hid hn
 have HB5:=Lib.hid hb5
 have HB6:=Lib.hid hb6
 clear hn hb5 hb6
 with_reducible refine Lg.mv_seq _ ?_
 with_reducible refine Lg.mv_seq _ ?_
 with_reducible refine Lg.mv_reg _ ?_
 intro K hK y τ n' hy
 subst hy
 have hn:=HN.out.re hk
 have hb5:=HB5.out.re
 have hb6:=HB6.out.re
 clear HN HB5 HB6
 obtain ⟨w1,w2,w3,w4,w5,w6,w7,w8⟩:=Lay.At.rworld hI (show (readY I).At s.1 _ from hn.rep.at_) hi
 have HN:=Lib.hid hn
 have HB5:=Lib.hid hb5
 have HB6:=Lib.hid hb6
 clear hn hb5 hb6
 go_wp2
 refine hK _ _ (fun _=>rfl) ?_
 clear hK K w1 w2 w3 w4 w5 w6 w7 w8
 repeat (first
  | with_reducible refine Lg.mv_seq _ ?_
  | with_reducible refine Lg.mv_skip _ ?_
  | with_reducible refine Lg.mv_block _ ?_
  | with_reducible refine Lg.mv_inBlock _ ?_
  | with_reducible refine Lg.mv_end _ ?_
  | ((with_reducible refine Lg.mv_condT _ ?_ ?_); exact rfl)
  | ((with_reducible refine Lg.mv_condF _ ?_ ?_); exact rfl)
  | ((with_reducible apply Lg.mv_exit); exact rfl))
 with_reducible refine Lg.mv_reg _ ?_
 intro K hK y τ n' hy
 subst hy
 have hn:=HN.out.re hk
 have hb5:=HB5.out.re
 have hb6:=HB6.out.re
 clear HN HB5 HB6
 obtain ⟨w1,w2,w3,w4,w5,w6,w7,w8⟩:=Lay.At.rworld hI (show (readY I).At s.1 _ from hn.rep.at_) hi
 have HN:=Lib.hid hn
 have HB5:=Lib.hid hb5
 have HB6:=Lib.hid hb6
 clear hn hb5 hb6
 have hi0 : (0 : Int)≤i:=by omega
 have hi1 : (i : Int) < I.k:=by omega
 go_quiet (fail)
 refine hK _ _ (fun _=>rfl) ?_
 clear hK K w1 w2 w3 w4 w5 w6 w7 w8 hi0 hi1
 have hn:=HN.out.drewN hk nq
 have hb5:=HB5.out.drewN nq
 have hb6:=HB6.out.drewN nq
 clear HN HB5 HB6
 generalize World.drewN _ nq = z2 at hn hb5 hb6 ⊢
 have HN:=Lib.hid hn
 have HB5:=Lib.hid hb5
 have HB6:=Lib.hid hb6
 clear hn hb5 hb6
 have R : MultiIn (B.on (readY I).inner good) L Cap V rrl rcl rel I.M:=r_in hI hk hS hS2
 have hFR:=R.free_in hk (gate_hold hI hcut)
 obtain rfl:=Q.out
 clear Q
 rw [show doR I.M I.k i ⟨3,oa,ob,oc⟩ s k = rreadT I.M.n i oa s fun ls e s=>k ⟨e == 0,toldN 0 e,ls⟩ s from if_pos hi]
 repeat (first
  | with_reducible refine Lg.mv_seq _ ?_
  | with_reducible refine Lg.mv_skip _ ?_
  | with_reducible refine Lg.mv_block _ ?_
  | with_reducible refine Lg.mv_inBlock _ ?_
  | with_reducible refine Lg.mv_end _ ?_
  | ((with_reducible refine Lg.mv_condT _ ?_ ?_); exact rfl)
  | ((with_reducible refine Lg.mv_condF _ ?_ ?_); exact rfl)
  | ((with_reducible apply Lg.mv_exit); exact rfl)
  | (with_reducible refine Lg.mv_reg _ ?_
     intro K hK y τ n' hy
     subst hy
     have hn:=HN.out.re hk
     have hb5:=HB5.out.re
     have hb6:=HB6.out.re
     clear HN HB5 HB6
     have o0:=hb5.blk.cell 0
     have o1:=hb5.blk.cell 1
     have o2:=hb5.blk.cell 2
     have o3:=hb5.blk.cell 3
     simp only [List.getElem?_toArray,List.getElem?_cons_zero,List.getElem?_cons_succ] at o0 o1 o2 o3
     have HN:=Lib.hid hn
     have HB5:=Lib.hid hb5
     have HB6:=Lib.hid hb6
     clear hn hb5 hb6
     go_wp2
     refine hK _ _ (fun _=>rfl) ?_
     clear hK K o0 o1 o2 o3))
 with_reducible refine Lg.mv_region _ ?_
 refine Lg.pre 0 4 6 (by simp) fun K hK y τ n' hz=>?_
 subst hz
 have hn:=HN.out.re hk
 have hb5:=HB5.out.re
 have hb6:=HB6.out.re
 clear HN HB5 HB6
 have o0:=hb5.blk.cell 0
 have o1:=hb5.blk.cell 1
 have o2:=hb5.blk.cell 2
 have o3:=hb5.blk.cell 3
 simp only [List.getElem?_toArray,List.getElem?_cons_zero,List.getElem?_cons_succ] at o0 o1 o2 o3
 have HN:=Lib.hid hn
 have HB5:=Lib.hid hb5
 have HB6:=Lib.hid hb6
 clear hn hb5 hb6
 simp only [List.drop_zero,List.take_succ_cons,List.take_zero]
 go_wp2
 refine hK _ _ (fun _=>rfl) ?_
 clear hK K o0 o1 o2 o3
 refine Lg.call (i:=4) (rest:=[5,6,7,8,9]) (f:=14) (args:=#[.pointer (some ⟨I.rd i,0,none⟩),V,.int .i64 oa]) rfl rfl (fun y=>by go_simp) (reader_readT hI hk hS hS2 hS3 H y s H _ (HN.out.here hk) hcut i hi oa hg.1 hg.2.1 _) ?_
 rintro vv t' w' ⟨ls,e,lv,s,H,rfl,rfl,hn',hout⟩
 have hb5:=HB5.out.held hn'.held
 have hb6:=HB6.out.held hn'.held
 have hn:=HN.out.on hn'
 have hout : OutRow (B.on (readY I).inner good) w0 H _ lv ls:=⟨own_base hout.own HN.out.held.size,hout.nh⟩
 clear HN HB5 HB6 hn'
 have HN:=Lib.hid hn
 have HB5:=Lib.hid hb5
 have HB6:=Lib.hid hb6
 have HO:=Lib.hid hout
 clear hn hb5 hb6 hout
 obtain ⟨lA,lc,rfl⟩:=own_slice HO.out.own
 rw [Frame.finish_at]
 walk_nrm
 refine (show L.T _ (Frame.at _ ⟨_,[]⟩ (.inRegion _ (List.range' 5 (5 + 0)) :: _)) (c :: mid) _ from ?_)
 refine Lg.pre 5 5 0 (by simp) fun K hK y τ n' hz=>?_
 subst hz
 have hn:=HN.out.re hk
 have hb5:=HB5.out.re
 have hb6:=HB6.out.re
 have hout:=HO.out.re
 clear HN HB5 HB6 HO
 have HN:=Lib.hid hn
 have HB5:=Lib.hid hb5
 have HB6:=Lib.hid hb6
 have HO:=Lib.hid hout
 clear hn hb5 hb6 hout
 simp only [List.drop_succ_cons,List.drop_zero,List.take_succ_cons,List.take_zero]
 go_wp2
 refine hK _ _ (fun _=>rfl) ?_
 clear hK K
 refine Lg.move _ (fun _ _=>step_region_end) (fun h=>h) ?_
 with_reducible refine Lg.mv_seq _ ?_
 with_reducible refine Lg.mv_reg _ ?_
 intro K hK y τ n' hy
 subst hy
 have hn:=HN.out.re hk
 have hb5:=HB5.out.re
 have hb6:=HB6.out.re
 have hout:=HO.out.re
 clear HN HB5 HB6 HO
 have HN:=Lib.hid hn
 have HB5:=Lib.hid hb5
 have HB6:=Lib.hid hb6
 have HO:=Lib.hid hout
 clear hn hb5 hb6 hout
 go_wp2_with (go_at_call 68; refine (reader_told _ _ _).mono ?_; rintro e' w' ⟨rfl,hkept⟩)
 have hlt6 : b6 < w'.heap.size:=(HB6.out.kept hkept).blk.lt
 have hn:=HN.out.kept hkept
 have hb6:=HB6.out.kept hkept
 have hout:=HO.out.kept hkept
 clear HN HB5 HB6 HO hkept
 have hba:=hn.own 66 #[.bool (e == 0),.int .i64 (toldN 0 e),.slice none 0 0]
 have hb6:=hb6.alloc (.cells #[.bool (e == 0),.int .i64 (toldN 0 e),.slice none 0 0] 66)
 have hout:=hout.kept (Kept.alloc _ (.cells #[.bool (e == 0),.int .i64 (toldN 0 e),.slice none 0 0] 66))
 have hne2 : b6≠w'.heap.size:=by have:=hb6.blk.lt; have : b6 < w'.heap.size:=hlt6; omega
 have hn:=hn.alloc (.cells #[.bool (e == 0),.int .i64 (toldN 0 e),.slice none 0 0] 66)
 refine hK _ _ (fun _=>rfl) ?_
 clear hK K
 generalize w'.alloc (.cells #[.bool (e == 0),.int .i64 (toldN 0 e),.slice none 0 0] 66) = w5 at hn hb6 hba hout ⊢
 generalize w'.heap.size = ba at hba hne2 ⊢
 clear hlt6
 have HN:=Lib.hid hn
 have HB6:=Lib.hid hb6
 have HBA:=Lib.hid hba
 have HO:=Lib.hid hout
 clear hn hb6 hba hout
 with_reducible refine Lg.mv_seq _ ?_
 with_reducible refine Lg.mv_reg _ ?_
 intro K hK y τ n' hy
 subst hy
 have hn:=HN.out.re hk
 have hb6:=HB6.out.re
 have hba:=HBA.out.re
 have hout:=HO.out.re
 clear HN HB6 HBA HO
 have a0:=hba.blk.cell 0
 have a1:=hba.blk.cell 1
 have a2:=hba.blk.cell 2
 have y2:=hba.blk.frozen 2
 simp only [List.getElem?_toArray,List.getElem?_cons_zero,List.getElem?_cons_succ] at a0 a1 a2
 have HN:=Lib.hid hn
 have HB6:=Lib.hid hb6
 have HBA:=Lib.hid hba
 have HO:=Lib.hid hout
 clear hn hb6 hba hout
 go_wp2
 refine hK _ _ (fun _=>rfl) ?_
 clear hK K a0 a1 a2 y2
 have hn:=HN.out.set_ HBA.out 2 (.slice lA (ls).length lc)
 have hout:=HO.out.far 2 (.slice lA (ls).length lc) (HO.out.not HBA.out (by decide))
 have hb6:=HB6.out.far hne2 2 (.slice lA (ls).length lc)
 have hba:=HBA.out.set_ 2 (.slice lA (ls).length lc)
 clear HN HO HB6 HBA
 simp only [List.setIfInBounds_toArray,List.set_cons_zero,List.set_cons_succ] at hba
 generalize World.setCell _ _ _ = w6 at hn hout hb6 hba ⊢
 have HN:=Lib.hid hn
 have HB6:=Lib.hid hb6
 have HBA:=Lib.hid hba
 have HO:=Lib.hid hout
 clear hn hb6 hba hout
 with_reducible refine Lg.mv_seq _ ?_
 with_reducible refine Lg.mv_reg _ ?_
 intro K hK y τ n' hy
 subst hy
 have hn:=HN.out.re hk
 have hb6:=HB6.out.re
 have hba:=HBA.out.re
 have hout:=HO.out.re
 clear HN HB6 HBA HO
 have a0:=hba.blk.cell 0
 have a1:=hba.blk.cell 1
 have a2:=hba.blk.cell 2
 have y2:=hba.blk.frozen 2
 simp only [List.getElem?_toArray,List.getElem?_cons_zero,List.getElem?_cons_succ] at a0 a1 a2
 have o0:=hb6.blk.cell 0
 have o1:=hb6.blk.cell 1
 have o2:=hb6.blk.cell 2
 have z0:=hb6.blk.frozen 0
 have z1:=hb6.blk.frozen 1
 have z2:=hb6.blk.frozen 2
 simp only [List.getElem?_toArray,List.getElem?_cons_zero,List.getElem?_cons_succ] at o0 o1 o2
 have HN:=Lib.hid hn
 have HB6:=Lib.hid hb6
 have HBA:=Lib.hid hba
 have HO:=Lib.hid hout
 clear hn hb6 hba hout
 go_wp2
 refine hK _ _ (fun _=>rfl) ?_
 clear hK K a0 a1 a2 y2 o0 o1 o2 z0 z1 z2
 have hn:=HN.out
 have hb6:=HB6.out
 have hout:=HO.out
 clear HN HB6 HBA HO
 have hbb:=((hb6.set_ 0 (.bool (e == 0))).set_ 1 (.int .i64 (toldN 0 e))).set_ 2 (.slice lA (ls).length lc)
 have hnn:=((hn.set_ hb6 0 (.bool (e == 0))).set_ (hb6.set_ 0 (.bool (e == 0))) 1 (.int .i64 (toldN 0 e))).set_ ((hb6.set_ 0 (.bool (e == 0))).set_ 1 (.int .i64 (toldN 0 e))) 2 (.slice lA (ls).length lc)
 have hnb:=hout.not hb6 (by decide)
 have hoo:=((hout.far 0 (.bool (e == 0)) hnb).far 1 (.int .i64 (toldN 0 e)) hnb).far 2 (.slice lA (ls).length lc) hnb
 simp only [List.setIfInBounds_toArray,List.set_cons_zero,List.set_cons_succ] at hbb
 generalize World.setCell _ _ _ = w6 at hbb hnn hoo ⊢
 clear hn hb6 hout hnb
 with_reducible refine Lg.mv_ret _ ?_
 refine Lg.leave rfl Try.func40 rfl (v:=.agg #[.bool (e == 0),.int .i64 (toldN 0 e),.slice lA (ls).length lc]) (fun y τ n hy=>?_) (HR.out _ _ _ ⟨⟨e == 0,toldN 0 e,ls⟩,_,H,.slice lA (ls).length lc,rfl,rfl,hnn,hoo⟩)
 have c0 : y.cell? ⟨b6,0,none⟩ = some (.bool (e == 0)):=by have:=hbb.blk.cell 0; rw [hy] at this; exact this
 have c1 : y.cell? ⟨b6,1,none⟩ = some (.int .i64 (toldN 0 e)):=by have:=hbb.blk.cell 1; rw [hy] at this; exact this
 have c2 : y.cell? ⟨b6,2,none⟩ = some (.slice lA (ls).length lc):=by have:=hbb.blk.cell 2; rw [hy] at this; exact this
 simp [results,Try.f40,go_sem,c0,c1,c2]
set_option maxHeartbeats 8000000 in
set_option maxRecDepth 100000 in
theorem reader_do7 {I : RIds} (hI : I.Ok) {B : OpsB} {good : OpI→Prop} {L : Lg Try.prog (Tree RSS RSS)} {Cap : (Nat→Prop)→World→Prop} {V : Value} (hk : CapK Cap) (hS : SStep (B.on (readY I).inner good) L Cap 75 V) (hS2 : SStep (B.on (readY I).inner good) L Cap 51 V) (hS3 : SStep (B.on (readY I).inner good) L Cap 59 V) (H0 : Nat→Prop) (w0 : World) (s : RSS) (H : Nat→Prop) (w : World) (hn : Now (B.on (readY I).inner good) Cap H0 w0 s H w)
  (hcut : ∀ fr mid x,L.T .cut fr mid x) (i : Nat) (hi : i < I.k) (kd oa ob oc : Int) (hg : SG ⟨kd,oa,ob,oc⟩) (q : kd = 7) (k : Ans→RSS→Tree RSS RSS) : Ccalls L 40 #[.pointer (some ⟨I.wb,0,none⟩),V,.int .i64 i,OpI.val ⟨kd,oa,ob,oc⟩] (doR I.M I.k i ⟨kd,oa,ob,oc⟩ s k) w fun u t' w'=>∃ a s' H' lv,u = .agg #[.bool a.ok,.int .i64 a.n,lv]∧t' = k a s'∧Now (B.on (readY I).inner good) Cap H0 w0 s' H' w'∧OutRow (B.on (readY I).inner good) w0 H' w' lv a.ls:=by
 have Q:=Lib.hid q
 clear q
 rw [show OpI.val ⟨kd,oa,ob,oc⟩ = .agg #[.int .i64 kd,.int .i64 oa,.int .i64 ob,.int .i64 oc] from rfl]
 intro c mid hR
 have HR:=Lib.hid hR
 have HN:=Lib.hid hn
 clear hR hn
 rw [show Frame.enter Try.prog 40 #[.pointer (some ⟨I.wb,0,none⟩),V,.int .i64 i,.agg #[.int .i64 kd,.int .i64 oa,.int .i64 ob,.int .i64 oc]] .normal = Frame.at { (default : Frame) with fn:=40,kind:=.normal } ⟨#[.pointer (some ⟨I.wb,0,none⟩),V,.int .i64 i,.agg #[.int .i64 kd,.int .i64 oa,.int .i64 ob,.int .i64 oc]] ++ Array.replicate (Try.f40.ntmps - 4) undef,[]⟩ [.code (Try.f40.body.getD .skip)] from by simp [Frame.enter,Frame.at,Try.func40]; rfl]
 simp only [Try.f40,Option.getD_some,Nat.reduceSub,Array.replicate_succ,Array.replicate_zero,List.push_toArray,List.append_toArray,List.nil_append,List.cons_append]
 with_reducible refine Lg.mv_seq _ ?_
 refine Lg.mv_reg _ fun K hK y τ n' hy=>?_
 subst hy
 have hn:=HN.out.re hk
 clear HN
 have HN:=Lib.hid hn
 clear hn
 go_wp2
 refine hK _ _ (fun _=>rfl) ?_
 clear hK K
 have hb5:=(HN.out.own 62 #[.int .i64 kd,.int .i64 oa,.int .i64 ob,.int .i64 oc]).alloc (.cells #[.bool false,.int .i64 0,.slice none 0 0] 66)
 have hb6:=(HN.out.alloc (.cells #[.int .i64 kd,.int .i64 oa,.int .i64 ob,.int .i64 oc] 62)).own 66 #[.bool false,.int .i64 0,.slice none 0 0]
 have hn:=(HN.out.alloc (.cells #[.int .i64 kd,.int .i64 oa,.int .i64 ob,.int .i64 oc] 62)).alloc (.cells #[.bool false,.int .i64 0,.slice none 0 0] 66)
 rw [show (y.alloc (.cells #[.int .i64 kd,.int .i64 oa,.int .i64 ob,.int .i64 oc] 62)).heap.size = y.heap.size + 1 from by simp] at hb6
 clear HN
 generalize (y.alloc (.cells #[.int .i64 kd,.int .i64 oa,.int .i64 ob,.int .i64 oc] 62)).alloc (.cells #[.bool false,.int .i64 0,.slice none 0 0] 66) = z at hn hb5 hb6 ⊢
 have hne : y.heap.size≠y.heap.size + 1:=by omega
 generalize y.heap.size + 1 = b6 at hb6 hne ⊢
 generalize y.heap.size = b5 at hb5 hne ⊢
 have HN:=Lib.hid hn
 have HB5:=Lib.hid hb5
 have HB6:=Lib.hid hb6
 clear hn hb5 hb6
 with_reducible refine Lg.mv_seq _ ?_
 with_reducible refine Lg.mv_seq _ ?_
 with_reducible refine Lg.mv_reg _ ?_
 intro K hK y τ n' hy
 subst hy
 have hn:=HN.out.re hk
 have hb5:=HB5.out.re
 have hb6:=HB6.out.re
 clear HN HB5 HB6
 obtain ⟨w1,w2,w3,w4,w5,w6,w7,w8⟩:=Lay.At.rworld hI (show (readY I).At s.1 _ from hn.rep.at_) hi
 have HN:=Lib.hid hn
 have HB5:=Lib.hid hb5
 have HB6:=Lib.hid hb6
 clear hn hb5 hb6
 go_wp2
 refine hK _ _ (fun _=>rfl) ?_
 clear hK K w1 w2 w3 w4 w5 w6 w7 w8
 repeat (first
  | with_reducible refine Lg.mv_seq _ ?_
  | with_reducible refine Lg.mv_skip _ ?_
  | with_reducible refine Lg.mv_block _ ?_
  | with_reducible refine Lg.mv_inBlock _ ?_
  | with_reducible refine Lg.mv_end _ ?_
  | ((with_reducible refine Lg.mv_condT _ ?_ ?_); exact rfl)
  | ((with_reducible refine Lg.mv_condF _ ?_ ?_); exact rfl)
  | ((with_reducible apply Lg.mv_exit); exact rfl))
 with_reducible refine Lg.mv_reg _ ?_
 intro K hK y τ n' hy
 subst hy
 have hn:=HN.out.re hk
 have hb5:=HB5.out.re
 have hb6:=HB6.out.re
 clear HN HB5 HB6
 obtain ⟨w1,w2,w3,w4,w5,w6,w7,w8⟩:=Lay.At.rworld hI (show (readY I).At s.1 _ from hn.rep.at_) hi
 have HN:=Lib.hid hn
 have HB5:=Lib.hid hb5
 have HB6:=Lib.hid hb6
 clear hn hb5 hb6
 have hi0 : (0 : Int)≤i:=by omega
 have hi1 : (i : Int) < I.k:=by omega
 go_quiet (fail)
 refine hK _ _ (fun _=>rfl) ?_
 clear hK K w1 w2 w3 w4 w5 w6 w7 w8 hi0 hi1
 have hn:=HN.out.drewN hk nq
 have hb5:=HB5.out.drewN nq
 have hb6:=HB6.out.drewN nq
 clear HN HB5 HB6
 generalize World.drewN _ nq = z2 at hn hb5 hb6 ⊢
 have HN:=Lib.hid hn
 have HB5:=Lib.hid hb5
 have HB6:=Lib.hid hb6
 clear hn hb5 hb6
 have R : MultiIn (B.on (readY I).inner good) L Cap V rrl rcl rel I.M:=r_in hI hk hS hS2
 have hFR:=R.free_in hk (gate_hold hI hcut)
 obtain rfl:=Q.out
 clear Q
 rw [show doR I.M I.k i ⟨7,oa,ob,oc⟩ s k = followT I.M.n i oa s fun ls lost e s=>k ⟨e == 0,toldN 0 e,lost :: ls⟩ s from if_pos hi]
 repeat (first
  | with_reducible refine Lg.mv_seq _ ?_
  | with_reducible refine Lg.mv_skip _ ?_
  | with_reducible refine Lg.mv_block _ ?_
  | with_reducible refine Lg.mv_inBlock _ ?_
  | with_reducible refine Lg.mv_end _ ?_
  | ((with_reducible refine Lg.mv_condT _ ?_ ?_); exact rfl)
  | ((with_reducible refine Lg.mv_condF _ ?_ ?_); exact rfl)
  | ((with_reducible apply Lg.mv_exit); exact rfl)
  | (with_reducible refine Lg.mv_reg _ ?_
     intro K hK y τ n' hy
     subst hy
     have hn:=HN.out.re hk
     have hb5:=HB5.out.re
     have hb6:=HB6.out.re
     clear HN HB5 HB6
     have o0:=hb5.blk.cell 0
     have o1:=hb5.blk.cell 1
     have o2:=hb5.blk.cell 2
     have o3:=hb5.blk.cell 3
     simp only [List.getElem?_toArray,List.getElem?_cons_zero,List.getElem?_cons_succ] at o0 o1 o2 o3
     have HN:=Lib.hid hn
     have HB5:=Lib.hid hb5
     have HB6:=Lib.hid hb6
     clear hn hb5 hb6
     go_wp2
     refine hK _ _ (fun _=>rfl) ?_
     clear hK K o0 o1 o2 o3))
 with_reducible refine Lg.mv_region _ ?_
 refine Lg.pre 0 4 8 (by simp) fun K hK y τ n' hz=>?_
 subst hz
 have hn:=HN.out.re hk
 have hb5:=HB5.out.re
 have hb6:=HB6.out.re
 clear HN HB5 HB6
 have o0:=hb5.blk.cell 0
 have o1:=hb5.blk.cell 1
 have o2:=hb5.blk.cell 2
 have o3:=hb5.blk.cell 3
 simp only [List.getElem?_toArray,List.getElem?_cons_zero,List.getElem?_cons_succ] at o0 o1 o2 o3
 have HN:=Lib.hid hn
 have HB5:=Lib.hid hb5
 have HB6:=Lib.hid hb6
 clear hn hb5 hb6
 simp only [List.drop_zero,List.take_succ_cons,List.take_zero]
 go_wp2
 refine hK _ _ (fun _=>rfl) ?_
 clear hK K o0 o1 o2 o3
 refine Lg.call (i:=4) (rest:=[5,6,7,8,9,10,11]) (f:=11) (args:=#[.pointer (some ⟨I.fo i,0,none⟩),V,.int .i64 oa]) rfl rfl (fun y=>by go_simp) (followerT hI hk hS hS2 hS3 H y s H _ (HN.out.here hk) hcut i hi oa hg.1 hg.2.1 _) ?_
 rintro vv t' w' ⟨ls,lost,e,lv,s,H,rfl,rfl,hn',hout,hnil,hlen⟩
 have hb5:=HB5.out.held hn'.held
 have hb6:=HB6.out.held hn'.held
 have hn:=HN.out.on hn'
 have hout : OutRow (B.on (readY I).inner good) w0 H _ lv ls:=⟨own_base hout.own HN.out.held.size,hout.nh⟩
 clear HN HB5 HB6 hn'
 have HN:=Lib.hid hn
 have HB5:=Lib.hid hb5
 have HB6:=Lib.hid hb6
 have HO:=Lib.hid hout
 clear hn hb5 hb6 hout
 obtain ⟨lA,lc,rfl⟩:=own_slice HO.out.own
 rw [Frame.finish_at]
 walk_nrm
 refine (show L.T _ (Frame.at _ ⟨_,[]⟩ (.inRegion _ (List.range' 5 (7 + 0)) :: _)) (c :: mid) _ from ?_)
 refine Lg.pre 5 7 0 (by simp) fun K hK y τ n' hz=>?_
 subst hz
 have hn:=HN.out.re hk
 have hb5:=HB5.out.re
 have hb6:=HB6.out.re
 have hout:=HO.out.re
 clear HN HB5 HB6 HO
 have HN:=Lib.hid hn
 have HB5:=Lib.hid hb5
 have HB6:=Lib.hid hb6
 have HO:=Lib.hid hout
 clear hn hb5 hb6 hout
 simp only [List.drop_succ_cons,List.drop_zero,List.take_succ_cons,List.take_zero]
 go_wp2
 refine hK _ _ (fun _=>rfl) ?_
 clear hK K
 refine Lg.move _ (fun _ _=>step_region_end) (fun h=>h) ?_
 with_reducible refine Lg.mv_seq _ ?_
 with_reducible refine Lg.mv_reg _ ?_
 intro K hK y τ n' hy
 subst hy
 have hn:=HN.out.re hk
 have hb5:=HB5.out.re
 have hb6:=HB6.out.re
 have hout:=HO.out.re
 clear HN HB5 HB6 HO
 have HN:=Lib.hid hn
 have HB5:=Lib.hid hb5
 have HB6:=Lib.hid hb6
 have HO:=Lib.hid hout
 clear hn hb5 hb6 hout
 go_wp2_with (go_at_call 68; refine (reader_told _ _ _).mono ?_; rintro e' w' ⟨rfl,hkept⟩)
 have hlt6 : b6 < w'.heap.size:=(HB6.out.kept hkept).blk.lt
 have hn:=HN.out.kept hkept
 have hb6:=HB6.out.kept hkept
 have hout:=HO.out.kept hkept
 clear HN HB5 HB6 HO hkept
 have hba:=hn.own 66 #[.bool (e == 0),.int .i64 (toldN 0 e),.slice none 0 0]
 have hb6:=hb6.alloc (.cells #[.bool (e == 0),.int .i64 (toldN 0 e),.slice none 0 0] 66)
 have hout:=hout.kept (Kept.alloc _ (.cells #[.bool (e == 0),.int .i64 (toldN 0 e),.slice none 0 0] 66))
 have hne2 : b6≠w'.heap.size:=by have:=hb6.blk.lt; have : b6 < w'.heap.size:=hlt6; omega
 have hn:=hn.alloc (.cells #[.bool (e == 0),.int .i64 (toldN 0 e),.slice none 0 0] 66)
 refine hK _ _ (fun _=>rfl) ?_
 clear hK K
 generalize w'.alloc (.cells #[.bool (e == 0),.int .i64 (toldN 0 e),.slice none 0 0] 66) = w5 at hn hb6 hba hout ⊢
 generalize w'.heap.size = ba at hba hne2 ⊢
 clear hlt6
 have HN:=Lib.hid hn
 have HB6:=Lib.hid hb6
 have HBA:=Lib.hid hba
 have HO:=Lib.hid hout
 clear hn hb6 hba hout
 with_reducible refine Lg.mv_seq _ ?_
 with_reducible refine Lg.mv_region _ ?_
 refine Lg.pre 0 3 3 (by simp) fun K hK y τ n' hz=>?_
 subst hz
 have hn:=HN.out.re hk
 have hb6:=HB6.out.re
 have hba:=HBA.out.re
 have hout:=HO.out.re
 clear HN HB6 HBA HO
 have HN:=Lib.hid hn
 have HB6:=Lib.hid hb6
 have HBA:=Lib.hid hba
 have HO:=Lib.hid hout
 clear hn hb6 hba hout
 simp only [List.drop_zero,List.take_succ_cons,List.take_zero]
 go_wp2
 refine hK _ _ (fun _=>rfl) ?_
 clear hK K
 have hx:=HN.out.own 2 #[.int .i64 lost]
 have hn:=HN.out.alloc (.cells #[.int .i64 lost] 2)
 have hb6:=HB6.out.alloc (.cells #[.int .i64 lost] 2)
 have hba:=HBA.out.alloc (.cells #[.int .i64 lost] 2)
 have hout:=HO.out.kept (Kept.alloc y (.cells #[.int .i64 lost] 2))
 clear HN HB6 HBA HO
 generalize y.alloc (.cells #[.int .i64 lost] 2) = z3 at hn hb6 hba hout hx ⊢
 generalize y.heap.size = nb at hx ⊢
 have HN:=Lib.hid hn
 have HB6:=Lib.hid hb6
 have HBA:=Lib.hid hba
 have HO:=Lib.hid hout
 clear hn hb6 hba hout
 have HX:=Lib.hid hx
 clear hx
 refine Lg.pre 3 3 0 (by simp) fun K hK y τ n' hz=>?_
 subst hz
 have hx:=HX.out.re
 clear HX
 have hn:=HN.out.re hk
 have hb6:=HB6.out.re
 have hba:=HBA.out.re
 have hout:=HO.out.re
 clear HN HB6 HBA HO
 obtain ⟨i0,hi0,hz0,hz1',hz2⟩:=info_parts Try.infoI64
 have hsize : w0.heap.size≤y.heap.size:=hn.held.size
 have hrow : y.ownsRow w0.heap.size 2 1 (.slice (some ⟨nb,0,none⟩) 1 1) 1 [.int .i64 lost]:=⟨rfl,.inr ⟨nb,1,#[.int .i64 lost],rfl,hx.ge,hx.blk,Nat.le_refl _,by decide,rfl,rfl⟩⟩
 simp only [List.drop_succ_cons,List.drop_zero,List.take_succ_cons,List.take_zero]
 have key : ∀ (Q : Exit→Act→World→Prop) (ops : Array Oper) (rest : List Oper) (o : Oper) (a : Act) (sl x : Operand),o.guard = none→o.op = .call { callee:=.builtin .append,args:=#[sl,x],argTypes:=#[35,35] }→a.eval sl = .slice (some ⟨nb,0,none⟩) 1 1→a.eval x = .slice lA ls.length lc→(∀ g cap w',w'.ownsRow w0.heap.size 2 1 (.slice (some ⟨g,0,none⟩) (1 + ls.length) cap) (1 + ls.length) ([.int .i64 lost] ++ ls.map (Value.int .i64))→y.grownBy w' (some nb)→(some nb = some g∨g = y.heap.size)→wpList Try.prog ops Q rest (a.put o.dst (.slice (some ⟨g,0,none⟩) (1 + ls.length) cap)) w')→wpList Try.prog ops Q (o :: rest) a y:=by
  intro Q ops rest o a sl x hgd ho hs hx' hend
  by_cases hls : ls = []
  ·have h9:=hnil hls
   subst hls
   simp only [List.length_nil] at h9 hend hx'
   simp only [Value.slice.injEq] at h9
   obtain ⟨rfl,-,rfl⟩:=h9
   exact wpList_append_none y hgd sl x 35 ho 2 i0 Try.underlying35 hi0 nb 1 1 (Nat.le_refl _) hs hx' (hend nb 1 y hrow ⟨rfl,rfl,rfl,Nat.le_refl _,fun _ _ _=>rfl⟩ (.inl rfl))
  ·have hl1:=List.length_pos_iff.2 hls
   obtain ⟨g0,rfl⟩ : ∃ g0,lA = some ⟨g0,0,none⟩:=by
    rcases hout.own.2 with ⟨_,h0⟩ | ⟨g0,cap,cur,hv,_⟩
    ·omega
    ·simp only [Value.slice.injEq] at hv; exact ⟨g0,hv.1⟩
   have hnews : ∀ j u,(ls.map (Value.int .i64))[j]? = some u→y.cell? ((⟨g0,0,none⟩ : Addr).add j) = some u:=fun j u hu=>by
    have hjl : j < ls.length * 1:=by
     rcases Nat.lt_or_ge j ls.length with hlt | hge
     ·omega
     ·rw [List.getElem?_eq_none (by simpa using hge)] at hu; cases hu
    rw [show (⟨g0,0,none⟩ : Addr).add j = ⟨g0,j,none⟩ from by unfold Addr.add; split <;> simp_all]
    exact (hout.own.cellAt j hjl).trans hu
   exact wpList_append_lies y hgd sl x 35 ho w0.heap.size 2 i0 _ 1 8 Try.underlying35 hi0 hz0 hz1' hz2 rfl (by omega) (.slice (some ⟨nb,0,none⟩) 1 1) 1 _ hs hrow ⟨g0,0,none⟩ ls.length lc (ls.map (Value.int .i64)) hx' (by simp) hnews (by simp [Value.oneCell']) (by omega) (by unfold maxLen; omega) (by omega) hsize _ rfl fun g cap w' h1 h2 h3 _=>hend g cap w' h1 h2 h3
 refine key _ _ _ _ _ _ _ rfl rfl rfl rfl ?_
 intro g cp' w1 hown hgrow hat
 have hgr : ∀ b,some b = some nb→w0.heap.size≤b∧¬ H b∧¬ (B.on (readY I).inner good).RB b:=fun b hb=>by
  cases hb
  exact ⟨hx.ge,hx.nh,hx.nr⟩
 have hn2:=hn.grown hgrow fun b hb=>hgr b hb.symm
 have hrow2 : OutRow (B.on (readY I).inner good) w0 H w1 (.slice (some ⟨g,0,none⟩) (lost :: ls).length cp') (lost :: ls):=by
  refine ⟨by rw [List.map_cons,List.length_cons,Nat.add_comm]; exact hown,fun b hb=>?_⟩
  simp only [Value.ownBlock,Option.some.injEq] at hb
  subst hb
  rcases hat with hat | hat
  ·exact ⟨(hgr _ hat.symm).2.1,(hgr _ hat.symm).2.2⟩
  ·exact ⟨fun z=>by have:=hn.rep.lt z; omega,fun z=>by have:=hn.rlt z; omega⟩
 have kg : Kept (fun b=>b = nb) y w1:=Kept.grown hgrow fun k hk=>by cases hk; rfl
 have hb6' : Own1 (B.on (readY I).inner good) w0 H w1 b6 _ _:=⟨hb6.blk.kept kg (fun z=>by have h1:=hb6.blk; rw [show b6 = nb from z] at h1; have h2:=h1.symm.trans hx.blk; simp at h2),hb6.nh,hb6.ge,hb6.nr⟩
 have hba' : Own1 (B.on (readY I).inner good) w0 H w1 ba _ _:=⟨hba.blk.kept kg (fun z=>by have h1:=hba.blk; rw [show ba = nb from z] at h1; have h2:=h1.symm.trans hx.blk; simp at h2),hba.nh,hba.ge,hba.nr⟩
 clear key hn hout hb6 hba hown hgrow hat hrow hsize hgr kg hx
 have HN:=Lib.hid hn2
 have HO:=Lib.hid hrow2
 have HB6:=Lib.hid hb6'
 have HBA:=Lib.hid hba'
 clear hn2 hrow2 hb6' hba'
 have hba:=HBA.out
 have a0:=hba.blk.cell 0
 have a1:=hba.blk.cell 1
 have a2:=hba.blk.cell 2
 have y2:=hba.blk.frozen 2
 simp only [List.getElem?_toArray,List.getElem?_cons_zero,List.getElem?_cons_succ] at a0 a1 a2
 clear hba
 rw [show 1 + ls.length = (lost :: ls).length from by rw [List.length_cons,Nat.add_comm]]
 go_wp2
 refine hK _ _ (fun _=>rfl) ?_
 clear hK K a0 a1 a2 y2
 have hn:=HN.out.set_ HBA.out 2 (.slice (some ⟨g,0,none⟩) (lost :: ls).length cp')
 have hout:=HO.out.far 2 (.slice (some ⟨g,0,none⟩) (lost :: ls).length cp') (HO.out.not HBA.out (by decide))
 have hb6:=HB6.out.far hne2 2 (.slice (some ⟨g,0,none⟩) (lost :: ls).length cp')
 have hba:=HBA.out.set_ 2 (.slice (some ⟨g,0,none⟩) (lost :: ls).length cp')
 clear HN HO HB6 HBA
 simp only [List.setIfInBounds_toArray,List.set_cons_zero,List.set_cons_succ] at hba
 generalize World.setCell _ _ _ = w6 at hn hout hb6 hba ⊢
 have HN:=Lib.hid hn
 have HB6:=Lib.hid hb6
 have HBA:=Lib.hid hba
 have HO:=Lib.hid hout
 clear hn hb6 hba hout
 refine Lg.move _ (fun _ _=>step_region_end) (fun h=>h) ?_
 with_reducible refine Lg.mv_seq _ ?_
 with_reducible refine Lg.mv_reg _ ?_
 intro K hK y τ n' hy
 subst hy
 have hn:=HN.out.re hk
 have hb6:=HB6.out.re
 have hba:=HBA.out.re
 have hout:=HO.out.re
 clear HN HB6 HBA HO
 have a0:=hba.blk.cell 0
 have a1:=hba.blk.cell 1
 have a2:=hba.blk.cell 2
 have y2:=hba.blk.frozen 2
 simp only [List.getElem?_toArray,List.getElem?_cons_zero,List.getElem?_cons_succ] at a0 a1 a2
 have o0:=hb6.blk.cell 0
 have o1:=hb6.blk.cell 1
 have o2:=hb6.blk.cell 2
 have z0:=hb6.blk.frozen 0
 have z1:=hb6.blk.frozen 1
 have z2:=hb6.blk.frozen 2
 simp only [List.getElem?_toArray,List.getElem?_cons_zero,List.getElem?_cons_succ] at o0 o1 o2
 have HN:=Lib.hid hn
 have HB6:=Lib.hid hb6
 have HBA:=Lib.hid hba
 have HO:=Lib.hid hout
 clear hn hb6 hba hout
 go_wp2
 refine hK _ _ (fun _=>rfl) ?_
 clear hK K a0 a1 a2 y2 o0 o1 o2 z0 z1 z2
 have hn:=HN.out
 have hb6:=HB6.out
 have hout:=HO.out
 clear HN HB6 HBA HO
 have hbb:=((hb6.set_ 0 (.bool (e == 0))).set_ 1 (.int .i64 (toldN 0 e))).set_ 2 (.slice (some ⟨g,0,none⟩) (lost :: ls).length cp')
 have hnn:=((hn.set_ hb6 0 (.bool (e == 0))).set_ (hb6.set_ 0 (.bool (e == 0))) 1 (.int .i64 (toldN 0 e))).set_ ((hb6.set_ 0 (.bool (e == 0))).set_ 1 (.int .i64 (toldN 0 e))) 2 (.slice (some ⟨g,0,none⟩) (lost :: ls).length cp')
 have hnb:=hout.not hb6 (by decide)
 have hoo:=((hout.far 0 (.bool (e == 0)) hnb).far 1 (.int .i64 (toldN 0 e)) hnb).far 2 (.slice (some ⟨g,0,none⟩) (lost :: ls).length cp') hnb
 simp only [List.setIfInBounds_toArray,List.set_cons_zero,List.set_cons_succ] at hbb
 generalize World.setCell _ _ _ = w6 at hbb hnn hoo ⊢
 clear hn hb6 hout hnb
 with_reducible refine Lg.mv_ret _ ?_
 refine Lg.leave rfl Try.func40 rfl (v:=.agg #[.bool (e == 0),.int .i64 (toldN 0 e),.slice (some ⟨g,0,none⟩) (lost :: ls).length cp']) (fun y τ n hy=>?_) (HR.out _ _ _ ⟨⟨e == 0,toldN 0 e,lost :: ls⟩,_,H,.slice (some ⟨g,0,none⟩) (lost :: ls).length cp',rfl,rfl,hnn,hoo⟩)
 have c0 : y.cell? ⟨b6,0,none⟩ = some (.bool (e == 0)):=by have:=hbb.blk.cell 0; rw [hy] at this; exact this
 have c1 : y.cell? ⟨b6,1,none⟩ = some (.int .i64 (toldN 0 e)):=by have:=hbb.blk.cell 1; rw [hy] at this; exact this
 have c2 : y.cell? ⟨b6,2,none⟩ = some (.slice (some ⟨g,0,none⟩) (lost :: ls).length cp'):=by have:=hbb.blk.cell 2; rw [hy] at this; exact this
 simp [results,Try.f40,go_sem,c0,c1,c2]
end Go.Proofs.Ytlhbonnminlnlaa
namespace Go.Proofs.Ytlhbonnminlnlaa
open Go.RowKit Go.Turn Go.Tame Go.Conc
theorem reader_doT {I : RIds} (hI : I.Ok) {B : OpsB} {good : OpI→Prop} {L : Lg Try.prog (Tree RSS RSS)} {Cap : (Nat→Prop)→World→Prop} {V : Value} (hk : CapK Cap) (hS : SStep (B.on (readY I).inner good) L Cap 75 V) (hS2 : SStep (B.on (readY I).inner good) L Cap 51 V) (hS3 : SStep (B.on (readY I).inner good) L Cap 59 V) (H0 : Nat→Prop) (w0 : World) (s : RSS) (H : Nat→Prop) (w : World) (hn : Now (B.on (readY I).inner good) Cap H0 w0 s H w)
  (hcut : ∀ fr mid x,L.T .cut fr mid x) (i : Nat) (o : OpI) (hg : SG o) (k : Ans→RSS→Tree RSS RSS) : Ccalls L 40 #[.pointer (some ⟨I.wb,0,none⟩),V,.int .i64 i,o.val] (doR I.M I.k i o s k) w fun u t' w'=>∃ a s' H' lv,u = .agg #[.bool a.ok,.int .i64 a.n,lv]∧t' = k a s'∧Now (B.on (readY I).inner good) Cap H0 w0 s' H' w'∧OutRow (B.on (readY I).inner good) w0 H' w' lv a.ls:=by
 obtain ⟨kd,oa,ob,oc⟩:=o
 by_cases hi : i < I.k
 rotate_left
 ·rw [show doR I.M I.k i ⟨kd,oa,ob,oc⟩ s k = .cut from if_neg hi]
  exact fun b mid hR=>hcut _ _ _
 by_cases q1 : kd = 1
 ·exact reader_do1 hI hk hS hS2 hS3 H0 w0 s H w hn hcut i hi kd oa ob oc hg q1 k
 by_cases q2 : kd = 2
 ·exact reader_do2 hI hk hS hS2 hS3 H0 w0 s H w hn hcut i hi kd oa ob oc hg q2 k
 by_cases q3 : kd = 3
 ·exact reader_do3 hI hk hS hS2 hS3 H0 w0 s H w hn hcut i hi kd oa ob oc hg q3 k
 by_cases q7 : kd = 7
 ·exact reader_do7 hI hk hS hS2 hS3 H0 w0 s H w hn hcut i hi kd oa ob oc hg q7 k
 rw [show doR I.M I.k i ⟨kd,oa,ob,oc⟩ s k = .cut from by simp only [doR,hi,q1,q2,q3,q7,if_false,if_true]]
 exact fun b mid hR=>hcut _ _ _
theorem reader_doS (B : OpsB) (I : RIds) (hI : I.Ok) (i : Nat) : DoLaw (B.on (readY I).inner SG) i (doR I.M I.k i) 40 #[.pointer (some ⟨I.wb,0,none⟩)] #[]:=by
 intro tb L Cap hre hk hst hcut o st H k w hgood hrep hcap
 have hn : Now (B.on (readY I).inner SG) Cap H w st H w:=⟨hrep,hcap,Held.refl _ _⟩
 exact (reader_doT hI hk (cell_sstep hre hk hst) (slots_sstep hre hk hst) (gate_sstep hre hk hst) H w st H w hn hcut i o hgood k).mono fun v t' w' ⟨a,s',H',lv,h1,h2,h3,h4⟩=>⟨a,s',H',lv,h2,h1,h3.rep,h3.held,h4.own,fun b hb=>(h4.nh b hb).1⟩
theorem doR_eq (M : MIds) (kk : Nat) : doR M kk = doR (M0 M.n M.first) kk:=by
 funext i o st k
 unfold doR
 rw [offerT_eq]
 rfl
structure WIds where
 M : MIds
 wb : Nat
 lb : Nat
 qb : Nat→Nat
 k : Nat
 rA : Option Addr
 rc : Nat
structure WIds.Ok (I : WIds) : Prop where
 n0 : 0 < I.M.n
 n2 : I.M.n≤65536
 f0 : 0≤I.M.first
 f1 : I.M.first < 4611686018427387904
 k64 : I.k≤64
 rAk : 0 < I.k→I.rA = some ⟨I.lb,0,none⟩
 krc : I.k≤I.rc∧I.rc≤maxLen
 d1 : I.wb < I.M.gb
 d2 : I.M.gb < I.M.rb
 d3 : I.M.rb < I.M.cb
 d4 : I.M.cb < I.M.eb
 d5 : I.M.eb < I.M.mb
 d6 : 0 < I.k→I.M.mb < I.lb
 d7 : ∀ j,j < I.k→I.M.mb < I.qb j∧I.qb j≠I.lb
 d8 : ∀ i j,i < I.k→j < I.k→I.qb i = I.qb j→i = j
def WIds.find (I : WIds) (b : Nat) : Option Nat:=(List.range I.k).find? fun i=>decide (I.qb i = b)
section
variable {I : WIds} (hI : I.Ok)
include hI
end
set_option maxRecDepth 100000 in
theorem wordNew (v : Int) (w : World) : Calls Try.prog 26 #[.int .i64 v] w fun e w'=>e = .returned (.pointer (some ⟨w.heap.size,0,none⟩))∧w.alloc (.cells #[.int .i64 v] 121) = w':=by
 have c : (w.alloc (.cells #[.int .i64 0] 121)).cell? ⟨w.heap.size,0,none⟩ = some (.int .i64 0):=(Blk.new w 121 #[.int .i64 0]).cell 0
 have z:=(Blk.new w 121 #[.int .i64 0]).frozen 0
 go_enter Try.func26,Try.ntmps26
 go_wp2_with (go_at_call 27; refine (atomic_store _ v 0 _ c z).mono ?_; rintro e w' ⟨rfl,rfl⟩)
 go_ret
 refine ⟨rfl,?_⟩
 simp
set_option maxHeartbeats 1000000 in
set_option maxRecDepth 100000 in
theorem multi_newF (n : Nat) (fs : Int) (w : World) (hn : 0 < n) (h2 : n≤65536) (hb : (bits BinOp.and IntKind.i64 (n : Int) ((n : Int) - 1) != 0) = false) (hf0 : 0≤fs) (hf1 : fs < 4611686018427387904) : Calls Try.prog 7 #[.int .i64 n,.int .i64 fs] w fun e w'=>e = .returned (.tuple #[.pointer (some ⟨w.heap.size + 4,0,none⟩),.int .i64 0]) ∧
  RingAt w' (w.heap.size + 1) w.heap.size n (fun _=>-2) (fun _=>0)∧NearB w' w.heap.size∧NearB w' (w.heap.size + 1)∧Blk w' (w.heap.size + 2) 121 #[.int .i64 (fs - 1)]∧Blk w' (w.heap.size + 3) 121 #[.int .i64 (fs - 1)] ∧
  Blk w' (w.heap.size + 4) 73 #[.pointer (some ⟨w.heap.size + 1,0,none⟩),.int .i64 fs,.pointer (some ⟨w.heap.size + 2,0,none⟩),.pointer (some ⟨w.heap.size + 3,0,none⟩)]∧Below w.heap.size w w'∧w'.heap.size = w.heap.size + 5:=by
 have hd1 : decide (fs < 0) = false:=by simpa using hf0
 have hd2 : decide (4611686018427387904≤fs) = false:=by simpa using hf1
 go_enter Try.func7,Try.ntmps7
 go_wp2_with fail
 refine (new_near n w hn h2 hb).mono ?_
 rintro e w1 ⟨rfl,R1,B1,Z1,N0,N1⟩
 have HS:=Lib.hid (And.intro R1 (And.intro B1 (And.intro Z1 (And.intro N0 N1))))
 clear R1 B1 Z1 hb N0 N1
 go_wp2_with fail
 refine (wordNew (fs - 1) w1).mono ?_
 rintro e w2 ⟨rfl,hw2⟩
 go_wp2_with fail
 refine (wordNew (fs - 1) w2).mono ?_
 rintro e w3 ⟨rfl,hw3⟩
 have HW:=Lib.hid (And.intro hw2 hw3)
 clear hw2 hw3
 go_wp2
 go_ret2
 obtain ⟨R1,B1,Z1,N0,N1⟩:=HS.out
 obtain ⟨rfl,rfl⟩:=HW.out
 have e1 : w1.heap.size = w.heap.size + 2:=Z1
 have k2 : Kept (fun _=>False) w1 (((w1.alloc (.cells #[.int .i64 (fs - 1)] 121)).alloc (.cells #[.int .i64 (fs - 1)] 121)).alloc (.cells #[.pointer (some ⟨w.heap.size + 1,0,none⟩),.int .i64 fs,.pointer (some ⟨w1.heap.size,0,none⟩),.pointer (some ⟨(w1.alloc (.cells #[.int .i64 (fs - 1)] 121)).heap.size,0,none⟩)] 73)):=((Kept.alloc _ _).trans (Kept.alloc _ _)).trans (Kept.alloc _ _)
 have b1:=((Blk.new w1 121 #[.int .i64 (fs - 1)]).alloc (.cells #[.int .i64 (fs - 1)] 121)).alloc (.cells #[.pointer (some ⟨w.heap.size + 1,0,none⟩),.int .i64 fs,.pointer (some ⟨w1.heap.size,0,none⟩),.pointer (some ⟨(w1.alloc (.cells #[.int .i64 (fs - 1)] 121)).heap.size,0,none⟩)] 73)
 have b2:=(Blk.new (w1.alloc (.cells #[.int .i64 (fs - 1)] 121)) 121 #[.int .i64 (fs - 1)]).alloc (.cells #[.pointer (some ⟨w.heap.size + 1,0,none⟩),.int .i64 fs,.pointer (some ⟨w1.heap.size,0,none⟩),.pointer (some ⟨(w1.alloc (.cells #[.int .i64 (fs - 1)] 121)).heap.size,0,none⟩)] 73)
 have b3:=Blk.new ((w1.alloc (.cells #[.int .i64 (fs - 1)] 121)).alloc (.cells #[.int .i64 (fs - 1)] 121)) 73 #[.pointer (some ⟨w.heap.size + 1,0,none⟩),.int .i64 fs,.pointer (some ⟨w1.heap.size,0,none⟩),.pointer (some ⟨(w1.alloc (.cells #[.int .i64 (fs - 1)] 121)).heap.size,0,none⟩)]
 have bb:=((B1.alloc B1.size (.cells #[.int .i64 (fs - 1)] 121)).alloc (by have:=B1.size; rw [World.size_alloc]; omega) (.cells #[.int .i64 (fs - 1)] 121)).alloc (by have:=B1.size; rw [World.size_alloc,World.size_alloc]; omega) (.cells #[.pointer (some ⟨w.heap.size + 1,0,none⟩),.int .i64 fs,.pointer (some ⟨w1.heap.size,0,none⟩),.pointer (some ⟨(w1.alloc (.cells #[.int .i64 (fs - 1)] 121)).heap.size,0,none⟩)] 73)
 have near : ∀ b,b < w1.heap.size→NearB w1 b→NearB (((w1.alloc (.cells #[.int .i64 (fs - 1)] 121)).alloc (.cells #[.int .i64 (fs - 1)] 121)).alloc (.cells #[.pointer (some ⟨w.heap.size + 1,0,none⟩),.int .i64 fs,.pointer (some ⟨w1.heap.size,0,none⟩),.pointer (some ⟨(w1.alloc (.cells #[.int .i64 (fs - 1)] 121)).heap.size,0,none⟩)] 73)) b:=fun b hlt ⟨c,t,h⟩=>⟨c,t,(k2.block b hlt id).trans h⟩
 have n0:=near _ (by omega) N0
 have n1:=near _ (by omega) N1
 simp only [World.size_alloc,e1] at b1 b2 b3 k2 bb n0 n1 ⊢
 exact ⟨rfl,R1.kept k2 id id,n0,n1,b1,b2,b3,bb,trivial⟩
end Go.Proofs.Ytlhbonnminlnlaa
namespace Go.Turn
open Go.Conc Go.Tame
section
variable {P : Program} {md : Region.Mode} {ops : Array Oper} {h : Nat} {S : World→Prop} {Q : Exit→Act→World→Prop}
def wpAnyV (P : Program) (md : Region.Mode) (ops : Array Oper) (Q : Exit→Act→World→Prop) (h : Nat) (S : World→Prop) : Nat→Array Bool→Act→World→Prop
 | 0,listed,a,w=>Region.ready md ops listed = []∧Q .normal a w
 | fuel + 1,listed,a,w=>(Region.ready md ops listed = []→Q .normal a w)∧∀ i ∈ Region.ready md ops listed,wpOp P ops Q i (fun a' w'=>((listed.setIfInBounds i true).getD h true = false→S w')∧wpAnyV P md ops Q h S fuel (listed.setIfInBounds i true) a' w') a w
theorem wpAny_of_V : ∀ (fuel : Nat) (listed : Array Bool) (a : Act) (w : World),wpAnyV P md ops Q h S fuel listed a w→wpAny P md ops Q fuel listed a w
 | 0,_,_,_,h=>h
 | fuel + 1,_,_,_,h=>⟨h.1,fun i hi=>wpOp_mono (fun a' w' h'=>wpAny_of_V fuel _ a' w' h'.2) (h.2 i hi)⟩
theorem wpAnyV_firstU {i : Nat} {oi : Oper} {v : Value} (hih : i≠h) (hi : ops[i]? = some oi) (hsel : ∀ (j : Nat) (o : Oper) cs b,ops[j]? = some o→o.op≠.select cs b) (hQ : ∀ c a w,¬ Q (.panic c) a w) :
  ∀ (fuel : Nat) (listed : Array Bool) (a : Act) (w : World),
    (∀ j oj,ops[j]? = some oj→j≠i→listed.getD j true = false→(∀ e ∈ oj.after,Region.binds md e = true→e.on≠i)→oi.apart ops oj = true) →
    i ∈ Region.ready md ops listed→YieldsIf P ops (fun _=>True) oi v a→(listed.getD h true = false→S w) →
    wpAnyV P md ops Q h S fuel (listed.setIfInBounds i true) (a.put oi.dst v) w→wpAnyV P md ops Q h S (fuel + 1) listed a w:=by
 intro fuel
 have here : ∀ (f : Nat) (listed : Array Bool) (a : Act) (w : World),YieldsIf P ops (fun _=>True) oi v a→(listed.getD h true = false→S w)→wpAnyV P md ops Q h S f (listed.setIfInBounds i true) (a.put oi.dst v) w→wpOp P ops Q i (fun a' w'=>((listed.setIfInBounds i true).getD h true = false→S w')∧wpAnyV P md ops Q h S f (listed.setIfInBounds i true) a' w') a w:=fun f listed a w hy hS H =>
  hy.wpOp hi trivial ⟨fun z=>hS (by rw [getD_set_ne true hih] at z; exact z),H⟩
 induction fuel with
 | zero =>
   intro listed a w _ hr hy hS H
   refine ⟨fun h=>(by rw [h] at hr; cases hr),fun j hj=>?_⟩
   by_cases hji : j = i
   ·subst hji; exact here _ _ _ _ hy hS H
   ·have:=ready_mono hj hji
    rw [H.1] at this
    cases this
 | succ fuel ih =>
   intro listed a w hfree hr hy hS H
   refine ⟨fun h=>(by rw [h] at hr; cases hr),fun j hj=>?_⟩
   by_cases hji : j = i
   ·subst hji; exact here _ _ _ _ hy hS H
   ·have h1:=H.2 j (ready_mono hj hji)
    obtain ⟨hjun,oj,hoj,hall⟩:=mem_ready.1 hj
    have h0i:=(mem_ready.1 hr).1
    have hnot : ∀ e ∈ oj.after,Region.binds md e = true→e.on≠i:=fun e he hb heq=>by
     have h1:=hall e he hb
     rw [heq,getD_swap h0i] at h1
     cases h1
    have h2:=wpOp_putIf hoj (hfree j oj hoj hji hjun hnot) (fun cs b=>hsel i oi cs b hi) (fun cs b=>hsel j oj cs b hoj) (fun c a w q=>absurd q (hQ _ _ _)) hy h1
    have hfree' : ∀ k ok,ops[k]? = some ok→k≠i→(listed.setIfInBounds j true).getD k true = false →
      (∀ e ∈ ok.after,Region.binds md e = true→e.on≠i)→oi.apart ops ok = true:=fun k ok hk hki hun hno=>by
     refine hfree k ok hk hki ?_ hno
     by_cases hjk : j = k
     ·subst hjk; exact hjun
     ·rw [getD_set_ne true hjk] at hun; exact hun
    have hS' : ∀ w',(((listed.setIfInBounds i true).setIfInBounds j true).getD h true = false→S w')→(listed.setIfInBounds j true).getD h true = false→S w':=fun w' h4 h5=>h4 (by
     rw [Array.setIfInBounds_comm _ _ (Ne.symm hji),getD_set_ne true hih]
     exact h5)
    refine wpOp_mono (fun a' w' h3=>⟨hS' w' h3.2.1,ih (listed.setIfInBounds j true) a' w' hfree' (ready_mono hr (Ne.symm hji)) h3.1 (hS' w' h3.2.1) ?_⟩) h2
    rw [Array.setIfInBounds_comm _ _ hji]
    exact h3.2.2
theorem wpAnyV_first {i : Nat} {oi : Oper} {v : Value} (T : List Nat) (hT : h ∈ T) (hi : ops[i]? = some oi) (hsel : ∀ (j : Nat) (o : Oper) cs b,ops[j]? = some o→o.op≠.select cs b) (hQ : ∀ c a w,¬ Q (.panic c) a w) :
  ∀ (fuel : Nat) (listed : Array Bool) (a : Act) (w : World),
    (∀ j oj,ops[j]? = some oj→j≠i→listed.getD j true = false→(∀ e ∈ oj.after,Region.binds md e = true→e.on≠i)→oi.apart ops oj = true) →
    behindOk md ops listed i T = true →
    i ∈ Region.ready md ops listed→YieldsIf P ops S oi v a→S w →
    wpAnyV P md ops Q h S fuel (listed.setIfInBounds i true) (a.put oi.dst v) w→wpAnyV P md ops Q h S (fuel + 1) listed a w:=by
 intro fuel
 have here : ∀ (f : Nat) (listed : Array Bool) (a : Act) (w : World),YieldsIf P ops S oi v a→S w→wpAnyV P md ops Q h S f (listed.setIfInBounds i true) (a.put oi.dst v) w→wpOp P ops Q i (fun a' w'=>((listed.setIfInBounds i true).getD h true = false→S w')∧wpAnyV P md ops Q h S f (listed.setIfInBounds i true) a' w') a w:=fun f listed a w hy hS H =>
  hy.wpOp hi hS ⟨fun _=>hS,H⟩
 induction fuel with
 | zero =>
   intro listed a w _ _ hr hy hS H
   refine ⟨fun h=>(by rw [h] at hr; cases hr),fun j hj=>?_⟩
   by_cases hji : j = i
   ·subst hji; exact here _ _ _ _ hy hS H
   ·have:=ready_mono hj hji
    rw [H.1] at this
    cases this
 | succ fuel ih =>
   intro listed a w hfree hB hr hy hS H
   refine ⟨fun h=>(by rw [h] at hr; cases hr),fun j hj=>?_⟩
   by_cases hji : j = i
   ·subst hji; exact here _ _ _ _ hy hS H
   ·have h1:=H.2 j (ready_mono hj hji)
    obtain ⟨hjun,oj,hoj,hall⟩:=mem_ready.1 hj
    have h0i:=(mem_ready.1 hr).1
    have hnot : ∀ e ∈ oj.after,Region.binds md e = true→e.on≠i:=fun e he hb heq=>by
     have h1:=hall e he hb
     rw [heq,getD_swap h0i] at h1
     cases h1
    have hTj : j ∉ T:=fun hm=>by
     have h2:=List.all_eq_true.1 hB j hm
     simp only [hoj,Bool.and_eq_true,Array.any_eq_true',Bool.or_eq_true,beq_iff_eq,List.contains_iff_mem] at h2
     obtain ⟨_,e,he,hb,hx⟩:=h2
     rcases hx with hx | hx
     ·exact hnot e he hb hx
     ·have h3:=List.all_eq_true.1 hB e.on hx
      simp only [Bool.and_eq_true,Bool.not_eq_true'] at h3
      have h4:=hall e he hb
      rw [getD_swap h3.1] at h4
      cases h4
    have hB' : behindOk md ops (listed.setIfInBounds j true) i T = true:=by
     refine List.all_eq_true.2 fun t ht=>?_
     have h2:=List.all_eq_true.1 hB t ht
     simp only [Bool.and_eq_true,Bool.not_eq_true'] at h2 ⊢
     exact ⟨by rw [getD_set_ne true (show ¬ j = t from fun e=>hTj (by rw [e]; exact ht))]; exact h2.1,h2.2⟩
    have hhl : listed.getD h true = false:=by
     have h2:=List.all_eq_true.1 hB h hT
     simp only [Bool.and_eq_true,Bool.not_eq_true'] at h2
     exact h2.1
    have hhi : i≠h:=fun e=>by
     subst e
     have h3:=List.all_eq_true.1 hB i hT
     simp only [Bool.and_eq_true,Bool.not_eq_true'] at h3
     have h3:=h3.2
     cases ho : ops[i]? with
     | none=>rw [ho] at h3; cases h3
     | some o =>
       rw [ho] at h3
       simp only [Array.any_eq_true',Bool.and_eq_true,Bool.or_eq_true,beq_iff_eq,List.contains_iff_mem] at h3
       obtain ⟨e,he,hb,hx⟩:=h3
       obtain ⟨_,o',ho',hall'⟩:=mem_ready.1 hr
       rw [ho] at ho'
       cases ho'
       have h4:=hall' e he hb
       rcases hx with hx | hx
       ·rw [hx,getD_swap h0i] at h4; cases h4
       ·have h5:=List.all_eq_true.1 hB e.on hx
        simp only [Bool.and_eq_true,Bool.not_eq_true'] at h5
        rw [getD_swap h5.1] at h4; cases h4
    have hhj : ((listed.setIfInBounds i true).setIfInBounds j true).getD h true = false:=by
     rw [getD_set_ne true (show ¬ j = h from fun e=>hTj (by rw [e]; exact hT)),getD_set_ne true hhi]
     exact hhl
    have h2:=wpOp_putIf hoj (hfree j oj hoj hji hjun hnot) (fun cs b=>hsel i oi cs b hi) (fun cs b=>hsel j oj cs b hoj) (fun c a w q=>absurd q (hQ _ _ _)) hy h1
    have hfree' : ∀ k ok,ops[k]? = some ok→k≠i→(listed.setIfInBounds j true).getD k true = false →
      (∀ e ∈ ok.after,Region.binds md e = true→e.on≠i)→oi.apart ops ok = true:=fun k ok hk hki hun hno=>by
     refine hfree k ok hk hki ?_ hno
     by_cases hjk : j = k
     ·subst hjk; exact hjun
     ·rw [getD_set_ne true hjk] at hun; exact hun
    refine wpOp_mono (fun a' w' h3=>⟨fun _=>h3.2.1 hhj,ih (listed.setIfInBounds j true) a' w' hfree' hB' (ready_mono hr (Ne.symm hji)) h3.1 (h3.2.1 hhj) ?_⟩) h2
    rw [Array.setIfInBounds_comm _ _ hji]
    exact h3.2.2
theorem rdV {listed : Array Bool} {a : Act} {w : World} (i fuel : Nat) (d : Tmp)
  (hh : ∃ o,ops[i]? = some o∧o.dst = some d∧Region.noSelect ops = true∧Region.free md ops listed i = true∧((desc md ops i).contains h && behindOk md ops listed i (desc md ops i)) = true∧(Region.ready md ops listed).contains i = true∧(∀ c a w,¬ Q (.panic c) a w)∧Region.wanted o (yielded ops a.tmps) = true∧S w ∧
    ∃ v,(∀ wq,S wq→(execOp a.eval o).run P wq = .ok (.value v) wq)∧wpAnyV P md ops Q h S fuel (listed.setIfInBounds i true) (a.put (some d) v) w) : wpAnyV P md ops Q h S (fuel + 1) listed a w:=by
 obtain ⟨o,h1,h2,h3,h4,h4',h5,h6,h7,h8,v,h9,h10⟩:=hh
 rw [← h2] at h10
 exact wpAnyV_first (desc md ops i) (by simpa using (Bool.and_eq_true_iff.1 h4').1) h1 (Region.noSelect_spec h3) h6 fuel listed a w (Region.free_spec h1 h4) (Bool.and_eq_true_iff.1 h4').2 (by simpa using h5) (.inl ⟨h7,h9⟩) h8 h10
theorem rdU {listed : Array Bool} {a : Act} {w : World} (i fuel : Nat) (d : Tmp)
  (hh : ∃ o,ops[i]? = some o∧o.dst = some d∧i≠h∧Region.noSelect ops = true∧Region.free md ops listed i = true∧(Region.ready md ops listed).contains i = true∧(∀ c a w,¬ Q (.panic c) a w)∧Region.wanted o (yielded ops a.tmps) = true∧(listed.getD h true = false→S w) ∧
    ∃ v,(∀ wq,(execOp a.eval o).run P wq = .ok (.value v) wq)∧wpAnyV P md ops Q h S fuel (listed.setIfInBounds i true) (a.put (some d) v) w) : wpAnyV P md ops Q h S (fuel + 1) listed a w:=by
 obtain ⟨o,h1,h2,h2',h3,h4,h5,h6,h7,h8,v,h9,h10⟩:=hh
 rw [← h2] at h10
 exact wpAnyV_firstU h2' h1 (Region.noSelect_spec h3) h6 fuel listed a w (Region.free_spec h1 h4) (by simpa using h5) (.inl ⟨h7,fun w _=>h9 w⟩) h8 h10
theorem allV {rs : List Nat} {fuel : Nat} {listed : Array Bool} {a : Act} {w : World} (hr : Region.ready md ops listed = rs) (hne : rs≠[])
  (hh : ∀ i ∈ rs,wpOp P ops Q i (fun a' w'=>((listed.setIfInBounds i true).getD h true = false→S w')∧wpAnyV P md ops Q h S fuel (listed.setIfInBounds i true) a' w') a w) : wpAnyV P md ops Q h S (fuel + 1) listed a w:=
 ⟨fun h0=>absurd (hr ▸ h0) hne,hr ▸ hh⟩
theorem oneV {i fuel : Nat} {listed : Array Bool} {a : Act} {w : World} (hr : Region.ready md ops listed = [i])
  (hh : wpOp P ops Q i (fun a' w'=>((listed.setIfInBounds i true).getD h true = false→S w')∧wpAnyV P md ops Q h S fuel (listed.setIfInBounds i true) a' w') a w) : wpAnyV P md ops Q h S (fuel + 1) listed a w:=
 allV hr (by simp) fun j hj=>by simp only [List.mem_singleton] at hj; subst hj; exact hh
theorem doneV {listed : Array Bool} {a : Act} {w : World} (hr : Region.ready md ops listed = []) (h' : Q .normal a w) : ∀ fuel,wpAnyV P md ops Q h S fuel listed a w
 | 0=>⟨hr,h'⟩
 | _ + 1=>⟨fun _=>h',by rw [hr]; simp⟩
theorem wp_region_V {id : Nat} {a : Act} {w : World} (h : Nat) (S : World→Prop) (hm : P.follows .mixedOrders = true)
  (hh : wpAnyV P .any ops Q h S ops.size (Array.replicate ops.size false) a { w with drawn:=w.drawn + 1 }) : (Code.region id ops true).wp P Q a w:=
 wp_region_any hm (wpAny_of_V _ _ _ _ hh)
end
end Go.Turn
namespace Go.Proofs.Ytlhbonnminlnlaa
open Go.RowKit Go.Turn Go.Tame Go.Conc
open Go.ConcN (upd upd_ne upd_same)
def sizeO (ss : List Int) : Int:=ss.getD 0 1
def firstO (ss : List Int) : Int:=ss.getD 1 0
def r0O (ss : List Int) : RdS:=⟨firstO ss - 1,firstO ss - 1,fun _=>-2,fun _=>0,none,fun _=>-1,fun _=>false,fun _=>0,fun _=>firstO ss⟩
structure PRow (w : World) (B : Nat) (tp tt : TypeId) (cf : Nat→Array Value) (j : Nat) (r : Value) (qs : List Nat) : Prop where
 len : qs.length = j
 row : w.ownsRow B tp 1 r j (qs.map fun q=>.pointer (some ⟨q,0,none⟩))
 blk : ∀ i,i < j→Blk w (qs.getD i 0) tt (cf i)
 ge : ∀ i,i < j→B≤qs.getD i 0
 inj : ∀ i i',i < j→i' < j→qs.getD i 0 = qs.getD i' 0→i = i'
section
variable {w w' : World} {B : Nat} {tp tt : TypeId} {cf : Nat→Array Value} {j : Nat} {r : Value} {qs : List Nat}
theorem PRow.nil : PRow w B tp tt cf 0 (.slice none 0 0) []:=⟨rfl,⟨rfl,.inl ⟨rfl,rfl⟩⟩,fun i hi=>absurd hi (by omega),fun i hi=>absurd hi (by omega),fun i i' hi=>absurd hi (by omega)⟩
theorem own_typed {w : World} {B : Nat} {t : TypeId} {n : Nat} {v : Value} {xs : List Value} (h : w.ownsRow B t 1 v n xs) {b : Nat} (hb : v.ownBlock = some b) : ∃ c,w.heap[b]? = some (.cells c t (0,0)):=by
 rcases h.2 with ⟨e,_⟩ | ⟨g,cap,cur,e,_,hh,_⟩
 ·rw [e] at hb; simp [Value.ownBlock] at hb
 ·rw [e] at hb
  simp only [Value.ownBlock,Option.some.injEq] at hb
  subst hb
  exact ⟨cur,hh⟩
theorem typed_ne {w : World} {b b' : Nat} {t t' : TypeId} (h : ∃ c,w.heap[b]? = some (.cells c t (0,0))) (h' : ∃ c,w.heap[b']? = some (.cells c t' (0,0))) (ht : t≠t') : b≠b':=fun e=>by
 obtain ⟨c,h⟩:=h
 obtain ⟨c',h'⟩:=h'
 rw [e,h'] at h
 simp only [Option.some.injEq,Obj.cells.injEq] at h
 exact ht h.2.1.symm
theorem PRow.row_ge (h : PRow w B tp tt cf j r qs) {b : Nat} (hb : r.ownBlock = some b) : B≤b:=(h.row.lt b hb).1
theorem PRow.kept {Z : Nat→Prop} (h : PRow w B tp tt cf j r qs) (k : Kept Z w w') (hz : ∀ b,B≤b→¬ Z b) : PRow w' B tp tt cf j r qs:=
 ⟨h.len,own_kept h.row k hz,fun i hi=>(h.blk i hi).kept k (hz _ (h.ge i hi)),h.ge,h.inj⟩
theorem PRow.other {r' : Value} {tp' : TypeId} {n' : Nat} {xs' : List Value} (h : PRow w B tp tt cf j r qs) (h' : w.ownsRow B tp' 1 r' n' xs') (h1 : tp'≠tp) (h2 : tp'≠tt) (hg : w.grownBy w' r'.ownBlock) : PRow w' B tp tt cf j r qs:=by
 have k : Kept (fun b=>r'.ownBlock = some b) w w':=Kept.grown hg fun k hk=>hk
 exact ⟨h.len,own_same h.row (fun b hb=>k.block b ((h.row.lt b hb).2) (fun z=>typed_ne (own_typed h' z) (own_typed h.row hb) h1 rfl)),fun i hi=>(h.blk i hi).kept k (fun z=>typed_ne (own_typed h' z) ⟨_,h.blk i hi⟩ h2 rfl),h.ge,h.inj⟩
theorem getD_snoc_lt {qs : List Nat} {q j i : Nat} (hl : qs.length = j) (hi : i < j) : (qs ++ [q]).getD i 0 = qs.getD i 0:=by
 rw [List.getD_eq_getElem?_getD,List.getD_eq_getElem?_getD,List.getElem?_append_left (by omega)]
theorem getD_snoc_eq {qs : List Nat} {q j : Nat} (hl : qs.length = j) : (qs ++ [q]).getD j 0 = q:=by
 rw [List.getD_eq_getElem?_getD,List.getElem?_append_right (by omega),hl]; simp
theorem PRow.snoc {v' : Value} {q : Nat} (h : PRow w B tp tt cf j r qs) (ht : tp≠tt) (hq : Blk w q tt (cf j)) (hqn : ∀ i,i < j→qs.getD i 0≠q) (hqB : B≤q) (hg : w.grownBy w' r.ownBlock)
  (hown : w'.ownsRow B tp 1 v' (j + 1) (qs.map (fun q=>Value.pointer (some ⟨q,0,none⟩)) ++ [.pointer (some ⟨q,0,none⟩)])) : PRow w' B tp tt cf (j + 1) v' (qs ++ [q]):=by
 have k : Kept (fun b=>r.ownBlock = some b) w w':=Kept.grown hg fun k hk=>hk
 have hk : ∀ b c,Blk w b tt c→Blk w' b tt c:=fun b c hb=>hb.kept k (fun z=>typed_ne (own_typed h.row z) ⟨_,hb⟩ ht rfl)
 refine ⟨by simp [h.len],by rw [List.map_append]; exact hown,fun i hi=>?_,fun i hi=>?_,fun i i' hi hi' he=>?_⟩
 ·by_cases e : i = j
  ·subst e
   rw [getD_snoc_eq h.len]
   exact hk _ _ hq
  ·rw [getD_snoc_lt h.len (by omega)]
   exact hk _ _ (h.blk i (by omega))
 ·by_cases e : i = j
  ·subst e; rw [getD_snoc_eq h.len]; exact hqB
  ·rw [getD_snoc_lt h.len (by omega)]; exact h.ge i (by omega)
 ·by_cases e : i = j
  ·by_cases e' : i' = j
   ·omega
   ·subst e
    rw [getD_snoc_eq h.len,getD_snoc_lt h.len (by omega)] at he
    exact absurd he.symm (hqn i' (by omega))
  ·by_cases e' : i' = j
   ·subst e'
    rw [getD_snoc_eq h.len,getD_snoc_lt h.len (by omega)] at he
    exact absurd he (hqn i (by omega))
   ·rw [getD_snoc_lt h.len (by omega),getD_snoc_lt h.len (by omega)] at he
    exact h.inj i i' (by omega) (by omega) he
end
theorem reader_newT (M G i : Nat) (w : World) (hi : i < 64) : Calls Try.prog 9 #[.pointer (some ⟨M,0,none⟩),.pointer (some ⟨G,0,none⟩),.int .i64 i] w fun e w'=>e = .returned (.tuple #[.pointer (some ⟨w.heap.size,0,none⟩),.int .i64 0])∧w.alloc (.cells #[.pointer (some ⟨M,0,none⟩),.pointer (some ⟨G,0,none⟩),.int .i64 i,.bool false,.int .i64 0] 40) = w':=by
 have h0 : ¬ (i : Int) < 0:=by omega
 have h1 : ¬ (64 : Int)≤i:=by omega
 go_enter Try.func9,Try.ntmps9
 go_wp2
 go_ret2
 exact ⟨rfl,rfl⟩
theorem reader_follow (M : Nat) (x : Int) (w : World) (h0 : 0≤x) (h1 : x < 4611686018427387904) : Calls Try.prog 10 #[.pointer (some ⟨M,0,none⟩),.int .i64 x] w fun e w'=>e = .returned (.tuple #[.pointer (some ⟨w.heap.size,0,none⟩),.int .i64 0])∧w.alloc (.cells #[.pointer (some ⟨M,0,none⟩),.int .i64 x] 91) = w':=by
 have d0 : decide (x < 0) = false:=by simpa using h0
 have d1 : decide (4611686018427387904≤x) = false:=by simpa using h1
 clear h0 h1
 go_enter Try.func10,Try.ntmps10
 go_wp2
 go_ret2
 exact ⟨rfl,rfl⟩
theorem ids_inj {I : RIds} {z : Nat} (e0 : I.gt = z) (e1 : I.wb = z + 1) (e2 : I.M.gb = z + 2) (e3 : I.M.rb = z + 3) (e4 : I.M.cb = z + 4) (e5 : I.M.eb = z + 5) (e6 : I.M.mb = z + 6)
  (g1 : 0 < I.k→z + 7≤I.lr∧z + 7≤I.lf∧I.lr≠I.lf) (g2 : ∀ i,i < I.k→z + 7≤I.rd i∧z + 7≤I.fo i∧I.lr≠I.rd i∧I.lr≠I.fo i∧I.lf≠I.rd i∧I.lf≠I.fo i) (g3 : ∀ i j,i < I.k→j < I.k→I.rd i≠I.fo j)
  (g4 : ∀ i j,i < I.k→j < I.k→I.rd i = I.rd j→i = j) (g5 : ∀ i j,i < I.k→j < I.k→I.fo i = I.fo j→i = j) : ∀ x y,I.val x→I.val y→I.blk x = I.blk y→x = y:=by
 intro x y hx hy h
 rcases x with _ | _ | _ | _ | _ | _ | _ | _ | _ | j | j <;> rcases y with _ | _ | _ | _ | _ | _ | _ | _ | _ | i | i <;> first
  | rfl
  | (exfalso; simp only [RIds.blk] at h; omega)
  | (exfalso; have h1:=g1 hy; simp only [RIds.blk] at h; omega)
  | (exfalso; have h1:=g1 hx; simp only [RIds.blk] at h; omega)
  | (exfalso; have h1:=g2 _ hx; simp only [RIds.blk] at h; omega)
  | (exfalso; have h1:=g2 _ hy; simp only [RIds.blk] at h; omega)
  | (exfalso; exact g3 _ _ hx hy h)
  | (exfalso; exact g3 _ _ hy hx h.symm)
  | exact congrArg _ (g4 _ _ hx hy h)
  | exact congrArg _ (g5 _ _ hx hy h)
end Go.Proofs.Ytlhbonnminlnlaa
