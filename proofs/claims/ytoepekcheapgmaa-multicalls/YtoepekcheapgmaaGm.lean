/- DERIVED. A run by a schedule on a ring of many writers (package multi: Play) of threads that do nothing but claim, goroutine 0 alone. -/
import Derived.Test.YtoepekcheapgmaaGh
import Derived.Test.YtoepekcheapgmaaGd
import Derived.Test.YtoepekcheapgmaaGk
import Derived.Test.YtoepekcheapgmaaGi
import Derived.Test.YtoepekcheapgmaaGe
import Derived.Test.YtoepekcheapgmaaGl
set_option linter.unusedVariables false
set_option linter.unusedSectionVars false
set_option linter.unusedSimpArgs false
namespace Go.Proofs.Ytoepekcheapgmaa
open Go.RowKit Go.Turn Go.Tame Go.Conc
def innP {ι A0 : Type} (At : ι→A0→World→Prop) (BI : ι→Nat→Prop) (law : ∀ (I : ι) (a : A0) (w w' : World),At I a w→(∀ b,BI I b→w'.heap[b]? = w.heap[b]?)→At I a w') (I : ι) : Inner:=⟨A0,At I,BI I,law I⟩
set_option maxHeartbeats 4000000 in
set_option maxRecDepth 100000 in
theorem multi_playP {ι A0 : Type} (wbo : ι→Nat) (At : ι→A0→World→Prop) (BI : ι→Nat→Prop) (law : ∀ (I : ι) (a : A0) (w w' : World),At I a w→(∀ b,BI I b→w'.heap[b]? = w.heap[b]?)→At I a w') (PI : ι→Prop) (good : OpI→Prop) (a0 : A0) (doT : ι→Nat→DoQ A0) (dq : Nat→DoQ A0) (stf : A0→List Int) (stv : Value)
    (hP : Prog Try.prog) (Post : Value→World→Prop) (W0 : World)
    (tA : Option Addr) (Tb To nt cp : Nat) (htA : 0 < nt→tA = some ⟨Tb,To,none⟩) (hnt : nt≤maxLen) (A : Nat→Option Addr) (len cap : Nat→Nat) (ops : Nat→List OpI) (sv : Value) (xs : List Int) (most : Int) (w0 : World) (hW : W0.heap.size≤w0.heap.size)
    (hrows : RowsAt w0 Tb To (min nt 64) A len cap) (hin : OpsCells W0 good w0 (min nt 64) A len ops) (hsch : SchI W0 sv xs (fun b=>∃ i o,i < min nt 64∧A i = some ⟨b,o,none⟩) w0)
    (hmade : ∀ z,Old w0.heap.size w0 z→Calls Try.prog 33 #[stv] z fun e w2=>∃ I,e = .returned (.pointer (some ⟨wbo I,0,none⟩))∧PI I∧At I a0 w2∧(∀ b,BI I b→(∃ c t r,w2.heap[b]? = some (.cells c t r)∧r.2 < big)∧z.heap.size≤b)∧Below z.heap.size z w2)
    (hstate : ∀ I a w,PI I→At I a w→Calls Try.prog 36 #[.pointer (some ⟨wbo I,0,none⟩)] w (NumsRow w (stf a).length (stf a)))
    (hdo : ∀ (B : OpsB) I i,PI I→i < 64→DoLaw (B.on (innP At BI law I) good) i (doT I i) 35 #[.pointer (some ⟨wbo I,0,none⟩)] #[]) (hdq : ∀ I,PI I→doT I = dq)
    (hSo : Sound (brQ dq ops) (min nt 64) (a0,fun _=>[])) :
    Ccalls (lgA hP Post W0) 10 #[stv,.slice tA nt cp,sv,.int .i64 most] () w0 fun v _ w'=>PlayG W0 (stf (playRun (brQ dq ops) (min nt 64) (heldI most 1048576).toNat xs (a0,fun _=>[])).m.s.1).length stf (playRun (brQ dq ops) (min nt 64) (heldI most 1048576).toNat xs (a0,fun _=>[])) (min nt 64) w0 v w':=by
  have hent : ∀ args w,(callFunc 35 args).run Try.prog w = .ok (.enter 35 args) w:=fun args w=>by kernel_rfl
  have HSO:=Lib.hid hSo
  clear hSo
  intro c mid hR
  have HR:=Lib.hid hR
  clear hR
  have hs : ¬ (lgA hP Post W0).strict:=fun h=>h
  rw [show Frame.enter Try.prog 10 #[stv,.slice tA nt cp,sv,.int .i64 most] .normal = Frame.at { (default : Frame) with fn:=10,kind:=.normal } ⟨#[stv,.slice tA nt cp,sv,.int .i64 most] ++ Array.replicate (Try.f10.ntmps - 4) undef,[]⟩ [.code (Try.f10.body.getD .skip)] from by simp [Frame.enter,Frame.at,Try.func10]; rfl]
  simp only [Try.f10,Option.getD_some,Nat.reduceSub,Array.replicate_succ,Array.replicate_zero,List.push_toArray,List.append_toArray,List.nil_append,List.cons_append]
  refine Lg.move _ (fun _ _=>step_seq) (fun h=>h) ?_
  refine Lg.code fun K hK y τ n' hy=>?_
  have hold : Old w0.heap.size w0 y:=by rw [hy]; exact (Old.refl _ (y.re τ n')).re
  have hsz : y.heap.size = w0.heap.size:=by rw [hy]; rfl
  clear hy
  go_wp2
  refine hK _ _ (fun h=>absurd h hs) ?_
  clear hK K
  have hold1:=hold.new (show w0.heap.size≤y.heap.size by omega) (.cells #[.slice none 0 0,.slice none 0 0,.slice none 0 0,.bool false] 29)
  have hb8:=Blk.new y 29 #[.slice none 0 0,.slice none 0 0,.slice none 0 0,.bool false]
  have hsz1 : (y.alloc (.cells #[.slice none 0 0,.slice none 0 0,.slice none 0 0,.bool false] 29)).heap.size = w0.heap.size + 1:=by simp [hsz]
  rw [hsz] at hb8
  generalize y.alloc (.cells #[.slice none 0 0,.slice none 0 0,.slice none 0 0,.bool false] 29) = w1 at hb8 hold1 hsz1 ⊢
  obtain ⟨b8,h8⟩ : ∃ b8,b8 = w0.heap.size:=⟨_,rfl⟩
  rw [← h8] at hb8 ⊢
  have HZ2:=Lib.hid h8
  clear h8 hsz hold
  refine Lg.move _ (fun _ _=>step_seq) (fun h=>h) ?_
  refine Lg.code fun K hK z τ n' hz=>?_
  subst hz
  have hold1:=hold1.re
  have hb8 : Blk z b8 _ _:=hb8
  have hsz1 : z.heap.size = w0.heap.size + 1:=hsz1
  have HST:=Lib.hid (hmade z hold1)
  have HOLD:=Lib.hid hold1
  have HB8:=Lib.hid hb8
  have HZ:=Lib.hid hsz1
  clear hold1 hb8 hsz1
  go_wp2_with fail
  refine HST.out.mono ?_
  rintro e w2 ⟨I,rfl,hPI,hrat,N1,B1⟩
  have HPI:=Lib.hid hPI
  clear hPI hmade
  have hold2:=HOLD.out.below B1 (by have:=HZ.out; omega)
  have hb8 : Blk w2 b8 _ _:=HB8.out.below B1 HB8.out.lt
  have hlb8:=HB8.out.lt
  have hge0:=HZ.out
  generalize z.heap.size = sb at *
  have hge : ∀ b,BI I b→w0.heap.size + 1≤b:=fun b hb=>by have:=(N1 b hb).2; omega
  have hin2 : OpsIn W0 (innP At BI law I) good a0 w2 (min nt 64) A len ops:=hin.opsIn hold2 hrat fun b hb=>⟨(N1 b hb).1,by have:=hge b hb; omega⟩
  have hbW : ∀ b,BI I b→W0.heap.size≤b:=fun b hb=>by have:=hge b hb; omega
  have hrows2:=hrows.later hold2
  have hsch2 : SchI W0 sv xs (fun b=>BI I b∨∃ i o,i < min nt 64∧A i = some ⟨b,o,none⟩) w2:=hsch.later hold2 fun b hb hz=>by
    rcases hz with e | hz
    · have:=hge b e; omega
    · exact hz
  have HIN:=Lib.hid hin2
  have HRO:=Lib.hid hrows2
  have HSC:=Lib.hid hsch2
  have HO2:=Lib.hid hold2
  have HB2:=Lib.hid hb8
  have HGE:=Lib.hid hge
  clear hin hin2 hrows hrows2 hsch hsch2 hold2 hb8 hrat N1 B1 HST HOLD HB8 HZ hge hge0
  go_wp2
  refine hK _ _ (fun h=>absurd h hs) ?_
  clear hK K
  refine Lg.move _ (fun _ _=>step_seq) (fun h=>h) ?_
  refine Lg.move _ (fun _ _=>step_region) (fun h=>h) ?_
  refine Lg.pre 0 5 3 (by simp) fun K hK u τ n' hu=>?_
  subst hu
  have hin2 : OpsIn W0 (innP At BI law I) good a0 u (min nt 64) A len ops:=HIN.out.later (w0:=u.re τ n') (Old.refl _ (u.re τ n')).re
  have hrows2:=HRO.out.later (w0:=u.re τ n') (Old.refl _ (u.re τ n')).re
  have hsch2:=HSC.out.later (w0:=u.re τ n') (Old.refl _ (u.re τ n')).re (fun _ _ h=>h)
  have hold2:=HO2.out.re
  have hb8 : Blk u b8 _ _:=HB2.out
  have HIN2:=Lib.hid hin2
  have HRO2:=Lib.hid hrows2
  have HSC2:=Lib.hid hsch2
  have HO:=Lib.hid hold2
  have HB:=Lib.hid hb8
  clear hin2 hrows2 hsch2 hold2 hb8 HIN HRO HSC HO2 HB2
  simp only [List.drop_zero,List.take_succ_cons,List.take_zero]
  go_wp2
  refine hK _ _ (fun h=>absurd h hs) ?_
  clear hK K
  have hops:=ops_calls hP Post W0 (innP At BI law I) good a0 (doT I) tA Tb To nt cp htA hnt 35 #[.pointer (some ⟨wbo I,0,none⟩)] #[] A len cap ops sv xs most u (by have:=HO.out.size; omega) hbW HRO2.out HIN2.out HSC2.out hent (fun B i hi=>hdo B I i HPI.out hi) (fun B hn hB=>(show brT (B.on (innP At BI law I) good) (doT I) = brQ (dq) ops from (br_q (I:=innP At BI law I) (good:=good) B (doT I)).trans (by rw [hB,hdq I HPI.out]; rfl)) ▸ HSO.out)
  refine Lg.call (i:=5) (rest:=[6,7]) (f:=34) (args:=#[.slice tA nt cp,.func (.func 35) #[.pointer (some ⟨wbo I,0,none⟩)] #[],sv,.int .i64 most]) rfl rfl (fun y=>by go_simp) hops ?_
  rintro vv t'' w4 hdone
  have HOPS:=Lib.hid hdone
  obtain ⟨B,ov,hBn,hBo,hBa,hvv0,hov0,H,hrep,hH⟩:=hdone.ex
  clear hdone hops
  obtain ⟨R,hR⟩ : ∃ R : Run (A0 × (Nat→List Ans)),R = playRun (brQ (dq) ops) (min nt 64) (heldI most 1048576).toNat xs (a0,fun _=>[]):=⟨_,rfl⟩
  have eR : playRun (brT (B.on (innP At BI law I) good) (doT I)) (min nt 64) (heldI most 1048576).toNat xs (a0,fun _=>[]) = R:=by
    rw [hR]
    exact congrArg (fun b=>playRun b (min nt 64) (heldI most 1048576).toNat xs (a0,fun _=>[])) ((br_q (I:=innP At BI law I) (good:=good) B (doT I)).trans (by rw [hBo,hdq I HPI.out]; rfl))
  have key : ∀ R' : Run (A0 × (Nat→List Ans)),playRun (brT (B.on (innP At BI law I) good) (doT I)) (min nt 64) (heldI most 1048576).toNat xs (a0,fun _=>[]) = R'→vv = .agg #[.slice (some ⟨B.ab,0,none⟩) (min nt 64 : Nat) (min nt 64 : Nat),ov,.slice none 0 0,.bool (decide (0 < R'.m.left (min nt 64)))]∧w4.ownsRow u.heap.size 3 1 ov R'.order.length (R'.order.map (Value.int .i64))∧AnsAll w4 B.ab B.n R'.m.s.2 (fun b=>H b∧¬ BI I b)∧At I R'.m.s.1 w4∧∀ b,BI I b→b < w4.heap.size:=by
    rintro _ rfl
    exact ⟨hvv0,hov0,hrep.answers,hrep.at_,fun b hb=>by obtain ⟨c,t,r,h1,_⟩:=hrep.near b (hrep.bi b hb); exact lt_of_some h1⟩
  obtain ⟨hvv,hov,hans,hrat,hltB⟩:=key R eR
  rw [← hR] at HR
  rw [hBn] at hans
  obtain ⟨stk,hst⟩ : ∃ stk : Bool,stk = decide (0 < R.m.left (min nt 64)):=⟨_,rfl⟩
  rw [← hst] at hvv
  clear key hrep eR hvv0 hov0 hBo
  have HRR:=Lib.hid hR
  clear hR
  generalize min nt 64 = n at *
  obtain ⟨oA,oc,rfl⟩:=own_slice hov
  obtain ⟨oL,hoL⟩ : ∃ oL,oL = R.order.length:=⟨_,rfl⟩
  rw [← hoL] at hvv
  obtain ⟨ab,hab⟩ : ∃ ab,ab = B.ab:=⟨_,rfl⟩
  rw [← hab] at hvv hBa hans
  subst hvv
  have HX:=Lib.hid (And.intro hans (And.intro hrat (And.intro hov (And.intro hBa (And.intro hoL (And.intro hst (And.intro hH hltB)))))))
  have hb8 : Blk w4 b8 _ _:=HOPS.out.near b8 _ _ (0,0) (.inr ⟨by decide,fun z=>by have:=HGE.out _ z; have:=HZ2.out; omega⟩) HB.out
  clear hans hrat hov hBa hoL hst hH hltB
  have HB4:=Lib.hid hb8
  clear hb8 hab
  rw [Frame.finish_at]
  walk_nrm
  refine (show (lgA hP Post W0).T _ (Frame.at _ ⟨_,[]⟩ (.inRegion _ (List.range' 6 (2 + 0)) :: _)) (c :: mid) w4 from ?_)
  refine Lg.pre 6 2 0 (by simp) fun K hK q τ2 n2 hq=>?_
  simp only [List.drop_succ_cons,List.drop_zero,List.take_succ_cons,List.take_zero]
  go_wp2
  refine hK _ _ (fun h=>absurd h hs) ?_
  clear hK K
  have hb4 : Blk q b8 29 #[.slice none 0 0,.slice none 0 0,.slice none 0 0,.bool false]:=by have:=HB4.out; rw [hq] at this; exact this
  have hh : w4.heap = q.heap∧w4.os = q.os∧w4.output = q.output:=by rw [hq]; exact ⟨rfl,rfl,rfl⟩
  clear hq HB4
  obtain ⟨b10,h10⟩ : ∃ b10,b10 = q.heap.size:=⟨_,rfl⟩
  rw [← h10]
  obtain ⟨w5,hw5,hb10,f1,f2,f3⟩ : ∃ w5,w5 = (q.alloc (.cells #[.slice (some ⟨ab,0,none⟩) n n,.slice oA oL oc,.slice none 0 0,.bool stk] 29))∧Blk w5 b10 29 #[.slice (some ⟨ab,0,none⟩) n n,.slice oA oL oc,.slice none 0 0,.bool stk]∧(∀ b,b < w4.heap.size→w5.heap[b]? = w4.heap[b]?)∧w5.heap.size = w4.heap.size + 1∧w5.os = w4.os∧w5.output = w4.output:=by
    refine ⟨_,rfl,h10 ▸ Blk.new q _ _,fun b hb=>?_,?_,hh.2.1.symm,hh.2.2.symm⟩
    · rw [hh.1] at hb ⊢; exact Below.heap_alloc _ _ _ hb
    · rw [hh.1]; simp
  rw [← hw5]
  clear hw5
  have hg10 : w4.heap.size≤b10:=by rw [h10,hh.1]; exact Nat.le_refl _
  have HG10:=Lib.hid hg10
  have h84 : b8 < w4.heap.size:=by rw [hh.1]; exact hb4.lt
  have hb8 : Blk w5 b8 29 #[.slice none 0 0,.slice none 0 0,.slice none 0 0,.bool false]:=(f1 b8 h84).trans (by rw [hh.1]; exact hb4)
  clear h10 hh hb4 hg10
  refine Lg.move _ (fun _ _=>step_region_end) (fun h=>h) ?_
  refine Lg.move _ (fun _ _=>step_seq) (fun h=>h) ?_
  refine Lg.code fun K hK p τ3 n3 hp=>?_
  subst hp
  have hb10 : Blk p b10 _ _:=hb10
  have hb8 : Blk p b8 _ _:=hb8
  have hrat5 : At I R.m.s.1 p:=law I _ w4 p HX.out.2.1 fun b hb=>f1 b (HX.out.2.2.2.2.2.2.2 b hb)
  have HF:=Lib.hid (And.intro f1 (And.intro f2 f3))
  have HB10:=Lib.hid hb10
  have HB8:=Lib.hid hb8
  have HRA:=Lib.hid hrat5
  clear f1 f2 f3 hb10 hb8 hrat5
  go_wp2_with fail
  refine (hstate I _ p HPI.out HRA.out).mono ?_
  rintro e w6 ⟨tv,rfl,ht,B6⟩
  obtain ⟨sl,hsl⟩ : ∃ sl,sl = (stf R.m.s.1).length:=⟨_,rfl⟩
  rw [← hsl] at ht
  have HSL:=Lib.hid hsl
  clear hsl
  obtain ⟨tA,tc,rfl⟩:=own_slice ht
  have hb10 : Blk w6 b10 _ _:=HB10.out.below B6 HB10.out.lt
  have c2:=hb10.cell 2
  have z2:=hb10.frozen 2
  simp at c2
  have HT:=Lib.hid ht
  have HB6:=Lib.hid B6
  clear ht B6
  have HBX:=Lib.hid hb10
  clear hb10
  go_wp2
  refine hK _ _ (fun h=>absurd h hs) ?_
  clear hK K c2 z2
  have hb8 : Blk w6 b8 _ _:=HB8.out.below HB6.out HB8.out.lt
  have hne : b8≠b10:=by have:=HG10.out; omega
  have hb10:=(HBX.out).set_ 2 (.slice tA (sl) tc)
  have hb8:=hb8.far (p:=⟨b10,2,none⟩) hne (.slice tA (sl) tc)
  simp only [List.setIfInBounds_toArray,List.set_cons_zero,List.set_cons_succ] at hb10
  obtain ⟨w7,hw7,g1,g2,g3⟩ : ∃ w7,w7 = w6.setCell ⟨b10,2,none⟩ (.slice tA (sl) tc)∧(∀ b,b≠b10→w7.heap[b]? = w6.heap[b]?)∧w7.heap.size = w6.heap.size∧w7.os = w6.os∧w7.output = w6.output:=⟨_,rfl,fun b hb=>Below.heap_setCell _ _ _ _ hb,by simp [World.setCell],rfl,rfl⟩
  rw [← hw7] at hb8 hb10 ⊢
  clear hw7 HBX
  refine Lg.move _ (fun _ _=>step_seq) (fun h=>h) ?_
  refine Lg.code fun K hK v τ4 n4 hv=>?_
  subst hv
  have hb10 : Blk v b10 _ _:=hb10
  have hb8 : Blk v b8 _ _:=hb8
  have o0:=hb8.cell 0
  have o1:=hb8.cell 1
  have o2:=hb8.cell 2
  have o3:=hb8.cell 3
  have z0:=hb8.frozen 0
  have z1:=hb8.frozen 1
  have z2:=hb8.frozen 2
  have z3:=hb8.frozen 3
  have e0:=hb10.cell 0
  have e1:=hb10.cell 1
  have e2:=hb10.cell 2
  have e3:=hb10.cell 3
  simp at o0 o1 o2 o3 e0 e1 e2 e3
  have HC8:=Lib.hid hb8
  have HG:=Lib.hid (And.intro g1 (And.intro g2 g3))
  clear hb8 hb10 g1 g2 g3
  go_wp2
  refine hK _ _ (fun h=>absurd h hs) ?_
  clear hK K o0 o1 o2 o3 z0 z1 z2 z3 e0 e1 e2 e3
  have hb8:=(((HC8.out.set_ 0 (.slice (some ⟨ab,0,none⟩) n n)).set_ 1 (.slice oA oL oc)).set_ 2 (.slice tA (sl) tc)).set_ 3 (.bool stk)
  simp only [List.setIfInBounds_toArray,List.set_cons_zero,List.set_cons_succ] at hb8
  obtain ⟨w9,hw9,k1,k2,k3⟩ : ∃ w9,w9 = (((v.setCell ⟨b8,0,none⟩ (.slice (some ⟨ab,0,none⟩) n n)).setCell ⟨b8,1,none⟩ (.slice oA oL oc)).setCell ⟨b8,2,none⟩ (.slice tA (sl) tc)).setCell ⟨b8,3,none⟩ (.bool stk)∧(∀ b,b≠b8→w9.heap[b]? = v.heap[b]?)∧w9.heap.size = v.heap.size∧w9.os = v.os∧w9.output = v.output:=
    ⟨_,rfl,fun b hb=>by rw [Below.heap_setCell _ _ _ _ hb,Below.heap_setCell _ _ _ _ hb,Below.heap_setCell _ _ _ _ hb,Below.heap_setCell _ _ _ _ hb],by simp [World.setCell],rfl,rfl⟩
  rw [← hw9] at hb8 ⊢
  clear hw9 HC8
  refine Lg.move _ (fun _ _=>step_ret) (fun h=>h) ?_
  refine Lg.leave rfl Try.func10 rfl (v:=.agg #[.slice (some ⟨ab,0,none⟩) n n,.slice oA oL oc,.slice tA (sl) tc,.bool stk]) (fun y τ n' hy=>?_) (HR.out _ _ _ ?_)
  · have c0 : y.cell? ⟨b8,0,none⟩ = some (.slice (some ⟨ab,0,none⟩) n n):=by have:=hb8.cell 0; rw [hy] at this; exact this
    have c1 : y.cell? ⟨b8,1,none⟩ = some (.slice oA oL oc):=by have:=hb8.cell 1; rw [hy] at this; exact this
    have c2 : y.cell? ⟨b8,2,none⟩ = some (.slice tA (sl) tc):=by have:=hb8.cell 2; rw [hy] at this; exact this
    have c3 : y.cell? ⟨b8,3,none⟩ = some (.bool stk):=by have:=hb8.cell 3; rw [hy] at this; exact this
    simp [results,Try.f10,go_sem,c0,c1,c2,c3]
  obtain ⟨hans,hrat,hov,hBa,hoL,hst,hH,hltB⟩:=HX.out
  obtain rfl:=HSL.out
  obtain ⟨f1,f2,f3⟩:=HF.out
  obtain ⟨g1,g2,g3⟩:=HG.out
  have b6:=HB6.out
  have hG:=HG10.out
  have hge:=HGE.out
  have h8:=HZ2.out
  have hops:=HOPS.out
  have ho:=HO.out
  have sz0:=ho.size
  have s1:=hops.size
  have s6:=b6.size
  have f2 : p.heap.size = w4.heap.size + 1:=f2
  have g2 : v.heap.size = w6.heap.size:=g2
  have l8:=HB.out.lt
  subst hoL
  have far : ∀ b,b < w4.heap.size→b≠b8→w9.heap[b]? = w4.heap[b]?:=fun b h1 h2=>by
    rw [k1 b h2,show v.heap[b]? = w6.heap[b]? from g1 b (by omega),b6.block b (by omega)]
    exact f1 b h1
  have nbi : ∀ b,b < w0.heap.size→¬ BI I b:=fun b hb e=>by have:=hge b e; omega
  have nb8 : ¬ H b8:=hH b8 _ _ (0,0) (.inr ⟨by decide,fun e=>by have:=hge _ e; omega⟩) HB.out
  have hlt : ∀ b,H b∧¬ BI I b→b < w4.heap.size:=fun b hb=>by
    obtain ⟨c,t,r,h1,_⟩:=hans.near b hb
    exact lt_of_some h1
  refine ⟨⟨ab,.slice oA R.order.length oc,.slice tA (stf R.m.s.1).length tc,_,by omega,by rw [hst],?_,?_,hans.same fun b hb=>far b (hlt b hb) (fun e=>nb8 (e ▸ hb.1)),fun b c t r hc hb hH2=>?_,fun b hb hb2=>?_⟩,by omega,fun b c t r hc hb=>?_,?_⟩
  · refine own_base (own_same hov fun b hb=>?_) (show w0.heap.size≤u.heap.size by omega)
    rcases hov.2 with ⟨e,_⟩ | ⟨g',cp2,cur,e,hg2,hh2,_⟩
    · rw [e] at hb; simp [Value.ownBlock] at hb
    · rw [e] at hb
      simp only [Value.ownBlock,Option.some.injEq] at hb
      subst hb
      exact far _ (lt_of_some hh2) (by omega)
  · refine own_base (own_same HT.out fun b hb=>?_) (show w0.heap.size≤p.heap.size by omega)
    rcases HT.out.2 with ⟨e,_⟩ | ⟨g',cp2,cur,e,hg2,hh2,_⟩
    · rw [e] at hb; simp [Value.ownBlock] at hb
    · rw [e] at hb
      simp only [Value.ownBlock,Option.some.injEq] at hb
      subst hb
      have:=HB10.out.lt
      rw [k1 _ (by omega)]
      exact g1 _ (by omega)
  · have hb0:=lt_of_some hb
    exact hH b c t r (hc.imp id fun z=>⟨z,nbi b hb0⟩) ((ho.block b hb0).trans hb) hH2.1
  · rcases HT.out.2 with ⟨e,_⟩ | ⟨g',cp2,cur,e,hg2,hh2,_⟩
    · rw [e] at hb; simp [Value.ownBlock] at hb
    · rw [e] at hb
      simp only [Value.ownBlock,Option.some.injEq] at hb
      subst hb
      have:=hlt _ hb2
      omega
  · have h1:=lt_of_some hb
    have h2:=hops.near b c t r (hc.imp id fun z=>⟨z,nbi b h1⟩) ((ho.block b h1).trans hb)
    rw [far b (lt_of_some h2) (by omega)]
    exact h2
  · exact ⟨k3.1.trans (g3.1.trans (b6.os.trans (f3.1.trans (hops.io.1.trans ho.io.1)))),k3.2.trans (g3.2.trans (b6.output.trans (f3.2.trans (hops.io.2.trans ho.io.2))))⟩
def sizeO (ss : List Int) : Int:=ss.getD 0 1
def firstO (ss : List Int) : Int:=ss.getD 1 0
def kO (ss : List Int) : Nat:=min (ss.length - 2) 64
def s0O (ss : List Int) : MSt:=⟨firstO ss - 1,firstO ss - 1,fun j=>ss.getD (2 + j) 0,fun _=>-2,fun _=>0,fun _=>0,fun _=>0⟩
structure RdsAt (w : World) (B : Nat) (ss : List Int) (j : Nat) (r : Value) (qs : List Nat) : Prop where
  len : qs.length = j
  row : w.ownsRow B 79 1 r j (qs.map fun q=>.pointer (some ⟨q,0,none⟩))
  word : ∀ i,i < j→Blk w (qs.getD i 0) 186 #[.int .i64 (ss.getD (2 + i) 0)]
  ge : ∀ i,i < j→B≤qs.getD i 0
  inj : ∀ i i',i < j→i' < j→qs.getD i 0 = qs.getD i' 0→i = i'
theorem RdsAt.ne {w : World} {B : Nat} {ss : List Int} {j : Nat} {r : Value} {qs : List Nat} (h : RdsAt w B ss j r qs) {i : Nat} (hi : i < j) : r.ownBlock≠some (qs.getD i 0):=fun z=>by
  have hb:=h.word i hi
  rcases h.row.2 with ⟨e,_⟩ | ⟨g,cap,cur,e,_,hh,_⟩
  · rw [e] at z; simp [Value.ownBlock] at z
  · rw [e] at z
    simp only [Value.ownBlock,Option.some.injEq] at z
    subst z
    unfold Blk at hb
    rw [hh] at hb
    simp at hb
theorem RdsAt.row_ge {w : World} {B : Nat} {ss : List Int} {j : Nat} {r : Value} {qs : List Nat} (h : RdsAt w B ss j r qs) {b : Nat} (hb : r.ownBlock = some b) : B≤b:=(h.row.lt b hb).1
theorem RdsAt.kept {w w' : World} {B : Nat} {ss : List Int} {j : Nat} {r : Value} {qs : List Nat} {Z : Nat→Prop} (h : RdsAt w B ss j r qs) (k : Kept Z w w') (hz : ∀ b,B≤b→¬ Z b) : RdsAt w' B ss j r qs:=
  ⟨h.len,own_kept h.row k hz,fun i hi=>(h.word i hi).kept k (hz _ (h.ge i hi)),h.ge,h.inj⟩
theorem getD_snoc_lt {qs : List Nat} {q j i : Nat} (hl : qs.length = j) (hi : i < j) : (qs ++ [q]).getD i 0 = qs.getD i 0:=by
  rw [List.getD_eq_getElem?_getD,List.getD_eq_getElem?_getD,List.getElem?_append_left (by omega)]
theorem getD_snoc_eq {qs : List Nat} {q j : Nat} (hl : qs.length = j) : (qs ++ [q]).getD j 0 = q:=by
  rw [List.getD_eq_getElem?_getD,List.getElem?_append_right (by omega),hl]; simp
theorem RdsAt.snoc {wr w3 w4 : World} {B q : Nat} {ss : List Int} {j : Nat} {r v' : Value} {qs : List Nat} (h : RdsAt wr B ss j r qs) (hq : Blk w3 q 186 #[.int .i64 (ss.getD (2 + j) 0)]) (h13 : ∀ b,b < wr.heap.size→w3.heap[b]? = wr.heap[b]?) (hqge : wr.heap.size≤q) (hB : B≤wr.heap.size) (hg : w3.grownBy w4 r.ownBlock)
    (hown : w4.ownsRow B 79 1 v' (j + 1) (qs.map (fun q=>Value.pointer (some ⟨q,0,none⟩)) ++ [.pointer (some ⟨q,0,none⟩)])) : RdsAt w4 B ss (j + 1) v' (qs ++ [q]):=by
  have hrl : ∀ b,r.ownBlock = some b→b < wr.heap.size:=fun b hb=>by
    rcases h.row.2 with ⟨e,_⟩ | ⟨g,cap,cur,e,_,hh,_⟩
    · rw [e] at hb; simp [Value.ownBlock] at hb
    · rw [e] at hb
      simp only [Value.ownBlock,Option.some.injEq] at hb
      subst hb
      exact lt_of_some hh
  refine ⟨by simp [h.len],by rw [List.map_append]; exact hown,fun i hi=>?_,fun i hi=>?_,fun i i' hi hi' he=>?_⟩
  · by_cases e : i = j
    · subst e
      rw [getD_snoc_eq h.len]
      exact (hg.block q hq.lt (fun z=>by have:=hrl q z.symm; omega)).trans hq
    · rw [getD_snoc_lt h.len (by omega)]
      have hb:=h.word i (by omega)
      have hl:=hb.lt
      have h3 : Blk w3 (qs.getD i 0) _ _:=(h13 _ hl).trans hb
      exact (hg.block _ h3.lt (fun z=>h.ne (by omega) z.symm)).trans h3
  · by_cases e : i = j
    · subst e; rw [getD_snoc_eq h.len]; omega
    · rw [getD_snoc_lt h.len (by omega)]; exact h.ge i (by omega)
  · by_cases e : i = j
    · by_cases e' : i' = j
      · omega
      · subst e
        rw [getD_snoc_eq h.len,getD_snoc_lt h.len (by omega)] at he
        have:=(h.word i' (by omega)).lt
        omega
    · by_cases e' : i' = j
      · subst e'
        rw [getD_snoc_eq h.len,getD_snoc_lt h.len (by omega)] at he
        have:=(h.word i (by omega)).lt
        omega
      · rw [getD_snoc_lt h.len (by omega),getD_snoc_lt h.len (by omega)] at he
        exact h.inj i i' (by omega) (by omega) he
def zw (m : Nat) (r : Value) : Array Value:=#[.pointer (some ⟨m,0,none⟩),r] ++ Array.replicate 128 (.int .i64 0)
theorem zw_set0 (m : Nat) : Try.zeroCells164.setIfInBounds 0 (.pointer (some ⟨m,0,none⟩)) = zw m (.slice none 0 0):=by kernel_rfl
theorem zw_set1 (m : Nat) (r r' : Value) : (zw m r).setIfInBounds 1 r' = zw m r':=by kernel_rfl
theorem zw_get0 (m : Nat) (r : Value) : (zw m r)[0]? = some (.pointer (some ⟨m,0,none⟩)):=by kernel_rfl
theorem zw_get1 (m : Nat) (r : Value) : (zw m r)[1]? = some r:=by kernel_rfl
theorem Try.wordInfo : (Try.prog.info? 79).map (fun i=>(i.zero,i.size,i.bytes)) = some (some (.pointer none),1,8):=by kernel_rfl
theorem zw_getz : ∀ o,o < 130→2≤o→∀ (m : Nat) (r : Value),(zw m r)[o]? = some (.int .i64 0):=fun o h1 h2 m r=>by
  unfold zw
  rw [Array.getElem?_append_right (by simpa using h2)]
  simp [Array.getElem?_replicate]
  omega
theorem lay_at {I : WIds} {S : MSt} {w : World} {z : Array Value} {tz : TypeId} (hI : I.Ok) (hbk : Blk w I.wb tz z) (hz0 : z[0]? = some (.pointer (some ⟨I.M.mb,0,none⟩))) (hz1 : z[1]? = some (.slice I.rA I.k I.rc)) (hz : ∀ o,2≤o→o < 130→z[o]? = some (.int .i64 (if o % 2 = 0 then S.cf ((o - 2) / 2) else S.cn ((o - 2) / 2))))
    (C4 : Blk w I.M.mb 81 #[.pointer (some ⟨I.M.rb,0,none⟩),.int .i64 I.M.first,.pointer (some ⟨I.M.cb,0,none⟩),.pointer (some ⟨I.M.eb,0,none⟩)]) (R : RingAt w I.M.rb I.M.gb I.M.n S.st S.va) (nr : NearB w I.M.rb) (ng : NearB w I.M.gb)
    (C2 : Blk w I.M.cb 186 #[.int .i64 S.cursor]) (C3 : Blk w I.M.eb 186 #[.int .i64 S.seen]) (hl : 0 < I.k→NearB w I.lb∧∀ o,o < I.k→w.cell? ⟨I.lb,o,none⟩ = some (.pointer (some ⟨I.qb o,0,none⟩))) (hq : ∀ j,j < I.k→Blk w (I.qb j) 186 #[.int .i64 (S.num j)]) (ok : MOk S) : (multiY I).At S w:=by
  refine ⟨fun b o v h=>?_,fun b hb=>?_,ok⟩
  · have h : layM I S b o = some v:=h
    have d1:=hI.d1; have d2:=hI.d2; have d3:=hI.d3; have d4:=hI.d4; have d5:=hI.d5
    unfold layM at h
    by_cases e1 : b = I.wb
    · subst e1
      rw [if_pos rfl] at h
      by_cases o0 : o = 0
      · subst o0; rw [if_pos rfl] at h; rw [← h]; exact (hbk.cell 0).trans hz0
      rw [if_neg o0] at h
      by_cases o1 : o = 1
      · subst o1; rw [if_pos rfl] at h; rw [← h]; exact (hbk.cell 1).trans hz1
      rw [if_neg o1] at h
      by_cases o2 : o < 130
      · rw [if_pos o2] at h; rw [← h]; exact (hbk.cell o).trans (hz o (by omega) o2)
      · rw [if_neg o2] at h; cases h
    rw [if_neg e1] at h
    by_cases e2 : b = I.M.mb
    · subst e2
      rw [if_pos rfl] at h
      by_cases o0 : o = 0
      · subst o0; rw [if_pos rfl] at h; rw [← h]; exact C4.cell 0
      rw [if_neg o0] at h
      by_cases o1 : o = 1
      · subst o1; rw [if_pos rfl] at h; rw [← h]; exact C4.cell 1
      rw [if_neg o1] at h
      by_cases o2 : o = 2
      · subst o2; rw [if_pos rfl] at h; rw [← h]; exact C4.cell 2
      rw [if_neg o2] at h
      by_cases o3 : o = 3
      · subst o3; rw [if_pos rfl] at h; rw [← h]; exact C4.cell 3
      · rw [if_neg o3] at h; cases h
    rw [if_neg e2] at h
    by_cases e3 : b = I.M.rb
    · subst e3
      rw [if_pos rfl] at h
      by_cases o0 : o = 0
      · subst o0; rw [if_pos rfl] at h; rw [← h]; exact R.ring
      · rw [if_neg o0] at h; cases h
    rw [if_neg e3] at h
    by_cases e4 : b = I.M.gb
    · subst e4
      rw [if_pos rfl] at h
      by_cases ho : o < 2 * I.M.n
      · rw [if_pos ho] at h
        rw [← h]
        by_cases hp : o % 2 = 0
        · rw [if_pos hp]
          have:=R.stamp (o / 2) (by omega)
          rw [show o / 2 * 2 = o by omega] at this
          exact this
        · rw [if_neg hp]
          have:=R.value (o / 2) (by omega)
          rw [show o / 2 * 2 + 1 = o by omega] at this
          exact this
      · rw [if_neg ho] at h; cases h
    rw [if_neg e4] at h
    by_cases e5 : b = I.M.cb
    · subst e5
      rw [if_pos rfl] at h
      by_cases o0 : o = 0
      · subst o0; rw [if_pos rfl] at h; rw [← h]; exact C2.cell 0
      · rw [if_neg o0] at h; cases h
    rw [if_neg e5] at h
    by_cases e6 : b = I.M.eb
    · subst e6
      rw [if_pos rfl] at h
      by_cases o0 : o = 0
      · subst o0; rw [if_pos rfl] at h; rw [← h]; exact C3.cell 0
      · rw [if_neg o0] at h; cases h
    rw [if_neg e6] at h
    by_cases e7 : 0 < I.k∧b = I.lb
    · obtain ⟨hk,rfl⟩:=e7
      rw [if_pos ⟨hk,rfl⟩] at h
      by_cases o0 : o < I.k
      · rw [if_pos o0] at h; rw [← h]; exact (hl hk).2 o o0
      · rw [if_neg o0] at h; cases h
    rw [if_neg e7] at h
    cases hf : I.find b with
    | none=>rw [hf] at h; cases h
    | some j =>
      rw [hf] at h
      have h : (if o = 0 then some (Value.int .i64 (S.num j)) else none) = some v:=h
      obtain ⟨h1,h2⟩:=WIds.find_some hf
      by_cases o0 : o = 0
      · subst o0; rw [if_pos rfl] at h; rw [← h,← h2]; exact (hq j h1).cell 0
      · rw [if_neg o0] at h; cases h
  · have hb : MBI I b:=hb
    unfold MBI at hb
    rcases hb with rfl | rfl | rfl | rfl | rfl | rfl | ⟨hk,rfl⟩ | ⟨j,hj,rfl⟩
    · exact ⟨_,_,hbk⟩
    · exact ⟨_,_,C4⟩
    · exact nr
    · exact ng
    · exact ⟨_,_,C2⟩
    · exact ⟨_,_,C3⟩
    · exact (hl hk).1
    · exact ⟨_,_,hq j hj⟩
theorem made_at {w w1 w2 wr : World} {wb n K : Nat} {fs : Int} {ss : List Int} {rA : Option Addr} {rc : Nat} {qs : List Nat} (hwb : wb = w.heap.size) (hbel : Below w.heap.size w (w.alloc (.cells Try.zeroCells164 164)))
    (R1 : RingAt w1 (wb + 1 + 1) (wb + 1) n (fun _=>-2) (fun _=>0)) (N0 : NearB w1 (wb + 1)) (N1 : NearB w1 (wb + 1 + 1)) (B2 : Blk w1 (wb + 1 + 2) 186 #[.int .i64 (fs - 1)]) (B3 : Blk w1 (wb + 1 + 3) 186 #[.int .i64 (fs - 1)])
    (B4 : Blk w1 (wb + 5) 81 #[.pointer (some ⟨wb + 1 + 1,0,none⟩),.int .i64 fs,.pointer (some ⟨wb + 1 + 2,0,none⟩),.pointer (some ⟨wb + 1 + 3,0,none⟩)]) (B5 : Below (wb + 1) (w.alloc (.cells Try.zeroCells164 164)) w1) (Z1 : w1.heap.size = wb + 1 + 5)
    (hw2 : w2 = w1.setCell ⟨wb,0,none⟩ (.pointer (some ⟨wb + 5,0,none⟩))) (hfs : fs = firstO ss) (h0 : 0 < n) (h2 : n≤65536) (hf0 : 0≤fs) (hf1 : fs < 4611686018427387904) (hk64 : K≤64)
    (hrd : RdsAt wr (wb + 6) ss K (.slice rA K rc) qs) (hbk : Blk wr wb 164 (zw (wb + 5) (.slice rA K rc))) (hkp : Kept (fun b=>b = wb) w2 wr) :
    ∃ I : WIds,(Ending.returned (.pointer (some ⟨wb,0,none⟩)) : Ending) = .returned (.pointer (some ⟨I.wb,0,none⟩))∧(I.Ok∧I.M.n = n∧I.M.first = firstO ss∧I.k = K)∧(multiY I).At (s0O ss) wr∧(∀ b,MBI I b→(∃ c t r,wr.heap[b]? = some (.cells c t r)∧r.2 < big)∧w.heap.size≤b)∧Below w.heap.size w wr:=by
  have k12 : Kept (fun b=>b = wb) w1 w2:=hw2 ▸ Kept.setCell (S:=fun b=>b = wb) w1 (p:=⟨wb,0,none⟩) rfl _
  have k:=k12.trans hkp
  have hrow : 0 < K→∃ g,rA = some ⟨g,0,none⟩∧wb + 6≤g∧NearB wr g:=fun hk=>by
    rcases hrd.row.2 with ⟨e,z⟩ | ⟨g,cap,cur,e,hg,hh,_⟩
    · omega
    · cases e; exact ⟨g,rfl,hg,_,_,hh⟩
  have hcap : K≤rc∧rc≤maxLen:=by
    rcases hrd.row.2 with ⟨e,z⟩ | ⟨g,cap,cur,e,hg,hh,h3,h4,_⟩
    · simp only [Value.slice.injEq] at e; obtain ⟨_,e1,e2⟩:=e; exact ⟨by omega,by unfold maxLen; omega⟩
    · cases e; exact ⟨h3,h4⟩
  have R:=R1.kept k (by omega) (by omega)
  have near : ∀ b,NearB w1 b→b≠wb→NearB wr b:=fun b ⟨c,t,h⟩ hb=>⟨c,t,(k.block b (lt_of_some h) hb).trans h⟩
  have C2:=B2.kept k (by omega)
  have C3:=B3.kept k (by omega)
  have C4:=B4.kept k (by omega)
  have hOk : WIds.Ok ⟨⟨wb + 5,wb + 1 + 1,wb + 1,wb + 1 + 2,wb + 1 + 3,n,fs⟩,wb,(rA.map (·.block)).getD 0,fun j=>qs.getD j 0,K,rA,rc⟩:=by
    refine ⟨h0,h2,hf0,hf1,hk64,fun hk=>?_,hcap,?_,?_,?_,?_,?_,fun hk=>?_,fun j hj=>⟨?_,fun e=>?_⟩,fun i j hi hj e=>hrd.inj i j hi hj e⟩
    · obtain ⟨g,rfl,_⟩:=hrow hk; rfl
    · show wb < wb + 1; omega
    · show wb + 1 < wb + 1 + 1; omega
    · show wb + 1 + 1 < wb + 1 + 2; omega
    · show wb + 1 + 2 < wb + 1 + 3; omega
    · show wb + 1 + 3 < wb + 5; omega
    · obtain ⟨g,rfl,hg,_⟩:=hrow hk; show wb + 5 < g; omega
    · have:=hrd.ge j hj; show wb + 5 < qs.getD j 0; omega
    · have hj' : j < K:=hj
      obtain ⟨g,rfl,hg,_⟩:=hrow (by omega)
      exact hrd.ne hj' (show some g = some (qs.getD j 0) from congrArg some e.symm)
  have hat : (multiY ⟨⟨wb + 5,wb + 1 + 1,wb + 1,wb + 1 + 2,wb + 1 + 3,n,fs⟩,wb,(rA.map (·.block)).getD 0,fun j=>qs.getD j 0,K,rA,rc⟩).At (s0O ss) wr:=by
    refine lay_at hOk hbk (zw_get0 _ _) (zw_get1 _ _) (fun o h1 h2=>?_) C4 R (near (wb + 1 + 1) N1 (by omega)) (near (wb + 1) N0 (by omega)) (by rw [hfs] at C2; exact C2) (by rw [hfs] at C3; exact C3) (fun hk=>?_) (fun j hj=>hrd.word j hj) ?_
    · rw [zw_getz o h2 h1]
      show some (Value.int .i64 0) = some (Value.int .i64 (if o % 2 = 0 then 0 else 0))
      rw [ite_self]
    · have hk : 0 < K:=hk
      obtain ⟨g,rfl,hg,hn⟩:=hrow hk
      refine ⟨hn,fun o ho=>?_⟩
      have ho : o < K:=ho
      have h5:=hrd.row.cellAt (g:=g) o (by omega)
      refine h5.trans ?_
      rw [List.getElem?_map,List.getElem?_eq_getElem (by rw [hrd.len]; exact ho)]
      show some (Value.pointer (some ⟨qs[o]'(by rw [hrd.len]; exact ho),0,none⟩)) = some (Value.pointer (some ⟨qs.getD o 0,0,none⟩))
      rw [List.getD_eq_getElem?_getD,List.getElem?_eq_getElem (by rw [hrd.len]; exact ho)]
      rfl
    · exact ⟨by show -1≤firstO ss - 1; omega,by show firstO ss - 1 < _; omega,fun i=>⟨by show (-65536 : Int)≤0; omega,by show (0 : Int)≤_; omega⟩,fun i=>⟨by show (0 : Int)≤0; omega,by show (0 : Int)≤_; omega⟩⟩
  refine ⟨_,rfl,⟨hOk,rfl,hfs,rfl⟩,hat,fun b hb=>⟨?_,?_⟩,?_⟩
  · obtain ⟨c,t,h⟩:=hat.near b hb
    exact ⟨c,t,_,h,by decide⟩
  · have hb : b = wb∨b = wb + 5∨b = wb + 1 + 1∨b = wb + 1∨b = wb + 1 + 2∨b = wb + 1 + 3∨(0 < K∧b = (rA.map (·.block)).getD 0)∨∃ j,j < K∧qs.getD j 0 = b:=hb
    rcases hb with h | h | h | h | h | h | ⟨hk,h⟩ | ⟨j,hj,h⟩
    · omega
    · omega
    · omega
    · omega
    · omega
    · omega
    · obtain ⟨g,rfl,hg,hn⟩:=hrow hk
      have h : b = g:=h
      omega
    · have:=hrd.ge j hj; omega
  · have b1 : Below w.heap.size w w1:=hbel.trans (B5.mono (by omega))
    have b2 : Below w.heap.size w1 wr:=k.to_below (fun b hb=>by omega) (by have:=B5.size; have:=hbel.size; omega)
    exact b1.trans b2
set_option maxHeartbeats 4000000 in
set_option maxRecDepth 100000 in
theorem multi_made (w : World) (A : Option Addr) (c : Nat) (ss : List Int) (n : Nat) (hx : NumsIn w A c ss) (hn : sizeO ss = n) (h0 : 0 < n) (h2 : n≤65536) (hb : (bits BinOp.and IntKind.i64 (n : Int) ((n : Int) - 1) != 0) = false) (hf0 : 0≤firstO ss) (hf1 : firstO ss < 4611686018427387904) (hl : 2≤ss.length) :
    Calls Try.prog 33 #[.slice A ss.length c] w (fun e w'=>∃ I : WIds,e = .returned (.pointer (some ⟨I.wb,0,none⟩))∧(I.Ok∧I.M.n = n∧I.M.first = firstO ss∧I.k = kO ss)∧(multiY I).At (s0O ss) w'∧(∀ b,MBI I b→(∃ c t r,w'.heap[b]? = some (.cells c t r)∧r.2 < big)∧w.heap.size≤b)∧Below w.heap.size w w'):=by
  obtain ⟨i0,hi0,hz0,hz1,hz2⟩:=info_parts Try.wordInfo
  obtain ⟨L,hL⟩ : ∃ L,L = ss.length:=⟨_,rfl⟩
  have hLm : L≤maxLen:=by have:=hx.le; have:=hx.max; omega
  obtain ⟨ab,ao,rfl,c0⟩:=hx.cells 0 (by omega)
  obtain ⟨ab',ao',hab,c1⟩:=hx.cells 1 (by omega)
  cases hab
  have hn' : ss.getD 0 0 = n:=by rw [← hn]; unfold sizeO; rw [List.getD_eq_getElem?_getD,List.getD_eq_getElem?_getD,List.getElem?_eq_getElem (by omega)]; rfl
  rw [hn',Nat.add_zero] at c0
  have hfe : ss.getD 1 0 = firstO ss:=rfl
  rw [hfe] at c1
  obtain ⟨fs,hfs⟩ : ∃ fs,fs = firstO ss:=⟨_,rfl⟩
  rw [← hfs] at c1 hf0 hf1
  have HX:=Lib.hid hx
  have HL:=Lib.hid hL
  have HFS:=Lib.hid hfs
  rw [← hL] at hl ⊢
  clear hx hL hfs hn hn' hfe
  have b0 : decide (0 < L) = true:=decide_eq_true (by omega)
  have b1 : decide (1 < L) = true:=decide_eq_true (by omega)
  have b2 : (1 : Int) < L:=by omega
  go_enter Try.func33,Try.ntmps33
  go_wp2_with fail
  refine (multi_newF n fs (w.alloc (.cells Try.zeroCells164 164)) h0 h2 hb hf0 hf1).mono ?_
  rintro e w1 ⟨rfl,R1,N0,N1,B2,B3,B4,B5,Z1⟩
  dsimp only
  have hbw0:=Blk.new w 164 Try.zeroCells164
  obtain ⟨wb,hwb⟩ : ∃ wb,wb = w.heap.size:=⟨_,rfl⟩
  have hsz : (w.alloc (.cells Try.zeroCells164 164)).heap.size = wb + 1:=by simp [hwb]
  have hbel : Below w.heap.size w (w.alloc (.cells Try.zeroCells164 164)):=(Below.refl _ _).alloc (Nat.le_refl _) _
  rw [← hwb] at hbw0 ⊢
  rw [hsz] at R1 N0 N1 B2 B3 B4 B5 Z1 ⊢
  have hbw:=hbw0.below (B5) (by omega)
  have p0 : w1.cell? ⟨wb,0,none⟩ = some (.pointer none):=(hbw.cell 0).trans (by kernel_rfl)
  have p1:=hbw.frozen 0
  have e4 : wb + 1 + 4 = wb + 5:=rfl
  rw [e4] at B4 ⊢
  clear e4
  have HK:=Lib.hid (And.intro R1 (And.intro N0 (And.intro N1 (And.intro B2 (And.intro B3 (And.intro B4 (And.intro B5 (And.intro Z1 (And.intro hbw (And.intro hbel hwb))))))))))
  clear R1 N0 N1 B2 B3 B4 B5 Z1 hbw hbw0 hbel hwb hsz c0 c1 hb
  go_wp2
  have hb0:=HK.out.2.2.2.2.2.2.2.2.1.set_ 0 (.pointer (some ⟨wb + 5,0,none⟩))
  rw [zw_set0] at hb0
  obtain ⟨w2,hw2⟩ : ∃ w2,w2 = w1.setCell ⟨wb,0,none⟩ (.pointer (some ⟨wb + 5,0,none⟩)):=⟨_,rfl⟩
  rw [← hw2] at hb0 ⊢
  have HW2:=Lib.hid hw2
  have HB0:=Lib.hid hb0
  clear hw2 hb0 p0 p1
  go_loopw [6] (fun i wr=>∃ j : Nat,j≤kO ss∧(∃ p : Nat,p = 2 + j∧i = .int .i64 p)∧∃ r qs,RdsAt wr (wb + 6) ss j r qs∧Blk wr wb 164 (zw (wb + 5) r)∧Kept (fun b=>b = wb) w2 wr∧wb + 6≤wr.heap.size) (fun i _=>L - (intOf i).toNat)
  case atStart=>exact ⟨0,Nat.zero_le _,⟨2,rfl,rfl⟩,.slice none 0 0,[],⟨rfl,⟨rfl,.inl ⟨rfl,rfl⟩⟩,fun i hi=>absurd hi (by omega),fun i hi=>absurd hi (by omega),fun i i' hi=>absurd hi (by omega)⟩,HB0.out,Kept.refl _ _,by rw [HW2.out]; have:=HK.out.2.2.2.2.2.2.2.1; simp [World.setCell]; omega⟩
  case round =>
    obtain ⟨j,hj,⟨p,hp,rfl⟩,r,qs,hrd,hbk,hkp,hsz⟩:=hrel
    obtain ⟨rA,rc,rfl⟩:=own_slice hrd.row
    have HR:=Lib.hid (And.intro hrd (And.intro hbk (And.intro hkp hsz)))
    have q1 : wr.cell? ⟨wb,1,none⟩ = some (.slice rA j rc):=(hbk.cell 1).trans (zw_get1 _ _)
    clear hrd hbk hkp hsz
    have HP:=Lib.hid hp
    by_cases hlt : j < kO ss
    · have hk1 : p < L:=by have:=HL.out; unfold kO at hlt; omega
      have hk2 : j < 64:=by unfold kO at hlt; omega
      have d1 : decide (p < L) = true:=decide_eq_true hk1
      have d2 : decide (j < 64) = true:=decide_eq_true hk2
      obtain ⟨ab2,ao2,e2,c2⟩:=HX.out.cells p (by have:=HL.out; omega)
      simp only [Option.some.injEq,Addr.mk.injEq,and_true] at e2
      obtain ⟨rfl,rfl⟩:=e2
      have c2' : wr.cell? ⟨ab,ao + p,none⟩ = some (.int .i64 (ss.getD p 0)):=by
        have h1:=lt_of_cell c2
        have hw:=HK.out.2.2.2.2.2.2.2.2.2.2
        refine (World.cell?_of_block (w:=w) (a:=⟨ab,ao + p,none⟩) ?_).trans c2
        show wr.heap[ab]? = w.heap[ab]?
        have h3 : w2.heap[ab]? = w1.heap[ab]?:=by rw [HW2.out]; exact Below.heap_setCell _ _ _ _ (by show ab≠wb; omega)
        have h4 : w1.heap[ab]? = w.heap[ab]?:=(HK.out.2.2.2.2.2.2.1.block ab (by omega)).trans (HK.out.2.2.2.2.2.2.2.2.2.1.block ab h1)
        have h5 : ab < w2.heap.size:=by rw [HW2.out]; have:=HK.out.2.2.2.2.2.2.2.1; simp [World.setCell]; omega
        exact (HR.out.2.2.1.block ab h5 (by show ¬ ab = wb; omega)).trans (h3.trans h4)
      obtain ⟨x,hx⟩ : ∃ x,x = ss.getD p 0:=⟨_,rfl⟩
      rw [← hx] at c2'
      have HXX:=Lib.hid hx
      clear c2 hx
      have hp0 : (0 : Int)≤p:=by omega
      have hp1 : (p : Int) < L:=by omega
      have hw : wrap64 ((p : Int) + 1) = ((p + 1 : Nat) : Int):=by have h:=hLm; unfold maxLen at h; unfold wrap64; omega
      have NN:=Lib.hid (And.intro (show j + 1≤kO ss from hlt) (And.intro (show p + 1 = 2 + (j + 1) by omega) (And.intro (show L - (p + 1) < L - p by omega) hw)))
      clear hp hlt hw
      go_wp2
      refine wp_region_last (S:=fun w'=>w'.cell? ⟨ab,ao + p,none⟩ = some (.int .i64 x)∧w'.cell? ⟨wb,1,none⟩ = some (.slice rA j rc)) 14 (by kernel_rfl) (by kernel_rfl) (by kernel_rfl) ?_
      simp only [idle,List.modify_toArray,List.modify_succ_cons,List.modify_zero_cons,List.size_toArray,List.length_cons,List.length_nil,Nat.reduceAdd]
      have HS : wr.drew.cell? ⟨ab,ao + p,none⟩ = some (.int .i64 x)∧wr.drew.cell? ⟨wb,1,none⟩ = some (.slice rA j rc):=⟨c2',q1⟩
      refine wpAnyH_read (i:=0) (some 44) rfl rfl (by kernel_rfl) (by kernel_rfl) (by kernel_rfl) (fun _ _ _ h=>h) rfl HS ?_
      apply Exists.intro
      refine ⟨fun wq hw=>?_,?_⟩
      · obtain ⟨hw1,hw2⟩:=hw
        go_simp
        rfl
      simp only [Act.put,List.setIfInBounds_toArray,List.set_cons_zero,List.set_cons_succ]
      refine wpAnyH_read (i:=1) (some 45) rfl rfl (by kernel_rfl) (by kernel_rfl) (by kernel_rfl) (fun _ _ _ h=>h) rfl HS ?_
      apply Exists.intro
      refine ⟨fun wq hw=>?_,?_⟩
      · obtain ⟨hw1,hw2⟩:=hw
        go_simp
        rfl
      simp only [Act.put,List.setIfInBounds_toArray,List.set_cons_zero,List.set_cons_succ]
      refine wpAnyH_read (i:=2) (some 46) rfl rfl (by kernel_rfl) (by kernel_rfl) (by kernel_rfl) (fun _ _ _ h=>h) rfl HS ?_
      apply Exists.intro
      refine ⟨fun wq hw=>?_,?_⟩
      · obtain ⟨hw1,hw2⟩:=hw
        go_simp
        rfl
      simp only [Act.put,List.setIfInBounds_toArray,List.set_cons_zero,List.set_cons_succ]
      refine wpAnyH_read (i:=3) (some 47) rfl rfl (by kernel_rfl) (by kernel_rfl) (by kernel_rfl) (fun _ _ _ h=>h) rfl HS ?_
      apply Exists.intro
      refine ⟨fun wq hw=>?_,?_⟩
      · obtain ⟨hw1,hw2⟩:=hw
        go_simp
        rfl
      simp only [Act.put,List.setIfInBounds_toArray,List.set_cons_zero,List.set_cons_succ]
      refine wpAnyH_read (i:=4) (some 48) rfl rfl (by kernel_rfl) (by kernel_rfl) (by kernel_rfl) (fun _ _ _ h=>h) rfl HS ?_
      apply Exists.intro
      refine ⟨fun wq hw=>?_,?_⟩
      · obtain ⟨hw1,hw2⟩:=hw
        go_simp
        rfl
      simp only [Act.put,List.setIfInBounds_toArray,List.set_cons_zero,List.set_cons_succ]
      refine wpAnyH_read (i:=5) (some 49) rfl rfl (by kernel_rfl) (by kernel_rfl) (by kernel_rfl) (fun _ _ _ h=>h) rfl HS ?_
      apply Exists.intro
      refine ⟨fun wq hw=>?_,?_⟩
      · obtain ⟨hw1,hw2⟩:=hw
        go_simp
        rfl
      simp only [Act.put,List.setIfInBounds_toArray,List.set_cons_zero,List.set_cons_succ]
      refine wpAnyH_read (i:=6) (some 50) rfl rfl (by kernel_rfl) (by kernel_rfl) (by kernel_rfl) (fun _ _ _ h=>h) rfl HS ?_
      apply Exists.intro
      refine ⟨fun wq hw=>?_,?_⟩
      · obtain ⟨hw1,hw2⟩:=hw
        go_simp
        rfl
      simp only [Act.put,List.setIfInBounds_toArray,List.set_cons_zero,List.set_cons_succ]
      refine wpAnyH_read (i:=7) (some 51) rfl rfl (by kernel_rfl) (by kernel_rfl) (by kernel_rfl) (fun _ _ _ h=>h) rfl HS ?_
      apply Exists.intro
      refine ⟨fun wq hw=>?_,?_⟩
      · obtain ⟨hw1,hw2⟩:=hw
        go_simp
        rfl
      simp only [Act.put,List.setIfInBounds_toArray,List.set_cons_zero,List.set_cons_succ]
      refine wpAnyH_read (i:=8) (some 52) rfl rfl (by kernel_rfl) (by kernel_rfl) (by kernel_rfl) (fun _ _ _ h=>h) rfl HS ?_
      apply Exists.intro
      refine ⟨fun wq hw=>?_,?_⟩
      · obtain ⟨hw1,hw2⟩:=hw
        go_simp
        rfl
      simp only [Act.put,List.setIfInBounds_toArray,List.set_cons_zero,List.set_cons_succ]
      refine wpAnyH_one (i:=9) (by kernel_rfl) rfl rfl fun K hK=>?_
      unfold Oper.wp
      go_simp
      refine (wordNew x _).mono ?_
      rintro e w3 ⟨rfl,hw3⟩
      dsimp only
      have k3 : Kept (fun _=>False) wr w3:=hw3 ▸ (Kept.drew wr).trans (Kept.alloc _ _)
      have b3 : Blk w3 wr.heap.size 186 #[.int .i64 x]:=hw3 ▸ Blk.new wr.drew _ _
      have g1 : ab < wr.heap.size:=lt_of_cell c2'
      have g2 : wb < wr.heap.size:=lt_of_cell q1
      clear hw3 HS
      have e3 : w3.cell? ⟨ab,ao + p,none⟩ = some (.int .i64 x)∧w3.cell? ⟨wb,1,none⟩ = some (.slice rA j rc):=⟨(World.cell?_of_block (w:=wr) (a:=⟨ab,ao + p,none⟩) (k3.block ab g1 id)).trans c2',(World.cell?_of_block (w:=wr) (a:=⟨wb,1,none⟩) (k3.block wb g2 id)).trans q1⟩
      refine hK _ _ e3 ?_
      clear hK K
      refine wpAnyH_one (i:=10) (by kernel_rfl) rfl rfl fun K hK=>?_
      go_simp
      have HK3:=Lib.hid (And.intro k3 b3)
      obtain ⟨q,hq⟩ : ∃ q,q = wr.heap.size:=⟨_,rfl⟩
      rw [← hq] at b3 ⊢
      have k5 : Kept (fun _=>False) w3 (w3.alloc (.cells #[.pointer (some ⟨q,0,none⟩)] 79)):=Kept.alloc _ _
      have e5 : (w3.alloc (.cells #[.pointer (some ⟨q,0,none⟩)] 79)).cell? ⟨ab,ao + p,none⟩ = some (.int .i64 x)∧(w3.alloc (.cells #[.pointer (some ⟨q,0,none⟩)] 79)).cell? ⟨wb,1,none⟩ = some (.slice rA j rc):=⟨cell_keep' e3.1 k5,cell_keep' e3.2 k5⟩
      have hnew:=Blk.new w3 79 #[.pointer (some ⟨q,0,none⟩)]
      refine hK _ _ e5 ?_
      clear hK K
      have hown5:=own_kept (own_kept HR.out.1.row k3 (fun _ _ h=>h)) k5 (fun _ _ h=>h)
      obtain ⟨w5,hw5⟩ : ∃ w5,w5 = w3.alloc (.cells #[.pointer (some ⟨q,0,none⟩)] 79):=⟨_,rfl⟩
      rw [← hw5] at k5 hown5 hnew e5 ⊢
      clear hw5
      generalize w3.heap.size = nb at hnew ⊢
      have hs5 : wb + 6≤w5.heap.size:=Nat.le_trans HR.out.2.2.2 (Nat.le_trans k3.size k5.size)
      refine wpAnyH_one (i:=11) (by kernel_rfl) rfl rfl fun K hK=>?_
      refine wp_append_own _ _ _ 159 rfl (wb + 6) 79 i0 (.pointer none) 1 8 Try.underlying159 hi0 hz0 hz1 hz2 rfl (by decide) (.slice rA j rc) j (qs.map fun q=>Value.pointer (some ⟨q,0,none⟩)) rfl hown5 ⟨nb,0,none⟩ 1 1 [.pointer (some ⟨q,0,none⟩)] rfl rfl (World.news_of_block (cs:=#[.pointer (some ⟨q,0,none⟩)]) (t:=79) (fr:=(0,0)) hnew) (by simp [Value.oneCell']) (by unfold maxLen; omega) (by omega) hs5 ?_
      intro v' w4 hown4 hg4 _
      obtain ⟨A4,cp4,rfl⟩:=own_slice hown4
      have g5 : ab < w5.heap.size:=lt_of_cell e5.1
      have g6 : wb < w5.heap.size:=lt_of_cell e5.2
      have hro : ∀ b,(Value.slice rA j rc).ownBlock = some b→wb + 6≤b:=fun b hb=>HR.out.1.row_ge hb
      have hab : ab < wb:=by have:=HK.out.2.2.2.2.2.2.2.2.2.2; have h1:=HX.out.cells 0 (by have:=HL.out; omega); obtain ⟨b9,o9,e9,c9⟩:=h1; cases e9; have:=lt_of_cell c9; omega
      have e4 : w4.cell? ⟨ab,ao + p,none⟩ = some (.int .i64 x)∧w4.cell? ⟨wb,1,none⟩ = some (.slice rA j rc):=⟨(World.cell?_of_block (w:=w5) (a:=⟨ab,ao + p,none⟩) (hg4.block ab g5 (fun z=>by have:=hro _ z.symm; omega))).trans e5.1,(World.cell?_of_block (w:=w5) (a:=⟨wb,1,none⟩) (hg4.block wb g6 (fun z=>by have:=hro _ z.symm; omega))).trans e5.2⟩
      refine hK _ _ e4 ?_
      clear hK K
      have HS:=e4
      simp only [Act.put,List.setIfInBounds_toArray,List.set_cons_zero,List.set_cons_succ,List.getElem_toArray,List.getElem_cons_zero,List.getElem_cons_succ]
      refine wpAnyH_read (i:=12) (some 56) rfl rfl (by kernel_rfl) (by kernel_rfl) (by kernel_rfl) (fun _ _ _ h=>h) rfl HS ?_
      apply Exists.intro
      refine ⟨fun wq hw=>?_,?_⟩
      · obtain ⟨hw1,hw2⟩:=hw
        go_simp
        rfl
      simp only [Act.put,List.setIfInBounds_toArray,List.set_cons_zero,List.set_cons_succ]
      refine wpAnyH_read (i:=13) (some 57) rfl rfl (by kernel_rfl) (by kernel_rfl) (by kernel_rfl) (fun _ _ _ h=>h) rfl HS ?_
      apply Exists.intro
      refine ⟨fun wq hw=>?_,?_⟩
      · obtain ⟨hw1,hw2⟩:=hw
        go_simp
        rfl
      simp only [Act.put,List.setIfInBounds_toArray,List.set_cons_zero,List.set_cons_succ]
      refine wpAnyH_read (i:=14) none rfl rfl (by kernel_rfl) (by kernel_rfl) (by kernel_rfl) (fun _ _ _ h=>h) rfl HS ?_
      apply Exists.intro
      refine ⟨fun wq hw=>?_,?_⟩
      · go_simp
        rfl
      simp only [Act.put]
      clear HS
      refine wpAnyH_done (by kernel_rfl) ?_ _
      simp only [Exit.then]
      refine wpOps_list (m:=14) rfl ?_
      have s1 : w4.cell? ⟨wb,1,none⟩ = some (.slice rA j rc):=e4.2
      have hbk4 : Blk w4 wb 164 (zw (wb + 5) (.slice rA j rc)):=by
        have h1:=(HR.out.2.1.kept k3 id).kept k5 id
        exact (hg4.block wb g6 (fun z=>by have:=hro _ z.symm; omega)).trans h1
      have s2:=hbk4.frozen 1
      have HQ:=Lib.hid (And.intro hown4 (And.intro hg4 (And.intro k5 (And.intro hbk4 (And.intro hq hs5)))))
      clear hown4 hg4 k5 hbk4 hro e4 e5 e3 hown5 hnew hq hs5 k3 b3 hab
      go_wp2
      obtain ⟨n1,n2,n3,hw⟩:=NN.out
      rw [hw]
      obtain ⟨hown4,hg4,k5,hbk4,hq,hs5⟩:=HQ.out
      obtain ⟨k3,b3⟩:=HK3.out
      rw [← hq,HXX.out,HP.out] at b3
      have hp:=HP.out
      have k35:=k3.trans k5
      have hB:=HR.out.2.2.2
      have b5 : Blk w5 q _ _:=(k5.block q b3.lt id).trans b3
      have hrd:=RdsAt.snoc HR.out.1 b5 (fun b hb=>k35.block b hb id) (by omega) hB hg4 hown4
      have kg : Kept (fun b=>wb + 6≤b) wr w4:=(k35.mono fun _ _ h=>h.elim).trans (Kept.grown hg4 fun b hb=>HR.out.1.row_ge hb)
      have hs2 : w2.heap.size = wb + 6:=by rw [HW2.out]; have:=HK.out.2.2.2.2.2.2.2.1; simp [World.setCell]; omega
      refine ⟨⟨j + 1,n1,⟨p + 1,n2,rfl⟩,.slice A4 (j + 1) cp4,qs ++ [q],hrd.kept (Kept.setCell (S:=fun b=>b = wb) w4 (p:=⟨wb,1,none⟩) rfl _) (fun b h1 h2=>by omega),?_,(HR.out.2.2.1.later kg (fun b hb=>by omega)).trans (Kept.setCell (S:=fun b=>b = wb) w4 (p:=⟨wb,1,none⟩) rfl _),?_⟩,n3⟩
      · have:=hbk4.set_ 1 (.slice A4 (j + 1) cp4)
        rw [zw_set1] at this
        exact this
      · have h1:=hg4.size
        simp only [World.setCell,Array.size_modify]
        omega
    · obtain rfl : j = kO ss:=by omega
      have FIN:=Lib.hid (made_at HK.out.2.2.2.2.2.2.2.2.2.2 HK.out.2.2.2.2.2.2.2.2.2.1 HK.out.1 HK.out.2.1 HK.out.2.2.1 HK.out.2.2.2.1 HK.out.2.2.2.2.1 HK.out.2.2.2.2.2.1 HK.out.2.2.2.2.2.2.1 HK.out.2.2.2.2.2.2.2.1 HW2.out HFS.out h0 h2 hf0 hf1 (by unfold kO; omega) HR.out.1 HR.out.2.1 HR.out.2.2.1)
      have hkk : p < L→kO ss = 64:=fun z=>by have:=HL.out; unfold kO at hp ⊢; omega
      have HKK:=Lib.hid hkk
      clear hkk hp hj hlt
      by_cases hk1 : p < L
      · have d1 : decide (p < L) = true:=decide_eq_true hk1
        have d2 : decide ((kO ss : Int) < 64) = false:=decide_eq_false (by have:=HKK.out hk1; omega)
        clear hk1
        go_wp2
        go_ret
        exact FIN.out
      · have d1 : decide (p < L) = false:=decide_eq_false hk1
        clear hk1
        go_wp2
        go_ret
        exact FIN.out
def numL (f : Nat→Int) (k : Nat) : List Int:=(List.range k).map f
def stateM (n k : Nat) (S : MSt) : List Int:=[S.cursor,S.seen] ++ numL S.num k ++ rowN S.st n ++ rowN S.va n
theorem wordValue (a : Addr) (v : Int) (w : World) (h : w.cell? a = some (.int .i64 v)) : Calls Try.prog 69 #[.pointer (some a)] w fun e w'=>e = .returned (.int .i64 v)∧w = w':=by
  go_enter Try.func69,Try.ntmps69
  go_wp2_with (go_at_call 62; refine (atomic_load _ _ _ h).mono ?_; rintro e w' ⟨rfl,rfl⟩)
  go_ret
  exact ⟨rfl,rfl⟩
theorem own_two (w : World) (a b : Int) (base : Nat) (hb : base≤w.heap.size) : (w.alloc (.cells #[.int .i64 a,.int .i64 b] 2)).ownsRow base 2 1 (.slice (some ⟨w.heap.size,0,none⟩) 2 2) 2 [.int .i64 a,.int .i64 b]:=
  ⟨rfl,.inr ⟨w.heap.size,2,#[.int .i64 a,.int .i64 b],rfl,hb,Blk.new w _ _,by omega,by unfold maxLen; omega,rfl,rfl⟩⟩
structure StIn (I : WIds) (S : MSt) (w : World) : Prop where
  w0 : w.cell? ⟨I.wb,0,none⟩ = some (.pointer (some ⟨I.M.mb,0,none⟩))
  w1 : w.cell? ⟨I.wb,1,none⟩ = some (.slice I.rA I.k I.rc)
  m0 : w.cell? ⟨I.M.mb,0,none⟩ = some (.pointer (some ⟨I.M.rb,0,none⟩))
  m2 : w.cell? ⟨I.M.mb,2,none⟩ = some (.pointer (some ⟨I.M.cb,0,none⟩))
  m3 : w.cell? ⟨I.M.mb,3,none⟩ = some (.pointer (some ⟨I.M.eb,0,none⟩))
  c : w.cell? ⟨I.M.cb,0,none⟩ = some (.int .i64 S.cursor)
  e : w.cell? ⟨I.M.eb,0,none⟩ = some (.int .i64 S.seen)
  r : RingAt w I.M.rb I.M.gb I.M.n S.st S.va
  l : ∀ j,j < I.k→w.cell? ⟨I.lb,j,none⟩ = some (.pointer (some ⟨I.qb j,0,none⟩))
  q : ∀ j,j < I.k→w.cell? ⟨I.qb j,0,none⟩ = some (.int .i64 (S.num j))
theorem StIn.kept {I : WIds} {S : MSt} {w w' : World} (h : StIn I S w) (k : Kept (fun _=>False) w w') : StIn I S w':=
  ⟨cell_keep' h.w0 k,cell_keep' h.w1 k,cell_keep' h.m0 k,cell_keep' h.m2 k,cell_keep' h.m3 k,cell_keep' h.c k,cell_keep' h.e k,h.r.kept k id id,fun j hj=>cell_keep' (h.l j hj) k,fun j hj=>cell_keep' (h.q j hj) k⟩
theorem Lay.At.stIn {I : WIds} (hI : I.Ok) {S : MSt} {w : World} (h : (multiY I).At S w) : StIn I S w:=by
  have h1:=hI.d1; have h2:=hI.d2; have h3:=hI.d3; have h4:=hI.d4; have h5:=hI.d5
  have key : ∀ b o v,layM I S b o = some v→w.cell? ⟨b,o,none⟩ = some v:=fun b o v e=>h.cell b o v e
  have ringr : RingAt w I.M.rb I.M.gb I.M.n S.st S.va:=by
    have R:=m_ring hI
    have b1:=(multiY I).dom _ _ _ _ (R.ring S)
    have b2:=(multiY I).dom _ _ _ _ (R.stamp S 0 R.pos)
    exact ⟨h.cell _ _ _ (R.ring S),fun i hi=>h.cell _ _ _ (R.stamp S i hi),fun i hi=>h.cell _ _ _ (R.value S i hi),fun i=>h.free b2 i,R.pos,R.most,R.ne,h.lt b1,h.lt b2⟩
  refine ⟨key _ _ _ ?_,key _ _ _ ?_,key _ _ _ ?_,key _ _ _ ?_,key _ _ _ ?_,key _ _ _ ((m_cur hI).at_ S),key _ _ _ ((m_seen hI).at_ S),ringr,fun j hj=>key _ _ _ ?_,fun j hj=>key _ _ _ ((m_num hI hj).at_ S)⟩
  · unfold layM; rw [if_pos rfl,if_pos rfl]
  · unfold layM; rw [if_pos rfl,if_neg (by omega),if_pos rfl]
  · unfold layM; rw [if_neg (by omega),if_pos rfl,if_pos rfl]
  · unfold layM; rw [if_neg (by omega),if_pos rfl,if_neg (by omega),if_neg (by omega),if_pos rfl]
  · unfold layM; rw [if_neg (by omega),if_pos rfl,if_neg (by omega),if_neg (by omega),if_neg (by omega),if_pos rfl]
  · have h6:=hI.d6 (by omega)
    unfold layM
    rw [if_neg (by omega),if_neg (by omega),if_neg (by omega),if_neg (by omega),if_neg (by omega),if_neg (by omega),if_pos ⟨by omega,rfl⟩,if_pos hj]
set_option maxHeartbeats 4000000 in
set_option maxRecDepth 100000 in
theorem multi_state (w : World) (I : WIds) (S : MSt) (hI : I.Ok) (H : (multiY I).At S w) : Calls Try.prog 36 #[.pointer (some ⟨I.wb,0,none⟩)] w (NumsRow w (stateM I.M.n I.k S).length (stateM I.M.n I.k S)):=by
  have hk64:=hI.k64
  have hn2:=hI.n2
  have hn0:=hI.n0
  have hrA:=hI.rAk
  have HH:=Lib.hid (Lay.At.stIn hI H)
  have HRA:=Lib.hid hrA
  clear H hrA
  obtain ⟨i0,hi0,hz0,hz1,hz2⟩:=info_parts Try.intInfo
  have p0:=HH.out.w0
  go_enter Try.func36,Try.ntmps36
  go_wp2
  rename_i K0 hK0
  clear p0
  refine strictL ?_
  refine wp_region_held (S:=Below w.heap.size w) (by kernel_rfl) ?_
  simp only [List.size_toArray,List.length_cons,List.length_nil,Nat.reduceAdd]
  have bd : Below w.heap.size w ({ w with drawn:=w.drawn + 1 } : World):=Below.drewN (Below.refl _ _) 1
  generalize ({ w with drawn:=w.drawn + 1 } : World) = wd at bd ⊢
  have HD:=Lib.hid bd
  clear bd
  refine rdL 0 17 11 ?_
  refine ⟨_,rfl,rfl,by kernel_rfl,by kernel_rfl,by kernel_rfl,(fun c a w h=>by cases h.1),rfl,HD.out,?_⟩
  apply Exists.intro
  refine ⟨fun wq hw=>?_,?_⟩
  · have HQ:=HH.out.kept (Kept.of_below (S:=fun _=>False) hw)
    have c0:=HQ.w0
    have c2:=HQ.m2
    have c3:=HQ.m3
    clear HQ
    go_simp
    rfl
  simp only [Act.put,List.setIfInBounds_toArray,List.set_cons_zero,List.set_cons_succ]
  refine rdL 1 16 12 ?_
  refine ⟨_,rfl,rfl,by kernel_rfl,by kernel_rfl,by kernel_rfl,(fun c a w h=>by cases h.1),rfl,HD.out,?_⟩
  apply Exists.intro
  refine ⟨fun wq hw=>?_,?_⟩
  · have HQ:=HH.out.kept (Kept.of_below (S:=fun _=>False) hw)
    have c0:=HQ.w0
    have c2:=HQ.m2
    have c3:=HQ.m3
    clear HQ
    go_simp
    rfl
  simp only [Act.put,List.setIfInBounds_toArray,List.set_cons_zero,List.set_cons_succ]
  refine rdL 2 15 13 ?_
  refine ⟨_,rfl,rfl,by kernel_rfl,by kernel_rfl,by kernel_rfl,(fun c a w h=>by cases h.1),rfl,HD.out,?_⟩
  apply Exists.intro
  refine ⟨fun wq hw=>?_,?_⟩
  · have HQ:=HH.out.kept (Kept.of_below (S:=fun _=>False) hw)
    have c0:=HQ.w0
    have c2:=HQ.m2
    have c3:=HQ.m3
    clear HQ
    go_simp
    rfl
  simp only [Act.put,List.setIfInBounds_toArray,List.set_cons_zero,List.set_cons_succ]
  refine rdL 3 14 14 ?_
  refine ⟨_,rfl,rfl,by kernel_rfl,by kernel_rfl,by kernel_rfl,(fun c a w h=>by cases h.1),rfl,HD.out,?_⟩
  apply Exists.intro
  refine ⟨fun wq hw=>?_,?_⟩
  · have HQ:=HH.out.kept (Kept.of_below (S:=fun _=>False) hw)
    have c0:=HQ.w0
    have c2:=HQ.m2
    have c3:=HQ.m3
    clear HQ
    go_simp
    rfl
  simp only [Act.put,List.setIfInBounds_toArray,List.set_cons_zero,List.set_cons_succ]
  refine rdL 4 13 15 ?_
  refine ⟨_,rfl,rfl,by kernel_rfl,by kernel_rfl,by kernel_rfl,(fun c a w h=>by cases h.1),rfl,HD.out,?_⟩
  apply Exists.intro
  refine ⟨fun wq hw=>?_,?_⟩
  · have HQ:=HH.out.kept (Kept.of_below (S:=fun _=>False) hw)
    have c0:=HQ.w0
    have c2:=HQ.m2
    have c3:=HQ.m3
    clear HQ
    go_simp
    rfl
  simp only [Act.put,List.setIfInBounds_toArray,List.set_cons_zero,List.set_cons_succ]
  refine rdL 5 12 16 ?_
  refine ⟨_,rfl,rfl,by kernel_rfl,by kernel_rfl,by kernel_rfl,(fun c a w h=>by cases h.1),rfl,HD.out,?_⟩
  apply Exists.intro
  refine ⟨fun wq hw=>?_,?_⟩
  · have HQ:=HH.out.kept (Kept.of_below (S:=fun _=>False) hw)
    have c0:=HQ.w0
    have c2:=HQ.m2
    have c3:=HQ.m3
    clear HQ
    go_simp
    rfl
  simp only [Act.put,List.setIfInBounds_toArray,List.set_cons_zero,List.set_cons_succ]
  refine rdL 6 11 17 ?_
  refine ⟨_,rfl,rfl,by kernel_rfl,by kernel_rfl,by kernel_rfl,(fun c a w h=>by cases h.1),rfl,HD.out,?_⟩
  apply Exists.intro
  refine ⟨fun wq hw=>?_,?_⟩
  · have HQ:=HH.out.kept (Kept.of_below (S:=fun _=>False) hw)
    have c0:=HQ.w0
    have c2:=HQ.m2
    have c3:=HQ.m3
    clear HQ
    go_simp
    rfl
  simp only [Act.put,List.setIfInBounds_toArray,List.set_cons_zero,List.set_cons_succ]
  refine rdL 8 10 19 ?_
  refine ⟨_,rfl,rfl,by kernel_rfl,by kernel_rfl,by kernel_rfl,(fun c a w h=>by cases h.1),rfl,HD.out,?_⟩
  apply Exists.intro
  refine ⟨fun wq hw=>?_,?_⟩
  · have HQ:=HH.out.kept (Kept.of_below (S:=fun _=>False) hw)
    have c0:=HQ.w0
    have c2:=HQ.m2
    have c3:=HQ.m3
    clear HQ
    go_simp
    rfl
  simp only [Act.put,List.setIfInBounds_toArray,List.set_cons_zero,List.set_cons_succ]
  refine rdL 9 9 20 ?_
  refine ⟨_,rfl,rfl,by kernel_rfl,by kernel_rfl,by kernel_rfl,(fun c a w h=>by cases h.1),rfl,HD.out,?_⟩
  apply Exists.intro
  refine ⟨fun wq hw=>?_,?_⟩
  · have HQ:=HH.out.kept (Kept.of_below (S:=fun _=>False) hw)
    have c0:=HQ.w0
    have c2:=HQ.m2
    have c3:=HQ.m3
    clear HQ
    go_simp
    rfl
  simp only [Act.put,List.setIfInBounds_toArray,List.set_cons_zero,List.set_cons_succ]
  refine rdL 10 8 21 ?_
  refine ⟨_,rfl,rfl,by kernel_rfl,by kernel_rfl,by kernel_rfl,(fun c a w h=>by cases h.1),rfl,HD.out,?_⟩
  apply Exists.intro
  refine ⟨fun wq hw=>?_,?_⟩
  · have HQ:=HH.out.kept (Kept.of_below (S:=fun _=>False) hw)
    have c0:=HQ.w0
    have c2:=HQ.m2
    have c3:=HQ.m3
    clear HQ
    go_simp
    rfl
  simp only [Act.put,List.setIfInBounds_toArray,List.set_cons_zero,List.set_cons_succ]
  refine rdL 11 7 22 ?_
  refine ⟨_,rfl,rfl,by kernel_rfl,by kernel_rfl,by kernel_rfl,(fun c a w h=>by cases h.1),rfl,HD.out,?_⟩
  apply Exists.intro
  refine ⟨fun wq hw=>?_,?_⟩
  · have HQ:=HH.out.kept (Kept.of_below (S:=fun _=>False) hw)
    have c0:=HQ.w0
    have c2:=HQ.m2
    have c3:=HQ.m3
    clear HQ
    go_simp
    rfl
  simp only [Act.put,List.setIfInBounds_toArray,List.set_cons_zero,List.set_cons_succ]
  refine rdL 12 6 23 ?_
  refine ⟨_,rfl,rfl,by kernel_rfl,by kernel_rfl,by kernel_rfl,(fun c a w h=>by cases h.1),rfl,HD.out,?_⟩
  apply Exists.intro
  refine ⟨fun wq hw=>?_,?_⟩
  · have HQ:=HH.out.kept (Kept.of_below (S:=fun _=>False) hw)
    have c0:=HQ.w0
    have c2:=HQ.m2
    have c3:=HQ.m3
    clear HQ
    go_simp
    rfl
  simp only [Act.put,List.setIfInBounds_toArray,List.set_cons_zero,List.set_cons_succ]
  refine rdL 13 5 24 ?_
  refine ⟨_,rfl,rfl,by kernel_rfl,by kernel_rfl,by kernel_rfl,(fun c a w h=>by cases h.1),rfl,HD.out,?_⟩
  apply Exists.intro
  refine ⟨fun wq hw=>?_,?_⟩
  · have HQ:=HH.out.kept (Kept.of_below (S:=fun _=>False) hw)
    have c0:=HQ.w0
    have c2:=HQ.m2
    have c3:=HQ.m3
    clear HQ
    go_simp
    rfl
  simp only [Act.put,List.setIfInBounds_toArray,List.set_cons_zero,List.set_cons_succ]
  refine rdL 14 4 25 ?_
  refine ⟨_,rfl,rfl,by kernel_rfl,by kernel_rfl,by kernel_rfl,(fun c a w h=>by cases h.1),rfl,HD.out,?_⟩
  apply Exists.intro
  refine ⟨fun wq hw=>?_,?_⟩
  · have HQ:=HH.out.kept (Kept.of_below (S:=fun _=>False) hw)
    have c0:=HQ.w0
    have c2:=HQ.m2
    have c3:=HQ.m3
    clear HQ
    go_simp
    rfl
  simp only [Act.put,List.setIfInBounds_toArray,List.set_cons_zero,List.set_cons_succ]
  refine oneL (i:=7) (fuel:=3) (by kernel_rfl) rfl rfl fun K' hK'=>?_
  unfold Oper.wp
  go_simp
  refine (wordValue _ _ _ ((HH.out.kept (Kept.of_below (S:=fun _=>False) HD.out)).c)).mono ?_
  rintro e w' ⟨rfl,rfl⟩
  dsimp only
  refine hK' _ _ HD.out ?_
  clear hK' K'
  try simp only [Act.put,List.setIfInBounds_toArray,List.set_cons_zero,List.set_cons_succ]
  refine oneL (i:=15) (fuel:=2) (by kernel_rfl) rfl rfl fun K' hK'=>?_
  unfold Oper.wp
  go_simp
  refine (wordValue _ _ _ ((HH.out.kept (Kept.of_below (S:=fun _=>False) HD.out)).e)).mono ?_
  rintro e w' ⟨rfl,rfl⟩
  dsimp only
  refine hK' _ _ HD.out ?_
  clear hK' K'
  try simp only [Act.put,List.setIfInBounds_toArray,List.set_cons_zero,List.set_cons_succ]
  refine oneL (i:=16) (fuel:=1) (by kernel_rfl) rfl rfl fun K' hK'=>?_
  unfold Oper.wp
  go_simp
  have o2:=own_two wd S.cursor S.seen w.heap.size HD.out.size
  have b2 : Below w.heap.size w (wd.alloc (.cells #[.int .i64 S.cursor,.int .i64 S.seen] 2)):=HD.out.alloc HD.out.size _
  have HX:=Lib.hid (And.intro o2 b2)
  refine hK' _ _ b2 ?_
  clear hK' K' o2 b2 HD
  generalize (wd.alloc (.cells #[.int .i64 S.cursor,.int .i64 S.seen] 2)) = w2 at HX ⊢
  generalize wd.heap.size = g2 at HX ⊢
  refine oneL (i:=17) (fuel:=0) (by kernel_rfl) rfl rfl fun K' hK'=>?_
  unfold Oper.wp
  go_simp
  refine hK' _ _ HX.out.2 ?_
  clear hK' K'
  refine wpAnyH_done (by kernel_rfl) ⟨rfl,?_⟩ _
  refine hK0 _ _ ?_
  clear hK0 K0
  have q1:=(HH.out.kept (Kept.of_below (S:=fun _=>False) HX.out.2)).w1
  go_wp2
  clear q1
  go_loopw [3,33] (fun o i wr=>∃ j : Nat,j≤I.k∧i = .int .i64 j∧wr.ownsRow w.heap.size 2 1 o (2 + j) (([S.cursor,S.seen] ++ numL S.num j).map (Value.int .i64))∧Below w.heap.size w wr) (fun _ i _=>I.k - (intOf i).toNat)
  case atStart=>exact ⟨0,Nat.zero_le _,rfl,HX.out.1,HX.out.2⟩
  case round =>
    obtain ⟨j,hj,rfl,hown,hb⟩:=hrel
    obtain ⟨A,cap,rfl⟩:=own_slice hown
    have HO:=Lib.hid hown
    have HBW:=Lib.hid hb
    clear hown hb
    by_cases hlt : j < I.k
    · have hd : decide (j < I.k) = true:=decide_eq_true hlt
      have HI:=(HH.out.kept (Kept.of_below (S:=fun _=>False) HBW.out))
      have cl:=HI.l j hlt
      have cq:=HI.q j hlt
      clear HI
      have hrA:=HRA.out (by omega)
      have hb0 : (0 : Int)≤j:=by omega
      have hb1 : (j : Int) < I.k:=by omega
      rw [hrA]
      clear hrA
      have NN:=Lib.hid (And.intro (show j + 1≤I.k from hlt) (show I.k - (j + 1) < I.k - j by omega))
      clear hlt hj
      have hb1 : w.heap.size≤wr.heap.size:=HBW.out.size
      go_wp2_with (first | (go_at_call 69; refine (wordValue _ _ _ cq).mono ?_; rintro e w' ⟨rfl,hw'⟩; subst hw') | (at_builtin; refine wpList_append_own _ rfl _ _ 22 rfl w.heap.size 2 i0 (.int .i64 0) 1 8 Try.underlying22 hi0 hz0 hz1 hz2 rfl (by decide) _ _ _ rfl (HO.out.alloc _) ⟨wr.heap.size,0,none⟩ 1 1 [.int .i64 (S.num j)] rfl rfl ?c1 ?c2 ?c3 ?c4 ?c5 ?_))
      case c1=>exact cell_one_new _ _ _
      case c2=>simp [Value.oneCell']
      case c3=>have:=NN.out.1; unfold maxLen; omega
      case c4=>have:=NN.out.1; omega
      case c5=>simp; omega
      intro v' w3 hown1 hg1 _
      have ho1 : w3.ownsRow w.heap.size 2 1 v' (2 + (j + 1)) (([S.cursor,S.seen] ++ numL S.num (j + 1)).map (Value.int .i64)):=by rw [show [S.cursor,S.seen] ++ numL S.num (j + 1) = ([S.cursor,S.seen] ++ numL S.num j) ++ [S.num j] from by simp [numL,List.range_succ],List.map_append]; exact hown1
      have hb3 : Below w.heap.size w w3:=(HBW.out.alloc HBW.out.size _).grown hg1 (by simp; omega) (fun k hk=>(HO.out.lt k hk).1)
      have HO2:=Lib.hid (And.intro ho1 hb3)
      have hw : wrap64 ((j : Int) + 1) = ((j + 1 : Nat) : Int):=by have:=NN.out.1; unfold wrap64; omega
      have NW:=Lib.hid hw
      clear hown1 hg1 ho1 hb3 hw cl cq
      go_wp2
      go_roundw
      case rel=>exact ⟨j + 1,NN.out.1,by go_num,HO2.out.1,HO2.out.2⟩
      case measure=>exact NN.out.2
    · obtain rfl : j = I.k:=by omega
      have hd : decide (I.k < I.k) = false:=by simp
      have HI:=(HH.out.kept (Kept.of_below (S:=fun _=>False) HBW.out))
      have c0:=HI.w0
      have c2:=HI.m0
      have HII:=Lib.hid HI
      clear HI hj hlt
      go_wp2_with fail
      refine (stamps_ok wr I.M.rb I.M.gb I.M.n S.st S.va HII.out.r).mono ?_
      rintro e w4 ⟨v4,rfl,o4,b4⟩
      dsimp only
      clear c0 c2
      obtain ⟨A4,c4,rfl⟩:=own_slice o4
      obtain ⟨g4,rfl,hg4,hl4⟩:=row_addr o4 hn0
      have hc4:=row_cap o4
      have z4:=HBW.out.size
      have z5:=b4.size
      have o3':=own_kept HO.out (Kept.of_below (S:=fun _=>False) b4) (fun _ _ h=>h)
      have B4:=HBW.out.trans (b4.mono z4)
      have H4:=Lib.hid (And.intro o3' (And.intro o4 B4))
      clear o3' o4 B4 b4
      go_wp2_with (at_builtin; refine wpList_append_own _ rfl _ _ 22 rfl w.heap.size 2 i0 (.int .i64 0) 1 8 Try.underlying22 hi0 hz0 hz1 hz2 rfl (by decide) _ _ _ rfl H4.out.1 ⟨g4,0,none⟩ I.M.n c4 ((rowN S.st I.M.n).map (Value.int .i64)) rfl (by simp [rowN]) ?d1 ?d2 ?d3 ?d4 ?d5 ?_)
      case d1=>exact row_cells H4.out.2.1
      case d2=>simp [Value.oneCell']
      case d3=>unfold maxLen; omega
      case d4=>omega
      case d5=>omega
      intro v5 w5 hown hgrow hl5
      have k5 : w5.ownsRow w.heap.size 2 1 v5 (2 + I.k + I.M.n) (([S.cursor,S.seen] ++ numL S.num I.k ++ rowN S.st I.M.n).map (Value.int .i64)):=by rw [List.map_append]; exact hown
      have B5:=(H4.out.2.2).grown hgrow (by omega) (fun k hk=>(H4.out.1.lt k hk).1)
      obtain ⟨A5,c5,rfl⟩:=own_slice k5
      have HI:=(HH.out.kept (Kept.of_below (S:=fun _=>False) B5))
      have c0:=HI.w0
      have c2:=HI.m0
      have H5:=Lib.hid (And.intro k5 (And.intro B5 HI))
      clear hown hgrow hl5 k5 B5 H4 hg4 hl4 hc4 z4 z5 HI HII
      go_wp2_with fail
      refine (values_ok w5 I.M.rb I.M.gb I.M.n S.st S.va H5.out.2.2.r).mono ?_
      rintro e w6 ⟨v6,rfl,o6,b6⟩
      dsimp only
      clear c0 c2
      obtain ⟨A6,c6,rfl⟩:=own_slice o6
      obtain ⟨g6,rfl,hg6,hl6⟩:=row_addr o6 hn0
      have hc6:=row_cap o6
      have z4:=H5.out.2.1.size
      have z5:=b6.size
      have o5':=own_kept H5.out.1 (Kept.of_below (S:=fun _=>False) b6) (fun _ _ h=>h)
      have B6:=H5.out.2.1.trans (b6.mono z4)
      have H6:=Lib.hid (And.intro o5' (And.intro o6 B6))
      clear o5' o6 B6 b6
      go_wp2_with (at_builtin; refine wpList_append_own _ rfl _ _ 22 rfl w.heap.size 2 i0 (.int .i64 0) 1 8 Try.underlying22 hi0 hz0 hz1 hz2 rfl (by decide) _ _ _ rfl H6.out.1 ⟨g6,0,none⟩ I.M.n c6 ((rowN S.va I.M.n).map (Value.int .i64)) rfl (by simp [rowN]) ?e1 ?e2 ?e3 ?e4 ?e5 ?_)
      case e1=>exact row_cells H6.out.2.1
      case e2=>simp [Value.oneCell']
      case e3=>unfold maxLen; omega
      case e4=>omega
      case e5=>omega
      intro v7 w7 hown hgrow hl7
      have k7 : w7.ownsRow w.heap.size 2 1 v7 (stateM I.M.n I.k S).length ((stateM I.M.n I.k S).map (Value.int .i64)):=by
        rw [show (stateM I.M.n I.k S).length = 2 + I.k + I.M.n + I.M.n by simp [stateM,numL,rowN]; omega]
        simpa [stateM] using hown
      have B7:=(H6.out.2.2).grown hgrow (by omega) (fun k hk=>(H6.out.1.lt k hk).1)
      have H7:=Lib.hid (And.intro k7 B7)
      clear hown hgrow hl7 k7 B7 H6 hg6 hl6 hc6 z4 z5
      go_wp2
      go_ret
      exact ⟨_,rfl,H7.out.1,H7.out.2⟩
def M0 (n : Nat) (fs : Int) : MIds:=⟨0,0,0,0,0,n,fs⟩
section
variable {A : Type} (rl : RLens A) (cl el : WLens A) (hT : HoldT (St2 A))
theorem freeT_eq (M : MIds) (c n : Int) (s : St2 A) (k) : freeT el M hT c n s k = freeT el (M0 M.n M.first) hT c n s k:=rfl
theorem wrotL_eq (M : MIds) : ∀ (m : Nat) (q : Int) (s : St2 A) k,wrotL rl M m q s k = wrotL rl (M0 M.n M.first) m q s k
  | 0,_,_,_=>rfl
  | m + 1,q,s,k=>by
    show (if M.first≤q then thereG rl M.n q s _ else _) = (if M.first≤q then thereG rl M.n q s _ else _)
    have : (fun (b : Bool) s=>if b then wrotL rl M m (q + 1) s k else k false s) = fun (b : Bool) s=>if b then wrotL rl (M0 M.n M.first) m (q + 1) s k else k false s:=by
      funext b s
      rw [wrotL_eq M m (q + 1) s k]
    rw [this,wrotL_eq M m (q + 1) s k]
theorem claimL_eq (M : MIds) (n : Int) : ∀ (f : Nat) (s : St2 A) k,claimL rl cl el M hT n f s k = claimL rl cl el (M0 M.n M.first) hT n f s k
  | 0,_,_=>rfl
  | f + 1,s,k=>by
    simp only [claimL]
    congr 1
    funext c s
    congr 1
    refine (freeT_eq el hT M c n s _).trans ?_
    congr 1
    funext b s
    congr 1
    rw [wrotL_eq]
    have h1 : ∀ s k,claimL rl cl el M hT n f s k = claimL rl cl el (M0 M.n M.first) hT n f s k:=fun s k=>claimL_eq M n f s k
    simp only [h1]
    rfl
theorem claimM_eq (M : MIds) (n : Int) (s : St2 A) (k) : claimM rl cl el M hT n s k = claimM rl cl el (M0 M.n M.first) hT n s k:=by
  unfold claimM
  rw [claimL_eq]
  rfl
theorem laysT_eq (M : MIds) (b : Int) : ∀ (vs : List Int) (j : Nat) (s : St2 A) k,laysT rl M b vs j s k = laysT rl (M0 M.n M.first) b vs j s k
  | [],_,_,_=>rfl
  | v :: vs,j,s,k=>by
    show putG rl M.n (b + j) v s _ = putG rl M.n (b + j) v s _
    have : (fun (_ : Int) s=>laysT rl M b vs (j + 1) s k) = fun (_ : Int) s=>laysT rl (M0 M.n M.first) b vs (j + 1) s k:=by
      funext _ s
      exact laysT_eq M b vs (j + 1) s k
    rw [this]
theorem offerT_eq (M : MIds) (vs : List Int) (s : St2 A) (k) : offerT rl cl el M hT vs s k = offerT rl cl el (M0 M.n M.first) hT vs s k:=by
  unfold offerT
  rw [claimM_eq]
  have : ∀ b vs j s k,laysT rl M b vs j s k = laysT rl (M0 M.n M.first) b vs j s k:=laysT_eq rl M
  simp only [this]
end
theorem doM_eq (M : MIds) (kk : Nat) : doM M kk = doM (M0 M.n M.first) kk:=by
  funext i o st k
  unfold doM
  rw [claimM_eq,offerT_eq]
  rfl
def SC (o : OpI) : Prop:=SG o∧o.kind = 1
theorem multi_doC (B : OpsB) (I : WIds) (hI : I.Ok) (i : Nat) (hi : i < 64) : DoLaw (B.on (multiY I).inner SC) i (doM I.M I.k i) 35 #[.pointer (some ⟨I.wb,0,none⟩)] #[]:=by
  intro tb L Cap hre hk hst hcut o st H k w hgood hrep hcap
  have hn : Now (B.on (multiY I).inner SC) Cap H w st H w:=⟨hrep,hcap,Held.refl _ _⟩
  obtain ⟨kd,oa,ob,oc⟩:=o
  exact (multi_do1 hI hk (cell_sstep hre hk hst) (slots_sstep hre hk hst) H w st H w hn hcut i hi kd oa ob oc hgood.1 hgood.2 k).mono fun v t' w' ⟨a,s',H',lv,h1,h2,h3,h4⟩=>⟨a,s',H',lv,h2,h1,h3.rep,h3.held,h4.own,fun b hb=>(h4.nh b hb).1⟩
set_option maxHeartbeats 1000000 in
theorem multi_playC (hP : Prog Try.prog) (Post : Value→World→Prop) (W0 : World) (n : Nat) (ss : List Int) (sA : Option Addr) (sc : Nat) (hn : sizeO ss = n) (h0 : 0 < n) (h2 : n≤65536) (hbt : (bits BinOp.and IntKind.i64 (n : Int) ((n : Int) - 1) != 0) = false) (hf0 : 0≤firstO ss) (hf1 : firstO ss < 4611686018427387904) (hl : 2≤ss.length)
    (tA : Option Addr) (Tb To nt cp : Nat) (htA : 0 < nt→tA = some ⟨Tb,To,none⟩) (hnt : nt≤maxLen) (A : Nat→Option Addr) (len cap : Nat→Nat) (ops : Nat→List OpI) (sv : Value) (xs : List Int) (most : Int) (w0 : World) (hW : W0.heap.size≤w0.heap.size)
    (hst : NumsIn w0 sA sc ss) (hrows : RowsAt w0 Tb To (min nt 64) A len cap) (hin : OpsCells W0 SC w0 (min nt 64) A len ops) (hsch : SchI W0 sv xs (fun b=>∃ i o,i < min nt 64∧A i = some ⟨b,o,none⟩) w0)
    (hSo : Sound (brQ (doM (M0 n (firstO ss)) (kO ss)) ops) (min nt 64) (s0O ss,fun _=>[])) :
    Ccalls (lgA hP Post W0) 10 #[.slice sA ss.length sc,.slice tA nt cp,sv,.int .i64 most] () w0 fun v _ w'=>PlayG W0 (stateM n (kO ss) (playRun (brQ (doM (M0 n (firstO ss)) (kO ss)) ops) (min nt 64) (heldI most 1048576).toNat xs (s0O ss,fun _=>[])).m.s.1).length (stateM n (kO ss)) (playRun (brQ (doM (M0 n (firstO ss)) (kO ss)) ops) (min nt 64) (heldI most 1048576).toNat xs (s0O ss,fun _=>[])) (min nt 64) w0 v w':=by
  refine multi_playP (ι:=WIds) (A0:=MSt) (fun I=>I.wb) (fun I=>(multiY I).At) MBI (fun I a w w' h hs=>(multiY I).inner.at_ a w w' h hs) (fun I=>I.Ok∧I.M.n = n∧I.M.first = firstO ss∧I.k = kO ss) SC (s0O ss) (fun I=>doM I.M I.k) (doM (M0 n (firstO ss)) (kO ss)) (stateM n (kO ss)) (.slice sA ss.length sc) hP Post W0 tA Tb To nt cp htA hnt A len cap ops sv xs most w0 hW hrows hin hsch (fun z hz=>?_) (fun I a w hI hat=>?_) (fun B I i hI hi=>?_) (fun I hI=>?_) hSo
  · have hst' : NumsIn z sA sc ss:=⟨hst.le,hst.max,fun i hi=>by
      obtain ⟨b,o,h1,h2⟩:=hst.cells i hi
      exact ⟨b,o,h1,(World.cell?_of_block (w:=w0) (a:=⟨b,o + i,none⟩) (hz.block b (lt_of_cell h2))).trans h2⟩⟩
    exact multi_made z sA sc ss n hst' hn h0 h2 hbt hf0 hf1 hl
  · obtain ⟨h1,rfl,h3,h4⟩:=hI
    rw [← h4]
    exact multi_state w I a h1 hat
  · exact multi_doC B I hI.1 i hi
  · obtain ⟨h1,h2,h3,h4⟩:=hI
    show doM I.M I.k = _
    rw [doM_eq,h2,h3,h4]
end Go.Proofs.Ytoepekcheapgmaa
