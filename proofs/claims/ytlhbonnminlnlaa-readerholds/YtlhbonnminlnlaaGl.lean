/- DERIVED. A reader among threads (package reader): Read. -/
import Derived.Test.YtlhbonnminlnlaaGk
import Derived.Test.YtlhbonnminlnlaaGd
set_option linter.unusedVariables false
set_option linter.unusedSectionVars false
set_option linter.unusedSimpArgs false
namespace Go.Proofs.Ytlhbonnminlnlaa
open Go.RowKit Go.Turn Go.Tame Go.Conc
def bloadT (s : RSS) (k : RSS→Tree RSS RSS) : Tree RSS RSS:=.yield s fun s=>match s.1.mem with
 | none=>k s
 | some _=>.cut
theorem Lay.At.hd0 {I : RIds} (hI : I.Ok) {S : RdS} {w : World} (h : (readY I).At S w) (hm : S.mem = none) : w.cell? ⟨I.gt,0,none⟩ = some (.pointer none):=
 h.cell I.gt 0 _ ((layR_at hI (x:=.ga) trivial S 0).trans (by show (match S.mem with | none=>some (Value.pointer none) | some _=>none) = _; rw [hm]))
set_option maxRecDepth 100000 in
theorem gate_loadT {I : RIds} (hI : I.Ok) {B : OpsB} {good : OpI→Prop} {L : Lg Try.prog (Tree RSS RSS)} {Cap : (Nat→Prop)→World→Prop} {V : Value} (hk : CapK Cap) (hS : SStep (B.on (readY I).inner good) L Cap 75 V) (H0 : Nat→Prop) (w0 : World) (s : RSS) (H : Nat→Prop) (w : World) (hn : Now (B.on (readY I).inner good) Cap H0 w0 s H w) (hcut : ∀ fr mid x,L.T .cut fr mid x) (k : RSS→Tree RSS RSS) :
  Ccalls L 54 #[.pointer (some ⟨I.gt,0,none⟩),V] (bloadT s k) w fun u t' w'=>∃ s' H',u = .agg #[.pointer none,.pointer (some ⟨I.gt,0,none⟩)]∧t' = k s'∧Now (B.on (readY I).inner good) Cap H0 w0 s' H' w':=by
 intro c mid hR
 have HR:=Lib.hid hR
 have HN:=Lib.hid hn
 clear hR hn
 rw [show Frame.enter Try.prog 54 #[.pointer (some ⟨I.gt,0,none⟩),V] .normal = Frame.at { (default : Frame) with fn:=54,kind:=.normal } ⟨#[.pointer (some ⟨I.gt,0,none⟩),V] ++ Array.replicate (Try.f54.ntmps - 2) undef,[]⟩ [.code (Try.f54.body.getD .skip)] from by simp [Frame.enter,Frame.at,Try.func54]; rfl]
 simp only [Try.f54,Option.getD_some,Nat.reduceSub,Array.replicate_succ,Array.replicate_zero,List.push_toArray,List.append_toArray,List.nil_append,List.cons_append]
 unfold bloadT
 with_reducible refine Lg.mv_seq _ ?_
 with_reducible refine Lg.mv_reg _ ?_
 intro K hK y τ n' hy
 subst hy
 have hn:=HN.out.re hk
 clear HN
 have HN:=Lib.hid hn
 clear hn
 go_wp2
 refine hK _ _ (fun _=>rfl) ?_
 clear hK K
 have hb4:=HN.out.own 133 #[.pointer none,.pointer none]
 have hn:=HN.out.alloc (.cells #[.pointer none,.pointer none] 133)
 clear HN
 generalize y.alloc (.cells #[.pointer none,.pointer none] 133) = z at hn hb4 ⊢
 generalize y.heap.size = b4 at hb4 ⊢
 have HN:=Lib.hid hn
 have HB4:=Lib.hid hb4
 clear hn hb4
 repeat (first
  | with_reducible refine Lg.mv_seq _ ?_
  | with_reducible refine Lg.mv_skip _ ?_
  | with_reducible refine Lg.mv_block _ ?_
  | with_reducible refine Lg.mv_inBlock _ ?_
  | with_reducible refine Lg.mv_end _ ?_
  | ((with_reducible refine Lg.mv_condT _ ?_ ?_); exact rfl)
  | ((with_reducible refine Lg.mv_condF _ ?_ ?_); exact rfl)
  | ((with_reducible apply Lg.mv_exit); exact rfl)
  | (with_reducible refine Lg.mv_reg _ ?_
     intro K hK y τ n' hy
     subst hy
     have hn:=HN.out.re hk
     have hb4:=HB4.out.re
     clear HN HB4
     have HN:=Lib.hid hn
     have HB4:=Lib.hid hb4
     clear hn hb4
     go_wp2
     refine hK _ _ (fun _=>rfl) ?_
     clear hK K))
 with_reducible refine Lg.mv_region _ ?_
 refine Lg.pre 0 1 1 (by simp) fun K hK z τ n' hz=>?_
 subst hz
 have hn:=HN.out.re hk
 have hb4:=HB4.out.re
 clear HN HB4
 have HN:=Lib.hid hn
 have HB4:=Lib.hid hb4
 clear hn hb4
 go_wp2
 refine hK _ _ (fun _=>rfl) ?_
 clear hK K
 refine Lg.call (i:=1) (rest:=[]) (f:=75) (args:=#[V]) rfl rfl (fun y=>by go_simp) (hS _ _ _ _ _ _ (HN.out.here hk)) ?_
 rintro vv t' w' ⟨rfl,s,H,rfl,hn'⟩
 have hb4:=HB4.out.held hn'.held
 have hn:=HN.out.on hn'
 clear HN HB4 hn'
 rw [Frame.finish_at]
 walk_nrm
 with_reducible refine Lg.mv_end _ ?_
 have HN:=Lib.hid hn
 have HB4:=Lib.hid hb4
 clear hn hb4
 refine (show L.T (match s.1.mem with | none=>k s | some _=>.cut) _ _ _ from ?_)
 cases hm : s.1.mem with
 | some l=>exact hcut _ _ _
 | none =>
 have HM:=Lib.hid hm
 clear hm
 with_reducible refine Lg.mv_seq _ ?_
 with_reducible refine Lg.mv_reg _ ?_
 intro K hK y τ n' hy
 subst hy
 have hn:=HN.out.re hk
 have hb4:=HB4.out.re
 clear HN HB4
 have c0:=Lay.At.hd0 hI (show (readY I).At s.1 y from hn.rep.at_) HM.out
 have o0:=hb4.blk.cell 0
 have o1:=hb4.blk.cell 1
 have z0:=hb4.blk.frozen 0
 have z1:=hb4.blk.frozen 1
 simp only [List.getElem?_toArray,List.getElem?_cons_zero,List.getElem?_cons_succ] at o0 o1
 have HN:=Lib.hid hn
 have HB4:=Lib.hid hb4
 clear hn hb4
 go_wp2_with (go_at_call 77; refine (ptr_load_mb _ none _ c0 (.inl rfl)).mono ?_; rintro e w' ⟨rfl,hw'⟩; subst hw')
 refine hK _ _ (fun _=>rfl) ?_
 clear hK K c0 o0 o1 z0 z1
 have hn:=HN.out
 have hb4:=HB4.out
 clear HN HB4
 have hbb:=(hb4.set_ 0 (.pointer none)).set_ 1 (.pointer (some ⟨I.gt,0,none⟩))
 have hnn:=(hn.set_ hb4 0 (.pointer none)).set_ (hb4.set_ 0 (.pointer none)) 1 (.pointer (some ⟨I.gt,0,none⟩))
 simp only [List.setIfInBounds_toArray,List.set_cons_zero,List.set_cons_succ] at hbb
 generalize World.setCell _ _ _ = w6 at hbb hnn ⊢
 clear hn hb4
 with_reducible refine Lg.mv_ret _ ?_
 refine Lg.leave rfl Try.func54 rfl (v:=.agg #[.pointer none,.pointer (some ⟨I.gt,0,none⟩)]) (fun y τ n hy=>?_) (HR.out _ _ _ ⟨s,H,rfl,rfl,hnn⟩)
 have c0 : y.cell? ⟨b4,0,none⟩ = some (.pointer none):=by have:=hbb.blk.cell 0; rw [hy] at this; exact this
 have c1 : y.cell? ⟨b4,1,none⟩ = some (.pointer (some ⟨I.gt,0,none⟩)):=by have:=hbb.blk.cell 1; rw [hy] at this; exact this
 simp [results,Try.f54,go_sem,c0,c1]
theorem now_pub {I : RIds} (hI : I.Ok) {B : OpsB} {good : OpI→Prop} {Cap : (Nat→Prop)→World→Prop} {H0 H : Nat→Prop} {w0 w w1 w' : World} {s : RSS} (hn : Now (B.on (readY I).inner good) Cap H0 w0 s H w) {q K c : Nat} {cs : Array Value} {l : List Int} (ho : Own1 (B.on (readY I).inner good) w0 H w q 3 cs) (hl : l.length≤c∧l.length≤64) (hc : c≤maxLen) (hcs : ∀ i (h : i < l.length),cs[i]? = some (.int .i64 l[i]))
  (hk1 : Kept (fun _=>False) w w1) (hK0 : w.heap.size≤K) (hb : Blk w1 K 162 #[.slice (some ⟨q,0,none⟩) l.length c,.int .i64 0]) (hw' : w' = w1.setCell ⟨I.gt,0,none⟩ (.pointer (some ⟨K,0,none⟩))) :
  Now (B.on (readY I).inner good) Cap H0 w0 ({ s.1 with mem:=some l },s.2) (fun b=>H b∨b = K∨b = q) w':=by
 have hn1:=hn.kept hk1
 have ho1:=ho.kept hk1
 have r:=hn.rep
 have r1:=hn1.rep
 have ha : (readY I).At s.1 w1:=r1.at_
 have hgB : (readY I).BI I.gt:=⟨.ga,trivial,rfl⟩
 have hgH : H I.gt:=r.bi _ hgB
 have hqg : q≠I.gt:=fun e=>ho.nh (e ▸ hgH)
 have hKg : K≠I.gt:=fun e=>by have:=r.lt hgH; omega
 have hqK : q≠K:=fun e=>by have:=ho.blk.lt; omega
 have far : ∀ b,b≠I.gt→w'.heap[b]? = w1.heap[b]?:=fun b hb=>by rw [hw']; exact Below.heap_setCell _ _ _ _ hb
 have bK : ¬ (readY I).BI K:=fun z=>by have:=r.lt (r.bi K z); omega
 have bq : ¬ (readY I).BI q:=fun z=>ho.nh (r.bi q z)
 have hcell : ∃ u,w1.cell? ⟨I.gt,0,none⟩ = some u:=Option.ne_none_iff_exists'.1 fun z=>by
  obtain ⟨c',t',e⟩:=ha.near I.gt hgB
  have h1:=ha.num hI (i:=0) (by omega)
  simp only [World.cell?,e] at z h1
  have hh : 1 < c'.size:=by
   rcases Nat.lt_or_ge 1 c'.size with z1 | z1
   ·exact z1
   ·rw [Array.getElem?_eq_none (by simpa using z1)] at h1; cases h1
  rw [Array.getElem?_eq_getElem (by omega)] at z
  cases z
 have at' : (readY I).At { s.1 with mem:=some l } w':=by
  refine ⟨fun b o v hv=>?_,fun b hb=>?_,⟨ha.ok.c0,ha.ok.c1,ha.ok.rn,ha.ok.fn⟩⟩
  ·have hv : layR I { s.1 with mem:=some l } b o = some v:=hv
   have hne : ¬ (b = I.gt∧o = 0):=by
    rintro ⟨rfl,rfl⟩
    rw [show layR I { s.1 with mem:=some l } I.gt 0 = none from layR_at hI (x:=.ga) trivial _ 0] at hv
    cases hv
   have hold : layR I s.1 b o = some v:=by
    rw [← hv]
    unfold layR
    cases hx : I.what b with
    | none=>rfl
    | some x =>
      obtain ⟨_,hxb⟩:=RIds.what_some hx
      rcases x with _ | _ | _ | _ | _ | _ | _ | _ | _ | j' | j' <;> first | rfl | skip
      cases o with
      | zero=>exact absurd ⟨hxb.symm,rfl⟩ hne
      | succ o=>rfl
   rw [hw',World.cell?_setCell_other _ _ _ _ (by intro e; injection e with e1 e2; first | exact hne ⟨e1.symm,e2.symm⟩ | exact hne ⟨e1,e2⟩)]
   exact ha.cell b o v hold
  ·rw [hw']; exact set_near (ha.near b hb)
 have hbox : BoxR I.gt { s.1 with mem:=some l } (fun b=>b = K∨b = q) w':=by
  refine (show ∃ p q c cs,_ from ⟨K,q,c,cs,?_,(far K hKg).trans hb,(far q hqg).trans ho1.blk,hl,hc,hcs,fun b=>Iff.rfl⟩)
  rw [hw']
  obtain ⟨u,hu⟩:=hcell
  exact World.cell?_setCell_same _ _ _ hu
 refine ⟨?_,hn.cap0,⟨?_,fun b c' t' r' hx hs hr=>?_⟩⟩
 ·refine ⟨at',fun b hb=>.inl (r.bi b hb),⟨.inl r.abH.1,r.abH.2⟩,fun b hb=>?_,?_,fun b c' t' r' hb' hv=>?_,fun b hb' z=>?_,_,hbox,fun b hb'=>?_⟩
  ·rcases hb with hb | rfl | rfl
   ·by_cases e : b = I.gt
    ·subst e
     obtain ⟨c',t',e⟩:=at'.near _ hgB
     exact ⟨c',t',_,e,by decide⟩
    ·obtain ⟨c',t',r',h1,h2⟩:=r1.near b hb
     exact ⟨c',t',r',(far b e).trans h1,h2⟩
   ·exact ⟨_,_,_,(far _ hKg).trans hb,by decide⟩
   ·exact ⟨_,_,_,(far _ hqg).trans ho1.blk,by decide⟩
  ·obtain ⟨rw_,c',h1,h2,h3,h4,h5⟩:=r1.rows
   have nb : ∀ b,H b∧¬ (B.on (readY I).inner good).BI b→w'.heap[b]? = w1.heap[b]?:=fun b hb=>far b fun e=>hb.2 (e ▸ hgB)
   refine ⟨rw_,c',(nb _ r.abH).trans h1,h2,h3,fun i hi=>?_,h5⟩
   obtain ⟨xs,k1,k2,k3⟩:=h4 i hi
   exact ⟨xs,own_same k1 fun b hb=>nb b (k3 b hb),k2.same nb fun b hb=>⟨.inl hb.1,hb.2⟩,fun b hb=>⟨.inl (k3 b hb).1,(k3 b hb).2⟩⟩
  ·obtain ⟨r2,k⟩:=r1.rb b c' t' r' hb' hv
   exact ⟨r2,(far b fun e=>r.rbH b hb' (e ▸ hgH)).trans k⟩
  ·rcases z with z | z | z
   ·exact r.rbH b hb' z
   ·have:=hn.rlt hb'; omega
   ·exact ho.nr (z ▸ hb')
  ·rcases hb' with rfl | rfl
   ·exact ⟨.inr (.inl rfl),bK,_,_,(far _ hKg).trans hb,by decide,by decide⟩
   ·exact ⟨.inr (.inr rfl),bq,_,_,(far _ hqg).trans ho1.blk,by decide,by decide⟩
 ·have h1:=hn1.held.size
  rw [hw']
  simpa [World.setCell] using h1
 ·obtain ⟨h1,h2⟩:=hn1.held.block b c' t' r' hx hs hr
  have hb0:=lt_of_some hx
  have hsz:=hn.held.size
  have hge:=ho.ge
  exact ⟨(far b fun e=>h2 (e ▸ hgH)).trans h1,fun z=>by rcases z with z | z | z; exact h2 z; omega; omega⟩
structure Own2 (D : OpsD) (w0 : World) (H : Nat→Prop) (w : World) (b : Nat) (t : TypeId) (cs : Array Value) (b' : Nat) (t' : TypeId) (cs' : Array Value) : Prop where
 a : Own1 D w0 H w b t cs
 x : Own1 D w0 H w b' t' cs'
section
variable {D : OpsD} {w0 w w' y : World} {H H' : Nat→Prop} {b b' : Nat} {t t' : TypeId} {cs cs' : Array Value}
theorem Own2.re {τ : Nat→Question→Nat} {n : Nat} (h : Own2 D w0 H (y.re τ n) b t cs b' t' cs') : Own2 D w0 H y b t cs b' t' cs':=⟨h.a.re,h.x.re⟩
theorem Own2.held (h : Own2 D w0 H w b t cs b' t' cs') (hh : Held H w H' w') : Own2 D w0 H' w' b t cs b' t' cs':=⟨h.a.held hh,h.x.held hh⟩
theorem Own2.alloc (h : Own2 D w0 H w b t cs b' t' cs') (o : Obj) : Own2 D w0 H (w.alloc o) b t cs b' t' cs':=⟨h.a.alloc o,h.x.alloc o⟩
end
def bcasT (l : List Int) (s : RSS) (k : RSS→Tree RSS RSS) : Tree RSS RSS:=.yield s fun s=>match s.1.mem with
 | none=>k ({ s.1 with mem:=some l },s.2)
 | some _=>.cut
set_option maxRecDepth 100000 in
theorem gate_casT {I : RIds} (hI : I.Ok) {B : OpsB} {good : OpI→Prop} {L : Lg Try.prog (Tree RSS RSS)} {Cap : (Nat→Prop)→World→Prop} {V : Value} (hk : CapK Cap) (hS : SStep (B.on (readY I).inner good) L Cap 75 V) (H0 : Nat→Prop) (w0 : World) (s : RSS) (H : Nat→Prop) (w : World) (hn : Now (B.on (readY I).inner good) Cap H0 w0 s H w) (hcut : ∀ fr mid x,L.T .cut fr mid x) {q n qc : Nat} {cs : Array Value} {l : List Int} (ho : Own1 (B.on (readY I).inner good) w0 H w q 3 cs) (hl : l.length≤qc∧l.length≤64) (hc : qc≤maxLen) (hcs : ∀ i (h : i < l.length),cs[i]? = some (.int .i64 l[i])) (hnl : l.length = n) {bx : Nat} {tx : TypeId} {cx : Array Value} (hx : Own1 (B.on (readY I).inner good) w0 H w bx tx cx) (k : RSS→Tree RSS RSS) :
  Ccalls L 57 #[.pointer (some ⟨I.gt,0,none⟩),V,.agg #[.pointer none,.pointer (some ⟨I.gt,0,none⟩)],.slice (some ⟨q,0,none⟩) n qc] (bcasT l s k) w fun u t' w'=>∃ s' H',u = .bool true∧t' = k s'∧Now (B.on (readY I).inner good) Cap H0 w0 s' H' w'∧Blk w' bx tx cx:=by
 obtain ⟨j,hj⟩ : ∃ j,Try.prog.info? 82 = some j:=Option.isSome_iff_exists.1 (by kernel_rfl)
 have heq:=eql_ptr_same (t:=131) ⟨I.gt,0,none⟩ Try.underlying131 hj
 clear hj
 have HQ:=Lib.hid (show Own2 (B.on (readY I).inner good) w0 H w q 3 cs bx tx cx from ⟨ho,hx⟩)
 clear ho hx
 have HL:=Lib.hid (And.intro hl (And.intro hc (And.intro hcs hnl)))
 clear hl hc hcs hnl
 intro c mid hR
 have HR:=Lib.hid hR
 have HN:=Lib.hid hn
 clear hR hn
 rw [show Frame.enter Try.prog 57 #[.pointer (some ⟨I.gt,0,none⟩),V,.agg #[.pointer none,.pointer (some ⟨I.gt,0,none⟩)],.slice (some ⟨q,0,none⟩) n qc] .normal = Frame.at { (default : Frame) with fn:=57,kind:=.normal } ⟨#[.pointer (some ⟨I.gt,0,none⟩),V,.agg #[.pointer none,.pointer (some ⟨I.gt,0,none⟩)],.slice (some ⟨q,0,none⟩) n qc] ++ Array.replicate (Try.f57.ntmps - 4) undef,[]⟩ [.code (Try.f57.body.getD .skip)] from by simp [Frame.enter,Frame.at,Try.func57]; rfl]
 simp only [Try.f57,Option.getD_some,Nat.reduceSub,Array.replicate_succ,Array.replicate_zero,List.push_toArray,List.append_toArray,List.nil_append,List.cons_append]
 unfold bcasT
 with_reducible refine Lg.mv_seq _ ?_
 with_reducible refine Lg.mv_reg _ ?_
 intro K hK y τ n' hy
 subst hy
 have hn:=HN.out.re hk
 have hq0:=HQ.out.re
 clear HN HQ
 have hb4:=hn.own 133 #[.pointer none,.pointer (some ⟨I.gt,0,none⟩)]
 have hn:=hn.alloc (.cells #[.pointer none,.pointer (some ⟨I.gt,0,none⟩)] 133)
 have hq:=hq0.alloc (.cells #[.pointer none,.pointer (some ⟨I.gt,0,none⟩)] 133)
 clear hq0
 go_wp2
 refine hK _ _ (fun _=>rfl) ?_
 clear hK K
 generalize y.alloc (.cells #[.pointer none,.pointer (some ⟨I.gt,0,none⟩)] 133) = z at hn hb4 hq ⊢
 generalize y.heap.size = b4 at hb4 ⊢
 have HN:=Lib.hid hn
 have HB4:=Lib.hid hb4
 have HQ:=Lib.hid hq
 clear hn hb4 hq
 repeat (first
  | with_reducible refine Lg.mv_seq _ ?_
  | with_reducible refine Lg.mv_skip _ ?_
  | with_reducible refine Lg.mv_block _ ?_
  | with_reducible refine Lg.mv_inBlock _ ?_
  | with_reducible refine Lg.mv_end _ ?_
  | ((with_reducible refine Lg.mv_condT _ ?_ ?_); exact rfl)
  | ((with_reducible refine Lg.mv_condF _ ?_ ?_); exact rfl)
  | ((with_reducible apply Lg.mv_exit); exact rfl)
  | (with_reducible refine Lg.mv_reg _ ?_
     intro K hK y τ n' hy
     subst hy
     have hn:=HN.out.re hk
     have hb4:=HB4.out.re
     have hq:=HQ.out.re
     clear HN HB4 HQ
     have HN:=Lib.hid hn
     have HB4:=Lib.hid hb4
     have HQ:=Lib.hid hq
     clear hn hb4 hq
     go_wp2
     refine hK _ _ (fun _=>rfl) ?_
     clear hK K))
 with_reducible refine Lg.mv_region _ ?_
 refine Lg.pre 0 1 1 (by simp) fun K hK z τ n' hz=>?_
 subst hz
 have hn:=HN.out.re hk
 have hb4:=HB4.out.re
 have hq:=HQ.out.re
 clear HN HB4 HQ
 have HN:=Lib.hid hn
 have HB4:=Lib.hid hb4
 have HQ:=Lib.hid hq
 clear hn hb4 hq
 go_wp2
 refine hK _ _ (fun _=>rfl) ?_
 clear hK K
 refine Lg.call (i:=1) (rest:=[]) (f:=75) (args:=#[V]) rfl rfl (fun y=>by go_simp) (hS _ _ _ _ _ _ (HN.out.here hk)) ?_
 rintro vv t' w' ⟨rfl,s,H,rfl,hn'⟩
 have hb4:=HB4.out.held hn'.held
 have hq:=HQ.out.held hn'.held
 have hn:=HN.out.on hn'
 clear HN HB4 HQ hn'
 rw [Frame.finish_at]
 walk_nrm
 with_reducible refine Lg.mv_end _ ?_
 have HN:=Lib.hid hn
 have HB4:=Lib.hid hb4
 have HQ:=Lib.hid hq
 clear hn hb4 hq
 refine (show L.T (match s.1.mem with | none=>k ({ s.1 with mem:=some l },s.2) | some _=>.cut) _ _ _ from ?_)
 cases hm : s.1.mem with
 | some l=>exact hcut _ _ _
 | none =>
 have HM:=Lib.hid hm
 clear hm
 with_reducible refine Lg.mv_seq _ ?_
 with_reducible refine Lg.mv_reg _ ?_
 intro K hK u τ n' hy
 subst hy
 have hn:=HN.out.re hk
 have hb4:=HB4.out.re
 have hq:=HQ.out.re
 clear HN HB4 HQ
 have c0:=Lay.At.hd0 hI (show (readY I).At s.1 u from hn.rep.at_) HM.out
 have z0 : u.frozen? ⟨I.gt,0,none⟩ = false:=Lay.At.gz hI (show (readY I).At s.1 u from hn.rep.at_) 0
 have hne : b4≠I.gt:=fun e=>hb4.nh (e ▸ hn.rep.bi _ ⟨.ga,trivial,rfl⟩)
 have HN:=Lib.hid hn
 have HB4:=Lib.hid hb4
 have HQ:=Lib.hid hq
 clear hn hb4 hq
 have HS:=Lib.hid (And.intro c0 z0)
 clear c0 z0
 refine strictL ?_
 refine wp_region_held (S:=Kept (fun b=>b = I.gt) u) (by kernel_rfl) ?_
 simp only [List.size_toArray,List.length_cons,List.length_nil,Nat.reduceAdd]
 have HW1 : Hid (Kept (fun b=>b = I.gt) u { u with drawn:=u.drawn + 1 }):=Lib.hid (Kept.drew u)
 iterate 12
  first
  | refine rdL 0 15 13 ?_
  | refine rdL 1 14 14 ?_
  | refine rdL 2 13 15 ?_
  | refine rdL 3 12 16 ?_
  | refine rdL 4 11 17 ?_
  | refine rdL 5 10 18 ?_
  | refine rdL 6 9 19 ?_
  | refine rdL 7 8 20 ?_
  | refine rdL 8 7 21 ?_
  | refine rdL 9 6 22 ?_
  | refine rdL 10 5 23 ?_
  | refine rdL 11 4 24 ?_
  refine ⟨_,rfl,rfl,by kernel_rfl,by kernel_rfl,by kernel_rfl,(fun c a w h=>by cases h.1),rfl,HW1.out,?_⟩
  apply Exists.intro
  refine ⟨fun wq hw=>?_,?_⟩
  ·have hb:=HB4.out.blk.kept hw hne
   have c0 : wq.cell? ⟨b4,0,none⟩ = some (.pointer none):=hb.cell 0
   have c1 : wq.cell? ⟨b4,1,none⟩ = some (.pointer (some ⟨I.gt,0,none⟩)):=hb.cell 1
   clear hb
   go_simp
   rfl
  simp only [Act.put,List.setIfInBounds_toArray,List.set_cons_zero,List.set_cons_succ]
 refine oneL (i:=12) (fuel:=3) (by kernel_rfl) rfl rfl fun K1 hK'=>?_
 unfold Oper.wp
 go_simp
 have hk1 : Kept (fun _=>False) u (u.drew.alloc (.cells #[.slice (some ⟨q,0,none⟩) n qc,.int .i64 0] 162)):=(Kept.drew u).trans (Kept.alloc _ _)
 have hbK:=Blk.new u.drew 162 #[.slice (some ⟨q,0,none⟩) n qc,.int .i64 0]
 refine hK' _ _ (hk1.mono fun _ _ z=>z.elim) ?_
 clear hK' K1
 refine oneL (i:=13) (fuel:=2) (by kernel_rfl) rfl rfl fun K1 hK'=>?_
 unfold Oper.wp
 go_simp
 refine (ptr_cas_mb ⟨I.gt,0,none⟩ none (some ⟨u.heap.size,0,none⟩) _ (cell_keep HS.out.1 hk1 id) (froz_keep HS.out.2 HS.out.1 hk1 id) (.inl rfl) (.inr ⟨_,_,_,rfl,hbK⟩)).mono ?_
 rintro e w' ⟨rfl,rfl⟩
 dsimp only
 have hk2 : Kept (fun b=>b = I.gt) u ((u.drew.alloc (.cells #[.slice (some ⟨q,0,none⟩) n qc,.int .i64 0] 162)).setCell ⟨I.gt,0,none⟩ (.pointer (some ⟨u.heap.size,0,none⟩))):=(hk1.mono fun _ _ z=>z.elim).trans (Kept.setCell _ (by rfl) _)
 refine hK' _ _ hk2 ?_
 clear hK' K1
 refine rdL 14 1 27 ?_
 refine ⟨_,rfl,rfl,by kernel_rfl,by kernel_rfl,by kernel_rfl,(fun c a w h=>by cases h.1),rfl,hk2,?_⟩
 apply Exists.intro
 refine ⟨fun wq hw=>?_,?_⟩
 ·go_simp
  rfl
 simp only [Act.put,List.setIfInBounds_toArray,List.set_cons_zero,List.set_cons_succ]
 refine oneL (i:=15) (fuel:=0) (by kernel_rfl) rfl rfl fun K1 hK'=>?_
 unfold Oper.wp
 go_simp
 have hn : Now (B.on (readY I).inner good) Cap H0 w0 ({ s.1 with mem:=some l },s.2) (fun b=>H b∨b = u.heap.size∨b = q) ((u.drew.alloc (.cells #[.slice (some ⟨q,0,none⟩) n qc,.int .i64 0] 162)).setCell ⟨I.gt,0,none⟩ (.pointer (some ⟨u.heap.size,0,none⟩))):=
  now_pub hI HN.out HQ.out.a HL.out.1 HL.out.2.1 HL.out.2.2.1 hk1 (Nat.le_refl _) (HL.out.2.2.2 ▸ hbK) rfl
 have hbx : Blk ((u.drew.alloc (.cells #[.slice (some ⟨q,0,none⟩) n qc,.int .i64 0] 162)).setCell ⟨I.gt,0,none⟩ (.pointer (some ⟨u.heap.size,0,none⟩))) bx tx cx:=HQ.out.x.blk.kept hk2 fun e=>HQ.out.x.nh (e ▸ HN.out.rep.bi _ ⟨.ga,trivial,rfl⟩)
 have HF2:=Lib.hid hk2
 clear hk1 hbK hk2 HN HB4 HQ HS HW1
 refine hK' _ _ HF2.out ?_
 clear hK' K1 HF2
 refine wpAnyH_done (by kernel_rfl) ⟨rfl,?_⟩ _
 refine hK _ _ (fun _=>rfl) ?_
 clear hK K
 refine (fun y HN HX=>?_ : ∀ y,Now (B.on (readY I).inner good) Cap H0 w0 ({ s.1 with mem:=some l },s.2) (fun b=>H b∨b = u.heap.size∨b = q) y→Blk y bx tx cx→L.T _ _ _ y) _ hn hbx
 with_reducible refine Lg.mv_ret _ ?_
 exact Lg.leave rfl Try.func57 rfl (v:=.bool true) (fun _ _ _ _=>by simp [results,Try.f57]) (HR.out _ _ _ ⟨_,_,rfl,rfl,HN,HX⟩)
theorem mv_loop {P : Program} {κ : Type} {L : Lg P κ} {t : κ} {b : Frame} {a : Act} {k : List Item} {mid : List Frame} {w : World} {c : Code} (h : L.T t (b.at a (.code c :: .inLoop c :: k)) mid w) : L.T t (b.at a (.code (.loop c) :: k)) mid w:=Lg.move _ (fun _ _=>step_loop) (fun h=>h) h
def gjoinT (i : Nat) (x : Int) (s : RSS) (k : RSS→Tree RSS RSS) : Tree RSS RSS:=bloadT s fun s=>gsetT i x s fun s=>bcasT [(i : Int)] s k
abbrev hCl (gt : Nat) : Array Value:=#[.pointer none,.pointer (some ⟨gt,0,none⟩)]
theorem none_members (w : World) : MembersAt w (.slice none 0 0) []:=⟨none,0,rfl,Nat.le_refl _,by decide,fun _=>rfl,fun i h=>absurd h (by simp)⟩
theorem clone_nil (w : World) : Calls Try.prog 58 #[.slice none 0 0] w fun e w'=>e = .returned (.slice none 0 0)∧w = w':=by
 have he : ∀ w,(binOp .eql 49 (.slice none 0 0) (.slice none 0 0)).run Try.prog w = .ok (.bool true) w:=fun w=>eql_slice_nil none 0 0 w (fun _=>rfl) (Nat.le_refl _)
 go_enter Try.func58,Try.ntmps58
 go_wp2
 go_ret
 exact ⟨rfl,rfl⟩
set_option maxHeartbeats 4000000 in
set_option maxRecDepth 100000 in
theorem gate_joinT {I : RIds} (hI : I.Ok) {B : OpsB} {good : OpI→Prop} {L : Lg Try.prog (Tree RSS RSS)} {Cap : (Nat→Prop)→World→Prop} {V : Value} (hk : CapK Cap) (hS : SStep (B.on (readY I).inner good) L Cap 59 V) (hS' : SStep (B.on (readY I).inner good) L Cap 75 V) (H0 : Nat→Prop) (w0 : World) (s : RSS) (H : Nat→Prop) (w : World) (hn : Now (B.on (readY I).inner good) Cap H0 w0 s H w) (hcut : ∀ fr mid x,L.T .cut fr mid x) (i : Nat) (hi : i < 64) (x : Int) (k : RSS→Tree RSS RSS) :
  Ccalls L 32 #[.pointer (some ⟨I.gt,0,none⟩),V,.int .i64 i,.int .i64 x] (gjoinT i x s k) w fun u t' w'=>∃ s' H',u = .int .i64 0∧t' = k s'∧Now (B.on (readY I).inner good) Cap H0 w0 s' H' w':=by
 intro c mid hR
 have HR:=Lib.hid hR
 have HN:=Lib.hid hn
 clear hR hn
 rw [show Frame.enter Try.prog 32 #[.pointer (some ⟨I.gt,0,none⟩),V,.int .i64 i,.int .i64 x] .normal = Frame.at { (default : Frame) with fn:=32,kind:=.normal } ⟨#[.pointer (some ⟨I.gt,0,none⟩),V,.int .i64 i,.int .i64 x] ++ Array.replicate (Try.f32.ntmps - 4) undef,[]⟩ [.code (Try.f32.body.getD .skip)] from by simp [Frame.enter,Frame.at,Try.func32]; rfl]
 simp only [Try.f32,Option.getD_some,Nat.reduceSub,Array.replicate_succ,Array.replicate_zero,List.push_toArray,List.append_toArray,List.nil_append,List.cons_append]
 unfold gjoinT
 repeat (first
  | with_reducible refine Lg.mv_seq _ ?_
  | with_reducible refine Lg.mv_skip _ ?_
  | with_reducible refine Lg.mv_block _ ?_
  | with_reducible refine Lg.mv_inBlock _ ?_
  | with_reducible refine Lg.mv_end _ ?_
  | ((with_reducible refine Lg.mv_condT _ ?_ ?_); exact rfl)
  | ((with_reducible refine Lg.mv_condF _ ?_ ?_); exact rfl)
  | ((with_reducible apply Lg.mv_exit); exact rfl)
  | (with_reducible refine Lg.mv_reg _ ?_
     intro K hK y τ n' hy
     subst hy
     have hn:=HN.out.re hk
     clear HN
     have HN:=Lib.hid hn
     clear hn
     go_wp2_with (go_at_call 53; refine (refused_no _ i _ hi).mono ?_; rintro e w' ⟨rfl,hw'⟩; subst hw')
     refine hK _ _ (fun _=>rfl) ?_
     clear hK K))
 with_reducible refine mv_loop ?_
 repeat (first
  | with_reducible refine Lg.mv_seq _ ?_
  | with_reducible refine Lg.mv_skip _ ?_
  | with_reducible refine Lg.mv_block _ ?_
  | with_reducible refine Lg.mv_inBlock _ ?_
  | with_reducible refine Lg.mv_end _ ?_
  | ((with_reducible refine Lg.mv_condT _ ?_ ?_); exact rfl)
  | ((with_reducible refine Lg.mv_condF _ ?_ ?_); exact rfl)
  | ((with_reducible apply Lg.mv_exit); exact rfl)
  | (with_reducible refine Lg.mv_reg _ ?_
     intro K hK y τ n' hy
     subst hy
     have hn:=HN.out.re hk
     clear HN
     have HN:=Lib.hid hn
     clear hn
     go_wp2_with (go_at_call 53; refine (refused_no _ i _ hi).mono ?_; rintro e w' ⟨rfl,hw'⟩; subst hw')
     refine hK _ _ (fun _=>rfl) ?_
     clear hK K))
 with_reducible refine Lg.mv_region _ ?_
 refine Lg.pre 0 4 3 (by simp) fun K hK z τ n' hz=>?_
 subst hz
 have hn:=HN.out.re hk
 clear HN
 have HN:=Lib.hid hn
 clear hn
 go_wp2
 refine hK _ _ (fun _=>rfl) ?_
 clear hK K
 refine Lg.call (i:=4) (rest:=[5,6]) (f:=54) (args:=#[.pointer (some ⟨I.gt,0,none⟩),V]) rfl rfl (fun y=>by go_simp) (gate_loadT hI hk hS' _ _ _ _ _ HN.out hcut _) ?_
 rintro vv t' w' ⟨s,H,rfl,rfl,hn⟩
 clear HN
 rw [Frame.finish_at]
 walk_nrm
 refine (show L.T _ (Frame.at _ ⟨_,[]⟩ (.inRegion _ (List.range' 5 (2 + 0)) :: _)) (c :: mid) _ from ?_)
 refine Lg.pre 5 2 0 (by simp) fun K hK y τ n' hy=>?_
 subst hy
 have hn0:=hn.re hk
 clear hn
 have hb4:=hn0.own 133 (hCl I.gt)
 have hn:=hn0.alloc (.cells (hCl I.gt) 133)
 clear hn0
 go_wp2
 refine hK _ _ (fun _=>rfl) ?_
 clear hK K
 rw [show (#[.pointer none,.pointer (some ⟨I.gt,0,none⟩)] : Array Value) = hCl I.gt from rfl]
 generalize y.alloc (.cells (hCl I.gt) 133) = z at hn hb4 ⊢
 obtain ⟨b4,hbe⟩ : ∃ b4,y.heap.size = b4:=⟨_,rfl⟩
 rw [hbe] at hb4 ⊢
 clear hbe
 have HN:=Lib.hid hn
 have HB4:=Lib.hid hb4
 clear hn hb4
 refine Lg.move _ (fun _ _=>step_region_end) (fun h=>h) ?_
 repeat (first
  | with_reducible refine Lg.mv_seq _ ?_
  | with_reducible refine Lg.mv_skip _ ?_
  | with_reducible refine Lg.mv_block _ ?_
  | with_reducible refine Lg.mv_inBlock _ ?_
  | with_reducible refine Lg.mv_end _ ?_
  | ((with_reducible refine Lg.mv_condT _ ?_ ?_); exact rfl)
  | ((with_reducible refine Lg.mv_condF _ ?_ ?_); exact rfl)
  | ((with_reducible apply Lg.mv_exit); exact rfl))
 with_reducible refine Lg.mv_reg _ ?_
 intro K hK y τ n' hy
 subst hy
 have hn:=HN.out.re hk
 have hb4:=HB4.out.re
 clear HN HB4
 have o0:=hb4.blk.cell 0
 have o1:=hb4.blk.cell 1
 have z0:=hb4.blk.frozen 0
 have z1:=hb4.blk.frozen 1
 simp only [hCl,List.getElem?_toArray,List.getElem?_cons_zero,List.getElem?_cons_succ] at o0 o1
 have HN:=Lib.hid hn
 have HB4:=Lib.hid hb4
 clear hn hb4
 go_wp2_with (first | (go_at_call 56; refine (held_value_mb (some ⟨I.gt,0,none⟩) none (.slice none 0 0) _ (.inl ⟨rfl,rfl⟩)).mono ?_; rintro e w7 ⟨rfl,k7⟩) | (go_at_call 55; refine (contains_no (.slice none 0 0) [] i _ (none_members _) (by simp)).mono ?_; rintro e w' ⟨rfl,hw'⟩; subst hw'))
 have hn:=HN.out.kept k7
 have hb4:=HB4.out.kept k7
 clear HN HB4 o0 o1 z0 z1 k7
 have HN:=Lib.hid hn
 have HB4:=Lib.hid hb4
 clear hn hb4
 refine hK _ _ (fun _=>rfl) ?_
 clear hK K
 repeat (first
  | with_reducible refine Lg.mv_seq _ ?_
  | with_reducible refine Lg.mv_skip _ ?_
  | with_reducible refine Lg.mv_block _ ?_
  | with_reducible refine Lg.mv_inBlock _ ?_
  | with_reducible refine Lg.mv_end _ ?_
  | ((with_reducible refine Lg.mv_condT _ ?_ ?_); exact rfl)
  | ((with_reducible refine Lg.mv_condF _ ?_ ?_); exact rfl)
  | ((with_reducible apply Lg.mv_exit); exact rfl))
 with_reducible refine Lg.mv_region _ ?_
 refine Lg.pre 0 4 1 (by simp) fun K hK z τ n' hz=>?_
 subst hz
 have hn:=HN.out.re hk
 have hb4:=HB4.out.re
 clear HN HB4
 have HN:=Lib.hid hn
 have HB4:=Lib.hid hb4
 clear hn hb4
 go_wp2
 refine hK _ _ (fun _=>rfl) ?_
 clear hK K
 refine Lg.call (i:=4) (rest:=[]) (f:=33) (args:=#[.pointer (some ⟨I.gt,0,none⟩),V,.int .i64 i,.int .i64 x]) rfl rfl (fun y=>by go_simp) (gate_setT hI hk hS _ _ _ _ _ (HN.out.here hk) i hi x _) ?_
 rintro vv t' w' ⟨s,H,rfl,rfl,hn'⟩
 have hb4:=HB4.out.held hn'.held
 have hn:=HN.out.on hn'
 clear HN HB4 hn'
 rw [Frame.finish_at]
 walk_nrm
 with_reducible refine Lg.mv_end _ ?_
 have HN:=Lib.hid hn
 have HB4:=Lib.hid hb4
 clear hn hb4
 repeat (first
  | with_reducible refine Lg.mv_seq _ ?_
  | with_reducible refine Lg.mv_skip _ ?_
  | with_reducible refine Lg.mv_block _ ?_
  | with_reducible refine Lg.mv_inBlock _ ?_
  | with_reducible refine Lg.mv_end _ ?_
  | ((with_reducible refine Lg.mv_condT _ ?_ ?_); exact rfl)
  | ((with_reducible refine Lg.mv_condF _ ?_ ?_); exact rfl)
  | ((with_reducible apply Lg.mv_exit); exact rfl))
 refine Lg.anyS (fun w=>Blk w b4 133 (hCl I.gt)) (by kernel_rfl) ?_
 simp only [List.size_toArray,List.length_cons,List.length_nil,Nat.reduceAdd]
 refine any_readS (i:=0) (fuel:=11) (some 31) rfl rfl (fun _ _ _ h=>h) (fun _ _ _ _ _=>(Lg.re_iff _).1) (by kernel_rfl) (by kernel_rfl) (by kernel_rfl) rfl HB4.out.blk rfl ?_
 apply Exists.intro
 refine ⟨fun wq hw=>?_,?_⟩
 ·have o0 : wq.cell? ⟨b4,0,none⟩ = some (.pointer none):=Blk.cell hw 0
  have o1 : wq.cell? ⟨b4,1,none⟩ = some (.pointer (some ⟨I.gt,0,none⟩)):=Blk.cell hw 1
  go_simp
  rfl
 simp only [Act.put,List.setIfInBounds_toArray,List.set_cons_zero,List.set_cons_succ]
 refine any_readS (i:=1) (fuel:=10) (some 32) rfl rfl (fun _ _ _ h=>h) (fun _ _ _ _ _=>(Lg.re_iff _).1) (by kernel_rfl) (by kernel_rfl) (by kernel_rfl) rfl HB4.out.blk rfl ?_
 apply Exists.intro
 refine ⟨fun wq hw=>?_,?_⟩
 ·have o0 : wq.cell? ⟨b4,0,none⟩ = some (.pointer none):=Blk.cell hw 0
  have o1 : wq.cell? ⟨b4,1,none⟩ = some (.pointer (some ⟨I.gt,0,none⟩)):=Blk.cell hw 1
  go_simp
  rfl
 simp only [Act.put,List.setIfInBounds_toArray,List.set_cons_zero,List.set_cons_succ]
 refine any_readS (i:=2) (fuel:=9) (some 33) rfl rfl (fun _ _ _ h=>h) (fun _ _ _ _ _=>(Lg.re_iff _).1) (by kernel_rfl) (by kernel_rfl) (by kernel_rfl) rfl HB4.out.blk rfl ?_
 apply Exists.intro
 refine ⟨fun wq hw=>?_,?_⟩
 ·have o0 : wq.cell? ⟨b4,0,none⟩ = some (.pointer none):=Blk.cell hw 0
  have o1 : wq.cell? ⟨b4,1,none⟩ = some (.pointer (some ⟨I.gt,0,none⟩)):=Blk.cell hw 1
  go_simp
  rfl
 simp only [Act.put,List.setIfInBounds_toArray,List.set_cons_zero,List.set_cons_succ]
 refine any_readS (i:=3) (fuel:=8) (some 34) rfl rfl (fun _ _ _ h=>h) (fun _ _ _ _ _=>(Lg.re_iff _).1) (by kernel_rfl) (by kernel_rfl) (by kernel_rfl) rfl HB4.out.blk rfl ?_
 apply Exists.intro
 refine ⟨fun wq hw=>?_,?_⟩
 ·have o0 : wq.cell? ⟨b4,0,none⟩ = some (.pointer none):=Blk.cell hw 0
  have o1 : wq.cell? ⟨b4,1,none⟩ = some (.pointer (some ⟨I.gt,0,none⟩)):=Blk.cell hw 1
  go_simp
  rfl
 simp only [Act.put,List.setIfInBounds_toArray,List.set_cons_zero,List.set_cons_succ]
 refine any_readS (i:=4) (fuel:=7) (some 35) rfl rfl (fun _ _ _ h=>h) (fun _ _ _ _ _=>(Lg.re_iff _).1) (by kernel_rfl) (by kernel_rfl) (by kernel_rfl) rfl HB4.out.blk rfl ?_
 apply Exists.intro
 refine ⟨fun wq hw=>?_,?_⟩
 ·have o0 : wq.cell? ⟨b4,0,none⟩ = some (.pointer none):=Blk.cell hw 0
  have o1 : wq.cell? ⟨b4,1,none⟩ = some (.pointer (some ⟨I.gt,0,none⟩)):=Blk.cell hw 1
  go_simp
  rfl
 simp only [Act.put,List.setIfInBounds_toArray,List.set_cons_zero,List.set_cons_succ]
 refine any_readS (i:=5) (fuel:=6) (some 36) rfl rfl (fun _ _ _ h=>h) (fun _ _ _ _ _=>(Lg.re_iff _).1) (by kernel_rfl) (by kernel_rfl) (by kernel_rfl) rfl HB4.out.blk rfl ?_
 apply Exists.intro
 refine ⟨fun wq hw=>?_,?_⟩
 ·have o0 : wq.cell? ⟨b4,0,none⟩ = some (.pointer none):=Blk.cell hw 0
  have o1 : wq.cell? ⟨b4,1,none⟩ = some (.pointer (some ⟨I.gt,0,none⟩)):=Blk.cell hw 1
  go_simp
  rfl
 simp only [Act.put,List.setIfInBounds_toArray,List.set_cons_zero,List.set_cons_succ]
 refine any_readS (i:=8) (fuel:=5) (some 39) rfl rfl (fun _ _ _ h=>h) (fun _ _ _ _ _=>(Lg.re_iff _).1) (by kernel_rfl) (by kernel_rfl) (by kernel_rfl) rfl HB4.out.blk rfl ?_
 apply Exists.intro
 refine ⟨fun wq hw=>?_,?_⟩
 ·have o0 : wq.cell? ⟨b4,0,none⟩ = some (.pointer none):=Blk.cell hw 0
  have o1 : wq.cell? ⟨b4,1,none⟩ = some (.pointer (some ⟨I.gt,0,none⟩)):=Blk.cell hw 1
  go_simp
  rfl
 simp only [Act.put,List.setIfInBounds_toArray,List.set_cons_zero,List.set_cons_succ]
 refine AnyS.all (rs:=[6,9]) (by kernel_rfl) (by simp) fun i' hi'=>?_
 simp only [List.mem_cons,List.not_mem_nil,or_false] at hi'
 rcases hi' with rfl | rfl
 ·refine .inl fun y τ n hy=>wpOp_of rfl rfl ?_
  subst hy
  have hn:=HN.out.re hk
  have hb4:=HB4.out.re
  clear HN HB4
  unfold Oper.wp
  go_simp
  refine (held_value_mb (some ⟨I.gt,0,none⟩) none (.slice none 0 0) _ (.inl ⟨rfl,rfl⟩)).mono ?_
  rintro e w7 ⟨rfl,k7⟩
  dsimp only
  have hn:=hn.kept k7
  have hb4:=hb4.kept k7
  have HN:=Lib.hid hn
  have HB4:=Lib.hid hb4
  clear hn hb4
  refine ⟨HB4.out.blk,?_⟩
  refine AnyS.all (rs:=[7,9]) (by kernel_rfl) (by simp) fun i' hi'=>?_
  simp only [List.mem_cons,List.not_mem_nil,or_false] at hi'
  rcases hi' with rfl | rfl
  ·refine .inl fun y τ n hy=>wpOp_of rfl rfl ?_
   subst hy
   have hn:=HN.out.re hk
   have hb4:=HB4.out.re
   clear HN HB4
   unfold Oper.wp
   go_simp
   refine (clone_nil _).mono ?_
   rintro e w7 ⟨rfl,rfl⟩
   dsimp only
   have HN:=Lib.hid hn
   have HB4:=Lib.hid hb4
   clear hn hb4
   refine ⟨HB4.out.blk,?_⟩
   refine AnyS.one (i:=9) (by kernel_rfl) ?_
   refine .inl fun y τ n hy=>wpOp_of rfl rfl ?_
   subst hy
   have hn:=HN.out.re hk
   have hb4:=HB4.out.re
   clear HN HB4
   unfold Oper.wp
   go_simp
   have hx:=hn.own 3 #[.int .i64 (i : Int)]
   have hn:=hn.alloc (.cells #[.int .i64 (i : Int)] 3)
   have hb4:=hb4.alloc (.cells #[.int .i64 (i : Int)] 3)
   generalize y.alloc (.cells #[.int .i64 i] 3) = wc at hx hn hb4 ⊢
   obtain ⟨xa,hxa⟩ : ∃ xa,y.heap.size = xa:=⟨_,rfl⟩
   rw [hxa] at hx ⊢
   clear hxa
   have HX:=Lib.hid hx
   clear hx
   have HN:=Lib.hid hn
   have HB4:=Lib.hid hb4
   clear hn hb4
   refine ⟨HB4.out.blk,?_⟩
   refine AnyS.one (i:=10) (fuel:=1) (by kernel_rfl) ?_
   refine .inl fun y τ n hy=>wpOp_of rfl rfl ?_
   subst hy
   have hx:=HX.out.re
   clear HX
   have hn:=HN.out.re hk
   have hb4:=HB4.out.re
   clear HN HB4
   have hxc : y.cell? ⟨xa,0,none⟩ = some (.int .i64 i):=hx.blk.cell 0
   clear hx
   obtain ⟨i0,hi0,hz0,hz1,hz2⟩:=info_parts Try.infoI
   refine wp_append_own y _ _ 49 rfl y.heap.size 3 i0 (.int .i64 0) 1 8 Try.underlying49 hi0 hz0 hz1 hz2 rfl (by decide) (.slice none 0 0) 0 [] rfl (World.ownsRow_nil _ _ _ _) ⟨xa,0,none⟩ 1 1 [.int .i64 i] rfl rfl ?_ (by simp [Value.oneCell']) (by unfold maxLen; omega) (by omega) (Nat.le_refl _) fun v' u1 h1 h2 h3=>?_
   ·intro j u hu
    cases j with
    | zero=>simp at hu; subst hu; simpa [Addr.add] using hxc
    | succ j=>simp at hu
   clear hxc h3 hi0 hz0 hz1 hz2
   have kg : Kept (fun _=>False) y u1:=(Kept.grown (S:=fun b=>(Value.slice none 0 0).ownBlock = some b) h2 (fun k hk=>hk)).mono fun b hb h=>by simp [Value.ownBlock] at h
   clear h2
   rcases h1 with ⟨h1,⟨-,h2⟩ | ⟨q,qc,cur,rfl,hq,hcur,hqc,hqm,hsz,hcs⟩⟩
   ·omega
   have hown : Own1 (B.on (readY I).inner good) w0 H u1 q 3 cur:=⟨hcur,fun z=>by have:=hn.rep.lt z; omega,by have:=hn.held.size; omega,fun z=>by have:=hn.rlt z; omega⟩
   have hn:=hn.kept kg
   have hb4:=hb4.kept kg
   clear kg
   have HQ:=Lib.hid hown
   clear hown
   have HN:=Lib.hid hn
   have HB4:=Lib.hid hb4
   clear hn hb4
   refine ⟨HB4.out.blk,fun _=>rfl,?_⟩
   simp only [Act.put,List.setIfInBounds_toArray,List.set_cons_zero,List.set_cons_succ]
   refine AnyS.one (i:=11) (fuel:=0) (by kernel_rfl) (.inr ⟨_,57,#[.pointer (some ⟨I.gt,0,none⟩),V,.agg #[.pointer none,.pointer (some ⟨I.gt,0,none⟩)],.slice (some ⟨q,0,none⟩) 1 qc],rfl,rfl,fun y=>by go_simp,(gate_casT hI hk hS' _ _ _ _ _ HN.out hcut HQ.out ⟨hqc,by simp⟩ hqm (fun j hj=>?_) rfl HB4.out k).mono ?_⟩)
   ·have : j = 0:=by simp at hj; exact hj
    subst this
    have:=congrArg (fun l=>l[0]?) hcs
    simpa using this
   rintro vv t' w' ⟨s,H,rfl,rfl,hn,hbx⟩
   clear HN HB4 HQ
   have HN:=Lib.hid hn
   clear hn
   refine ⟨hbx,fun _=>rfl,?_⟩
   simp only [Act.put,List.setIfInBounds_toArray,List.set_cons_zero,List.set_cons_succ]
   refine AnyS.done (by kernel_rfl) ?_ _
   clear hbx
   repeat (first
    | with_reducible refine Lg.mv_seq _ ?_
    | with_reducible refine Lg.mv_skip _ ?_
    | with_reducible refine Lg.mv_block _ ?_
    | with_reducible refine Lg.mv_inBlock _ ?_
    | with_reducible refine Lg.mv_end _ ?_
    | ((with_reducible refine Lg.mv_condT _ ?_ ?_); exact rfl)
    | ((with_reducible refine Lg.mv_condF _ ?_ ?_); exact rfl)
    | ((with_reducible apply Lg.mv_exit); exact rfl)
    | (with_reducible refine Lg.mv_reg _ ?_
       intro K hK y τ n' hy
       subst hy
       have hn:=HN.out.re hk
       clear HN
       have HN:=Lib.hid hn
       clear hn
       go_wp2_with (go_at_call 53; refine (refused_no _ i _ hi).mono ?_; rintro e w' ⟨rfl,hw'⟩; subst hw')
       refine hK _ _ (fun _=>rfl) ?_
       clear hK K))
   with_reducible refine Lg.mv_ret _ ?_
   exact Lg.leave rfl Try.func32 rfl (v:=.int .i64 0) (fun _ _ _ _=>by simp [results,Try.f32]) (HR.out _ _ _ ⟨_,H,rfl,rfl,HN.out⟩)
  ·refine .inl fun y τ n hy=>wpOp_of rfl rfl ?_
   subst hy
   have hn:=HN.out.re hk
   have hb4:=HB4.out.re
   clear HN HB4
   unfold Oper.wp
   go_simp
   have hx:=hn.own 3 #[.int .i64 (i : Int)]
   have hn:=hn.alloc (.cells #[.int .i64 (i : Int)] 3)
   have hb4:=hb4.alloc (.cells #[.int .i64 (i : Int)] 3)
   generalize y.alloc (.cells #[.int .i64 i] 3) = wc at hx hn hb4 ⊢
   obtain ⟨xa,hxa⟩ : ∃ xa,y.heap.size = xa:=⟨_,rfl⟩
   rw [hxa] at hx ⊢
   clear hxa
   have HX:=Lib.hid hx
   clear hx
   have HN:=Lib.hid hn
   have HB4:=Lib.hid hb4
   clear hn hb4
   refine ⟨HB4.out.blk,?_⟩
   refine AnyS.one (i:=7) (by kernel_rfl) ?_
   refine .inl fun y τ n hy=>wpOp_of rfl rfl ?_
   subst hy
   have hn:=HN.out.re hk
   have hb4:=HB4.out.re
   clear HN HB4
   unfold Oper.wp
   go_simp
   refine (clone_nil _).mono ?_
   rintro e w7 ⟨rfl,rfl⟩
   dsimp only
   have HX:=Lib.hid HX.out.re
   have HN:=Lib.hid hn
   have HB4:=Lib.hid hb4
   clear hn hb4
   refine ⟨HB4.out.blk,?_⟩
   refine AnyS.one (i:=10) (fuel:=1) (by kernel_rfl) ?_
   refine .inl fun y τ n hy=>wpOp_of rfl rfl ?_
   subst hy
   have hx:=HX.out.re
   clear HX
   have hn:=HN.out.re hk
   have hb4:=HB4.out.re
   clear HN HB4
   have hxc : y.cell? ⟨xa,0,none⟩ = some (.int .i64 i):=hx.blk.cell 0
   clear hx
   obtain ⟨i0,hi0,hz0,hz1,hz2⟩:=info_parts Try.infoI
   refine wp_append_own y _ _ 49 rfl y.heap.size 3 i0 (.int .i64 0) 1 8 Try.underlying49 hi0 hz0 hz1 hz2 rfl (by decide) (.slice none 0 0) 0 [] rfl (World.ownsRow_nil _ _ _ _) ⟨xa,0,none⟩ 1 1 [.int .i64 i] rfl rfl ?_ (by simp [Value.oneCell']) (by unfold maxLen; omega) (by omega) (Nat.le_refl _) fun v' u1 h1 h2 h3=>?_
   ·intro j u hu
    cases j with
    | zero=>simp at hu; subst hu; simpa [Addr.add] using hxc
    | succ j=>simp at hu
   clear hxc h3 hi0 hz0 hz1 hz2
   have kg : Kept (fun _=>False) y u1:=(Kept.grown (S:=fun b=>(Value.slice none 0 0).ownBlock = some b) h2 (fun k hk=>hk)).mono fun b hb h=>by simp [Value.ownBlock] at h
   clear h2
   rcases h1 with ⟨h1,⟨-,h2⟩ | ⟨q,qc,cur,rfl,hq,hcur,hqc,hqm,hsz,hcs⟩⟩
   ·omega
   have hown : Own1 (B.on (readY I).inner good) w0 H u1 q 3 cur:=⟨hcur,fun z=>by have:=hn.rep.lt z; omega,by have:=hn.held.size; omega,fun z=>by have:=hn.rlt z; omega⟩
   have hn:=hn.kept kg
   have hb4:=hb4.kept kg
   clear kg
   have HQ:=Lib.hid hown
   clear hown
   have HN:=Lib.hid hn
   have HB4:=Lib.hid hb4
   clear hn hb4
   refine ⟨HB4.out.blk,fun _=>rfl,?_⟩
   simp only [Act.put,List.setIfInBounds_toArray,List.set_cons_zero,List.set_cons_succ]
   refine AnyS.one (i:=11) (fuel:=0) (by kernel_rfl) (.inr ⟨_,57,#[.pointer (some ⟨I.gt,0,none⟩),V,.agg #[.pointer none,.pointer (some ⟨I.gt,0,none⟩)],.slice (some ⟨q,0,none⟩) 1 qc],rfl,rfl,fun y=>by go_simp,(gate_casT hI hk hS' _ _ _ _ _ HN.out hcut HQ.out ⟨hqc,by simp⟩ hqm (fun j hj=>?_) rfl HB4.out k).mono ?_⟩)
   ·have : j = 0:=by simp at hj; exact hj
    subst this
    have:=congrArg (fun l=>l[0]?) hcs
    simpa using this
   rintro vv t' w' ⟨s,H,rfl,rfl,hn,hbx⟩
   clear HN HB4 HQ
   have HN:=Lib.hid hn
   clear hn
   refine ⟨hbx,fun _=>rfl,?_⟩
   simp only [Act.put,List.setIfInBounds_toArray,List.set_cons_zero,List.set_cons_succ]
   refine AnyS.done (by kernel_rfl) ?_ _
   clear hbx
   repeat (first
    | with_reducible refine Lg.mv_seq _ ?_
    | with_reducible refine Lg.mv_skip _ ?_
    | with_reducible refine Lg.mv_block _ ?_
    | with_reducible refine Lg.mv_inBlock _ ?_
    | with_reducible refine Lg.mv_end _ ?_
    | ((with_reducible refine Lg.mv_condT _ ?_ ?_); exact rfl)
    | ((with_reducible refine Lg.mv_condF _ ?_ ?_); exact rfl)
    | ((with_reducible apply Lg.mv_exit); exact rfl)
    | (with_reducible refine Lg.mv_reg _ ?_
       intro K hK y τ n' hy
       subst hy
       have hn:=HN.out.re hk
       clear HN
       have HN:=Lib.hid hn
       clear hn
       go_wp2_with (go_at_call 53; refine (refused_no _ i _ hi).mono ?_; rintro e w' ⟨rfl,hw'⟩; subst hw')
       refine hK _ _ (fun _=>rfl) ?_
       clear hK K))
   with_reducible refine Lg.mv_ret _ ?_
   exact Lg.leave rfl Try.func32 rfl (v:=.int .i64 0) (fun _ _ _ _=>by simp [results,Try.f32]) (HR.out _ _ _ ⟨_,H,rfl,rfl,HN.out⟩)
 ·refine .inl fun y τ n hy=>wpOp_of rfl rfl ?_
  subst hy
  have hn:=HN.out.re hk
  have hb4:=HB4.out.re
  clear HN HB4
  unfold Oper.wp
  go_simp
  have hx:=hn.own 3 #[.int .i64 (i : Int)]
  have hn:=hn.alloc (.cells #[.int .i64 (i : Int)] 3)
  have hb4:=hb4.alloc (.cells #[.int .i64 (i : Int)] 3)
  generalize y.alloc (.cells #[.int .i64 i] 3) = wc at hx hn hb4 ⊢
  obtain ⟨xa,hxa⟩ : ∃ xa,y.heap.size = xa:=⟨_,rfl⟩
  rw [hxa] at hx ⊢
  clear hxa
  have HX:=Lib.hid hx
  clear hx
  have HN:=Lib.hid hn
  have HB4:=Lib.hid hb4
  clear hn hb4
  refine ⟨HB4.out.blk,?_⟩
  refine AnyS.one (i:=6) (by kernel_rfl) ?_
  refine .inl fun y τ n hy=>wpOp_of rfl rfl ?_
  subst hy
  have hn:=HN.out.re hk
  have hb4:=HB4.out.re
  clear HN HB4
  unfold Oper.wp
  go_simp
  refine (held_value_mb (some ⟨I.gt,0,none⟩) none (.slice none 0 0) _ (.inl ⟨rfl,rfl⟩)).mono ?_
  rintro e w7 ⟨rfl,k7⟩
  dsimp only
  have hn:=hn.kept k7
  have hb4:=hb4.kept k7
  have HX:=Lib.hid (HX.out.re.kept k7)
  have HN:=Lib.hid hn
  have HB4:=Lib.hid hb4
  clear hn hb4
  refine ⟨HB4.out.blk,?_⟩
  refine AnyS.one (i:=7) (by kernel_rfl) ?_
  refine .inl fun y τ n hy=>wpOp_of rfl rfl ?_
  subst hy
  have hn:=HN.out.re hk
  have hb4:=HB4.out.re
  clear HN HB4
  unfold Oper.wp
  go_simp
  refine (clone_nil _).mono ?_
  rintro e w7 ⟨rfl,rfl⟩
  dsimp only
  have HX:=Lib.hid HX.out.re
  have HN:=Lib.hid hn
  have HB4:=Lib.hid hb4
  clear hn hb4
  refine ⟨HB4.out.blk,?_⟩
  refine AnyS.one (i:=10) (fuel:=1) (by kernel_rfl) ?_
  refine .inl fun y τ n hy=>wpOp_of rfl rfl ?_
  subst hy
  have hx:=HX.out.re
  clear HX
  have hn:=HN.out.re hk
  have hb4:=HB4.out.re
  clear HN HB4
  have hxc : y.cell? ⟨xa,0,none⟩ = some (.int .i64 i):=hx.blk.cell 0
  clear hx
  obtain ⟨i0,hi0,hz0,hz1,hz2⟩:=info_parts Try.infoI
  refine wp_append_own y _ _ 49 rfl y.heap.size 3 i0 (.int .i64 0) 1 8 Try.underlying49 hi0 hz0 hz1 hz2 rfl (by decide) (.slice none 0 0) 0 [] rfl (World.ownsRow_nil _ _ _ _) ⟨xa,0,none⟩ 1 1 [.int .i64 i] rfl rfl ?_ (by simp [Value.oneCell']) (by unfold maxLen; omega) (by omega) (Nat.le_refl _) fun v' u1 h1 h2 h3=>?_
  ·intro j u hu
   cases j with
   | zero=>simp at hu; subst hu; simpa [Addr.add] using hxc
   | succ j=>simp at hu
  clear hxc h3 hi0 hz0 hz1 hz2
  have kg : Kept (fun _=>False) y u1:=(Kept.grown (S:=fun b=>(Value.slice none 0 0).ownBlock = some b) h2 (fun k hk=>hk)).mono fun b hb h=>by simp [Value.ownBlock] at h
  clear h2
  rcases h1 with ⟨h1,⟨-,h2⟩ | ⟨q,qc,cur,rfl,hq,hcur,hqc,hqm,hsz,hcs⟩⟩
  ·omega
  have hown : Own1 (B.on (readY I).inner good) w0 H u1 q 3 cur:=⟨hcur,fun z=>by have:=hn.rep.lt z; omega,by have:=hn.held.size; omega,fun z=>by have:=hn.rlt z; omega⟩
  have hn:=hn.kept kg
  have hb4:=hb4.kept kg
  clear kg
  have HQ:=Lib.hid hown
  clear hown
  have HN:=Lib.hid hn
  have HB4:=Lib.hid hb4
  clear hn hb4
  refine ⟨HB4.out.blk,fun _=>rfl,?_⟩
  simp only [Act.put,List.setIfInBounds_toArray,List.set_cons_zero,List.set_cons_succ]
  refine AnyS.one (i:=11) (fuel:=0) (by kernel_rfl) (.inr ⟨_,57,#[.pointer (some ⟨I.gt,0,none⟩),V,.agg #[.pointer none,.pointer (some ⟨I.gt,0,none⟩)],.slice (some ⟨q,0,none⟩) 1 qc],rfl,rfl,fun y=>by go_simp,(gate_casT hI hk hS' _ _ _ _ _ HN.out hcut HQ.out ⟨hqc,by simp⟩ hqm (fun j hj=>?_) rfl HB4.out k).mono ?_⟩)
  ·have : j = 0:=by simp at hj; exact hj
   subst this
   have:=congrArg (fun l=>l[0]?) hcs
   simpa using this
  rintro vv t' w' ⟨s,H,rfl,rfl,hn,hbx⟩
  clear HN HB4 HQ
  have HN:=Lib.hid hn
  clear hn
  refine ⟨hbx,fun _=>rfl,?_⟩
  simp only [Act.put,List.setIfInBounds_toArray,List.set_cons_zero,List.set_cons_succ]
  refine AnyS.done (by kernel_rfl) ?_ _
  clear hbx
  repeat (first
   | with_reducible refine Lg.mv_seq _ ?_
   | with_reducible refine Lg.mv_skip _ ?_
   | with_reducible refine Lg.mv_block _ ?_
   | with_reducible refine Lg.mv_inBlock _ ?_
   | with_reducible refine Lg.mv_end _ ?_
   | ((with_reducible refine Lg.mv_condT _ ?_ ?_); exact rfl)
   | ((with_reducible refine Lg.mv_condF _ ?_ ?_); exact rfl)
   | ((with_reducible apply Lg.mv_exit); exact rfl)
   | (with_reducible refine Lg.mv_reg _ ?_
      intro K hK y τ n' hy
      subst hy
      have hn:=HN.out.re hk
      clear HN
      have HN:=Lib.hid hn
      clear hn
      go_wp2_with (go_at_call 53; refine (refused_no _ i _ hi).mono ?_; rintro e w' ⟨rfl,hw'⟩; subst hw')
      refine hK _ _ (fun _=>rfl) ?_
      clear hK K))
  with_reducible refine Lg.mv_ret _ ?_
  exact Lg.leave rfl Try.func32 rfl (v:=.int .i64 0) (fun _ _ _ _=>by simp [results,Try.f32]) (HR.out _ _ _ ⟨_,H,rfl,rfl,HN.out⟩)
open Go.ConcN (upd upd_ne upd_same)
section
variable {I : RIds} (hI : I.Ok)
include hI
theorem r_in {B : OpsB} {good : OpI→Prop} {L : Lg Try.prog (Tree (B.on (readY I).inner good).St (B.on (readY I).inner good).St)} {Cap : (Nat→Prop)→World→Prop} {V : Value} (hk : CapK Cap) (hS : SStep (B.on (readY I).inner good) L Cap 75 V) (hS2 : SStep (B.on (readY I).inner good) L Cap 51 V) : MultiIn (B.on (readY I).inner good) L Cap V rrl rcl rel I.M where
 ring:=(r_ring hI).in_.law hk hS2 hI.n0 hI.n2
 cur:=(r_cur hI).in_.law hk hS
 seen:=(r_seen hI).in_.law hk hS
 rc:=fun s H w hr=>((r_ring hI).in_.at_ s H w hr).r.ring
 blk:=fun s H w hr=>by
  have ha : (readY I).At s.1 w:=hr.at_
  have key : ∀ o v,cellR I s.1 .mu o = some v→w.cell? ⟨I.M.mb,o,none⟩ = some v:=fun o v h=>ha.cell I.M.mb _ _ ((layR_at hI (x:=.mu) trivial s.1 o).trans h)
  exact ⟨key 0 _ rfl,key 1 _ rfl,key 2 _ rfl,key 3 _ rfl⟩
 bd:=fun s H w hr=>by
  have ha : (readY I).At s.1 w:=hr.at_
  exact ⟨ha.ok.c0,ha.ok.c1⟩
 cok:=fun x h0 h1=>⟨h0,h1⟩
 eok:=fun x=>trivial
 n0:=hI.n0
 n2:=hI.n2
 f0:=hI.f0
 f1:=hI.f1
theorem gate_hold {B : OpsB} {good : OpI→Prop} {L : Lg Try.prog (Tree (B.on (readY I).inner good).St (B.on (readY I).inner good).St)} {Cap : (Nat→Prop)→World→Prop} {V : Value} (hcut : ∀ fr mid x,L.T .cut fr mid x) : HoldIn (B.on (readY I).inner good) L Cap V 27 (.pointer (some ⟨I.gt,0,none⟩)) (fun _ _ _=>.cut) where
 law:=⟨108,fun m w=>by kernel_rfl,fun args w=>by kernel_rfl,fun H0 w0 s H w hn c k=>fun b mid hR=>hcut _ _ _⟩
theorem Lay.At.rdc {S : RdS} {w : World} (h : (readY I).At S w) {j : Nat} (hj : j < I.k) : w.cell? ⟨I.rd j,0,none⟩ = some (.pointer (some ⟨I.M.mb,0,none⟩))∧w.cell? ⟨I.rd j,1,none⟩ = some (.pointer (some ⟨I.gt,0,none⟩))∧w.cell? ⟨I.rd j,2,none⟩ = some (.int .i64 j)∧w.cell? ⟨I.rd j,3,none⟩ = some (.bool (S.rj j))∧w.cell? ⟨I.rd j,4,none⟩ = some (.int .i64 (S.rn j)):=by
 have key : ∀ o v,cellR I S (.rd j) o = some v→w.cell? ⟨I.rd j,o,none⟩ = some v:=fun o v hv=>h.cell _ _ _ ((layR_at hI (x:=.rd j) hj S o).trans hv)
 exact ⟨key 0 _ rfl,key 1 _ rfl,key 2 _ rfl,key 3 _ rfl,key 4 _ rfl⟩
theorem Lay.At.foc {S : RdS} {w : World} (h : (readY I).At S w) {j : Nat} (hj : j < I.k) : w.cell? ⟨I.fo j,0,none⟩ = some (.pointer (some ⟨I.M.mb,0,none⟩))∧w.cell? ⟨I.fo j,1,none⟩ = some (.int .i64 (S.fn j)):=by
 have key : ∀ o v,cellR I S (.fo j) o = some v→w.cell? ⟨I.fo j,o,none⟩ = some v:=fun o v hv=>h.cell _ _ _ ((layR_at hI (x:=.fo j) hj S o).trans hv)
 exact ⟨key 0 _ rfl,key 1 _ rfl⟩
theorem Lay.At.rdz {S : RdS} {w : World} (h : (readY I).At S w) {j : Nat} (hj : j < I.k) (o : Nat) : w.frozen? ⟨I.rd j,o,none⟩ = false:=h.free ⟨.rd j,hj,rfl⟩ o
theorem Lay.At.foz {S : RdS} {w : World} (h : (readY I).At S w) {j : Nat} (hj : j < I.k) (o : Nat) : w.frozen? ⟨I.fo j,o,none⟩ = false:=h.free ⟨.fo j,hj,rfl⟩ o
def RFix (I : RIds) (j : Nat) (w : World) : Prop:=w.cell? ⟨I.rd j,0,none⟩ = some (.pointer (some ⟨I.M.mb,0,none⟩))∧w.cell? ⟨I.rd j,1,none⟩ = some (.pointer (some ⟨I.gt,0,none⟩))∧w.cell? ⟨I.rd j,2,none⟩ = some (.int .i64 j)
theorem r_fix {B : OpsB} {good : OpI→Prop} {s : RSS} {H : Nat→Prop} {w : World} (h : RepO (B.on (readY I).inner good) s H w) {j : Nat} (hj : j < I.k) : RFix I j w:=by
 obtain ⟨h0,h1,h2,-⟩:=Lay.At.rdc hI (show (readY I).At s.1 w from h.at_) hj
 exact ⟨h0,h1,h2⟩
theorem r_rn {B : OpsB} {good : OpI→Prop} {s : RSS} {H : Nat→Prop} {w : World} (h : RepO (B.on (readY I).inner good) s H w) {j : Nat} (hj : j < I.k) (x : Int) (h0 : 0≤x) (h1 : x≤4611686018427387904) :
  RepO (B.on (readY I).inner good) ({ s.1 with rn:=upd s.1.rn j x },s.2) H (w.setCell ⟨I.rd j,4,none⟩ (.int .i64 x))∧Held H w H (w.setCell ⟨I.rd j,4,none⟩ (.int .i64 x)):=by
 have ha : (readY I).At s.1 w:=h.at_
 refine lay_set h (t_rn hI hj s.1 x) ⟨ha.ok.c0,ha.ok.c1,fun i=>?_,ha.ok.fn⟩ fun G hG hb=>box_set rfl (fun z=>by have:=z.2; omega) G hG hb
 show 0≤upd s.1.rn j x i∧_
 by_cases e : i = j
 ·subst e; simp only [upd_same]; exact ⟨h0,h1⟩
 ·simp only [upd_ne _ _ e]; exact ha.ok.rn i
theorem r_fn {B : OpsB} {good : OpI→Prop} {s : RSS} {H : Nat→Prop} {w : World} (h : RepO (B.on (readY I).inner good) s H w) {j : Nat} (hj : j < I.k) (x : Int) (h0 : 0≤x) (h1 : x≤4611686018427387904) :
  RepO (B.on (readY I).inner good) ({ s.1 with fn:=upd s.1.fn j x },s.2) H (w.setCell ⟨I.fo j,1,none⟩ (.int .i64 x))∧Held H w H (w.setCell ⟨I.fo j,1,none⟩ (.int .i64 x)):=by
 have ha : (readY I).At s.1 w:=h.at_
 refine lay_set h (t_fn hI hj s.1 x) ⟨ha.ok.c0,ha.ok.c1,ha.ok.rn,fun i=>?_⟩ fun G hG hb=>box_set rfl (fun z=>by have:=z.2; omega) G hG hb
 show 0≤upd s.1.fn j x i∧_
 by_cases e : i = j
 ·subst e; simp only [upd_same]; exact ⟨h0,h1⟩
 ·simp only [upd_ne _ _ e]; exact ha.ok.fn i
theorem r_rj {B : OpsB} {good : OpI→Prop} {s : RSS} {H : Nat→Prop} {w : World} (h : RepO (B.on (readY I).inner good) s H w) {j : Nat} (hj : j < I.k) (x : Bool) :
  RepO (B.on (readY I).inner good) ({ s.1 with rj:=fun i=>if i = j then x else s.1.rj i },s.2) H (w.setCell ⟨I.rd j,3,none⟩ (.bool x))∧Held H w H (w.setCell ⟨I.rd j,3,none⟩ (.bool x)):=by
 have ha : (readY I).At s.1 w:=h.at_
 exact lay_set h (t_rj hI hj s.1 x) ⟨ha.ok.c0,ha.ok.c1,ha.ok.rn,ha.ok.fn⟩ fun G hG hb=>box_set rfl (fun z=>by have:=z.2; omega) G hG hb
def joinS (j : Nat) (x : Int) (s : RSS) : RSS:=({ s.1 with rj:=fun i=>if i = j then true else s.1.rj i,rn:=upd s.1.rn j x },s.2)
theorem r_joins {B : OpsB} {good : OpI→Prop} {s : RSS} {H : Nat→Prop} {w : World} (h : RepO (B.on (readY I).inner good) s H w) {j : Nat} (hj : j < I.k) (x : Int) (h0 : 0≤x) (h1 : x≤4611686018427387904) :
  RepO (B.on (readY I).inner good) (joinS j x s) H ((w.setCell ⟨I.rd j,3,none⟩ (.bool true)).setCell ⟨I.rd j,4,none⟩ (.int .i64 x))∧Held H w H ((w.setCell ⟨I.rd j,3,none⟩ (.bool true)).setCell ⟨I.rd j,4,none⟩ (.int .i64 x)):=by
 have ha:=r_rj hI h hj true
 have hb:=r_rn hI ha.1 hj x h0 h1
 exact ⟨hb.1,ha.2.trans hb.2⟩
end
end Go.Proofs.Ytlhbonnminlnlaa
namespace Go.Proofs.Ytlhbonnminlnlaa
open Go.RowKit Go.Turn Go.Tame Go.Conc
open Go.ConcN (upd upd_ne upd_same)
def rjoinT (j : Nat) (s : RSS) (k : Int→Int→RSS→Tree RSS RSS) : Tree RSS RSS:=
 if s.1.rj j then k 0 7 s else loadW rcl s fun x s=>gjoinT j x s fun s=>loadW rcl s fun y s=>gsetT j y s fun s=>k (y + 1) 0 (joinS j (y + 1) s)
set_option maxHeartbeats 4000000 in
set_option maxRecDepth 100000 in
theorem reader_joinT {I : RIds} (hI : I.Ok) {B : OpsB} {good : OpI→Prop} {L : Lg Try.prog (Tree RSS RSS)} {Cap : (Nat→Prop)→World→Prop} {V : Value} (hk : CapK Cap) (hS : SStep (B.on (readY I).inner good) L Cap 75 V) (hS2 : SStep (B.on (readY I).inner good) L Cap 51 V) (hS3 : SStep (B.on (readY I).inner good) L Cap 59 V) (H0 : Nat→Prop) (w0 : World) (s : RSS) (H : Nat→Prop) (w : World) (hn : Now (B.on (readY I).inner good) Cap H0 w0 s H w) (hcut : ∀ fr mid x,L.T .cut fr mid x) (j : Nat) (hj : j < I.k) (k : Int→Int→RSS→Tree RSS RSS) :
  Ccalls L 13 #[.pointer (some ⟨I.rd j,0,none⟩),V] (rjoinT j s k) w fun u t' w'=>∃ n e s' H',u = .tuple #[.int .i64 n,.int .i64 e]∧t' = k n e s'∧Now (B.on (readY I).inner good) Cap H0 w0 s' H' w':=by
 have R:=r_in hI hk hS hS2
 have hj64 : j < 64:=by have:=hI.k64; omega
 intro c mid hR
 have HR:=Lib.hid hR
 have HN:=Lib.hid hn
 clear hR hn
 rw [show Frame.enter Try.prog 13 #[.pointer (some ⟨I.rd j,0,none⟩),V] .normal = Frame.at { (default : Frame) with fn:=13,kind:=.normal } ⟨#[.pointer (some ⟨I.rd j,0,none⟩),V] ++ Array.replicate (Try.f13.ntmps - 2) undef,[]⟩ [.code (Try.f13.body.getD .skip)] from by simp [Frame.enter,Frame.at,Try.func13]; rfl]
 simp only [Try.f13,Option.getD_some,Nat.reduceSub,Array.replicate_succ,Array.replicate_zero,List.push_toArray,List.append_toArray,List.nil_append,List.cons_append]
 unfold rjoinT
 by_cases hrj : s.1.rj j = true
 ·rw [if_pos hrj]
  repeat (first
   | with_reducible refine Lg.mv_seq _ ?_
   | with_reducible refine Lg.mv_skip _ ?_
   | with_reducible refine Lg.mv_block _ ?_
   | with_reducible refine Lg.mv_inBlock _ ?_
   | with_reducible refine Lg.mv_end _ ?_
   | ((with_reducible refine Lg.mv_condT _ ?_ ?_); exact rfl)
   | ((with_reducible refine Lg.mv_condF _ ?_ ?_); exact rfl)
   | ((with_reducible apply Lg.mv_exit); exact rfl)
   | (with_reducible refine Lg.mv_reg _ ?_
      intro K hK y τ n' hy
      subst hy
      have hn:=HN.out.re hk
      clear HN
      have HN:=Lib.hid hn
      clear hn
      obtain ⟨d0,d1,d2,d3,d4⟩:=Lay.At.rdc hI (show (readY I).At s.1 _ from HN.out.rep.at_) hj
      simp only [hrj] at d3
      go_wp2
      refine hK _ _ (fun _=>rfl) ?_
      clear hK K d0 d1 d2 d3 d4))
  with_reducible refine Lg.mv_ret _ ?_
  exact Lg.leave rfl Try.func13 rfl (v:=.tuple #[.int .i64 0,.int .i64 7]) (fun _ _ _ _=>by simp [results,Try.f13]) (HR.out _ _ _ ⟨0,7,s,H,rfl,rfl,HN.out⟩)
 rw [if_neg hrj]
 repeat (first
  | with_reducible refine Lg.mv_seq _ ?_
  | with_reducible refine Lg.mv_skip _ ?_
  | with_reducible refine Lg.mv_block _ ?_
  | with_reducible refine Lg.mv_inBlock _ ?_
  | with_reducible refine Lg.mv_end _ ?_
  | ((with_reducible refine Lg.mv_condT _ ?_ ?_); exact rfl)
  | ((with_reducible refine Lg.mv_condF _ ?_ ?_); exact rfl)
  | ((with_reducible apply Lg.mv_exit); exact rfl)
  | (with_reducible refine Lg.mv_reg _ ?_
     intro K hK y τ n' hy
     subst hy
     have hn:=HN.out.re hk
     clear HN
     have HN:=Lib.hid hn
     clear hn
     obtain ⟨d0,d1,d2,d3,d4⟩:=Lay.At.rdc hI (show (readY I).At s.1 _ from HN.out.rep.at_) hj
     simp only [hrj] at d3
     go_wp2
     refine hK _ _ (fun _=>rfl) ?_
     clear hK K d0 d1 d2 d3 d4))
 refine Lg.anyS (RFix I j) (by kernel_rfl) ?_
 simp only [List.size_toArray,List.length_cons,List.length_nil,Nat.reduceAdd]
 refine any_readS (i:=0) (fuel:=16) (some 23) rfl rfl (fun _ _ _ h=>h) (fun _ _ _ _ _=>(Lg.re_iff _).1) (by kernel_rfl) (by kernel_rfl) (by kernel_rfl) rfl (r_fix hI HN.out.rep hj) rfl ?_
 apply Exists.intro
 refine ⟨fun wq hw=>?_,?_⟩
 ·obtain ⟨hw0,hw1,hw2⟩:=hw
  go_simp
  rfl
 simp only [Act.put,List.setIfInBounds_toArray,List.set_cons_zero,List.set_cons_succ]
 refine any_readS (i:=1) (fuel:=15) (some 24) rfl rfl (fun _ _ _ h=>h) (fun _ _ _ _ _=>(Lg.re_iff _).1) (by kernel_rfl) (by kernel_rfl) (by kernel_rfl) rfl (r_fix hI HN.out.rep hj) rfl ?_
 apply Exists.intro
 refine ⟨fun wq hw=>?_,?_⟩
 ·obtain ⟨hw0,hw1,hw2⟩:=hw
  go_simp
  rfl
 simp only [Act.put,List.setIfInBounds_toArray,List.set_cons_zero,List.set_cons_succ]
 refine any_readS (i:=2) (fuel:=14) (some 25) rfl rfl (fun _ _ _ h=>h) (fun _ _ _ _ _=>(Lg.re_iff _).1) (by kernel_rfl) (by kernel_rfl) (by kernel_rfl) rfl (r_fix hI HN.out.rep hj) rfl ?_
 apply Exists.intro
 refine ⟨fun wq hw=>?_,?_⟩
 ·obtain ⟨hw0,hw1,hw2⟩:=hw
  go_simp
  rfl
 simp only [Act.put,List.setIfInBounds_toArray,List.set_cons_zero,List.set_cons_succ]
 refine any_readS (i:=3) (fuel:=13) (some 26) rfl rfl (fun _ _ _ h=>h) (fun _ _ _ _ _=>(Lg.re_iff _).1) (by kernel_rfl) (by kernel_rfl) (by kernel_rfl) rfl (r_fix hI HN.out.rep hj) rfl ?_
 apply Exists.intro
 refine ⟨fun wq hw=>?_,?_⟩
 ·obtain ⟨hw0,hw1,hw2⟩:=hw
  go_simp
  rfl
 simp only [Act.put,List.setIfInBounds_toArray,List.set_cons_zero,List.set_cons_succ]
 refine any_readS (i:=4) (fuel:=12) (some 27) rfl rfl (fun _ _ _ h=>h) (fun _ _ _ _ _=>(Lg.re_iff _).1) (by kernel_rfl) (by kernel_rfl) (by kernel_rfl) rfl (r_fix hI HN.out.rep hj) rfl ?_
 apply Exists.intro
 refine ⟨fun wq hw=>?_,?_⟩
 ·obtain ⟨hw0,hw1,hw2⟩:=hw
  go_simp
  rfl
 simp only [Act.put,List.setIfInBounds_toArray,List.set_cons_zero,List.set_cons_succ]
 refine any_readS (i:=5) (fuel:=11) (some 28) rfl rfl (fun _ _ _ h=>h) (fun _ _ _ _ _=>(Lg.re_iff _).1) (by kernel_rfl) (by kernel_rfl) (by kernel_rfl) rfl (r_fix hI HN.out.rep hj) rfl ?_
 apply Exists.intro
 refine ⟨fun wq hw=>?_,?_⟩
 ·obtain ⟨hw0,hw1,hw2⟩:=hw
  go_simp
  rfl
 simp only [Act.put,List.setIfInBounds_toArray,List.set_cons_zero,List.set_cons_succ]
 refine any_readS (i:=6) (fuel:=10) (some 29) rfl rfl (fun _ _ _ h=>h) (fun _ _ _ _ _=>(Lg.re_iff _).1) (by kernel_rfl) (by kernel_rfl) (by kernel_rfl) rfl (r_fix hI HN.out.rep hj) rfl ?_
 apply Exists.intro
 refine ⟨fun wq hw=>?_,?_⟩
 ·obtain ⟨hw0,hw1,hw2⟩:=hw
  go_simp
  rfl
 simp only [Act.put,List.setIfInBounds_toArray,List.set_cons_zero,List.set_cons_succ]
 refine any_readS (i:=7) (fuel:=9) (some 30) rfl rfl (fun _ _ _ h=>h) (fun _ _ _ _ _=>(Lg.re_iff _).1) (by kernel_rfl) (by kernel_rfl) (by kernel_rfl) rfl (r_fix hI HN.out.rep hj) rfl ?_
 apply Exists.intro
 refine ⟨fun wq hw=>?_,?_⟩
 ·obtain ⟨hw0,hw1,hw2⟩:=hw
  go_simp
  rfl
 simp only [Act.put,List.setIfInBounds_toArray,List.set_cons_zero,List.set_cons_succ]
 refine any_readS (i:=8) (fuel:=8) (some 31) rfl rfl (fun _ _ _ h=>h) (fun _ _ _ _ _=>(Lg.re_iff _).1) (by kernel_rfl) (by kernel_rfl) (by kernel_rfl) rfl (r_fix hI HN.out.rep hj) rfl ?_
 apply Exists.intro
 refine ⟨fun wq hw=>?_,?_⟩
 ·obtain ⟨hw0,hw1,hw2⟩:=hw
  go_simp
  rfl
 simp only [Act.put,List.setIfInBounds_toArray,List.set_cons_zero,List.set_cons_succ]
 refine any_readS (i:=9) (fuel:=7) (some 32) rfl rfl (fun _ _ _ h=>h) (fun _ _ _ _ _=>(Lg.re_iff _).1) (by kernel_rfl) (by kernel_rfl) (by kernel_rfl) rfl (r_fix hI HN.out.rep hj) rfl ?_
 apply Exists.intro
 refine ⟨fun wq hw=>?_,?_⟩
 ·obtain ⟨hw0,hw1,hw2⟩:=hw
  go_simp
  rfl
 simp only [Act.put,List.setIfInBounds_toArray,List.set_cons_zero,List.set_cons_succ]
 refine any_readS (i:=10) (fuel:=6) (some 33) rfl rfl (fun _ _ _ h=>h) (fun _ _ _ _ _=>(Lg.re_iff _).1) (by kernel_rfl) (by kernel_rfl) (by kernel_rfl) rfl (r_fix hI HN.out.rep hj) rfl ?_
 apply Exists.intro
 refine ⟨fun wq hw=>?_,?_⟩
 ·obtain ⟨hw0,hw1,hw2⟩:=hw
  go_simp
  rfl
 simp only [Act.put,List.setIfInBounds_toArray,List.set_cons_zero,List.set_cons_succ]
 refine any_readS (i:=11) (fuel:=5) (some 34) rfl rfl (fun _ _ _ h=>h) (fun _ _ _ _ _=>(Lg.re_iff _).1) (by kernel_rfl) (by kernel_rfl) (by kernel_rfl) rfl (r_fix hI HN.out.rep hj) rfl ?_
 apply Exists.intro
 refine ⟨fun wq hw=>?_,?_⟩
 ·obtain ⟨hw0,hw1,hw2⟩:=hw
  go_simp
  rfl
 simp only [Act.put,List.setIfInBounds_toArray,List.set_cons_zero,List.set_cons_succ]
 refine any_readS (i:=12) (fuel:=4) (some 35) rfl rfl (fun _ _ _ h=>h) (fun _ _ _ _ _=>(Lg.re_iff _).1) (by kernel_rfl) (by kernel_rfl) (by kernel_rfl) rfl (r_fix hI HN.out.rep hj) rfl ?_
 apply Exists.intro
 refine ⟨fun wq hw=>?_,?_⟩
 ·obtain ⟨hw0,hw1,hw2⟩:=hw
  go_simp
  rfl
 simp only [Act.put,List.setIfInBounds_toArray,List.set_cons_zero,List.set_cons_succ]
 refine any_readS (i:=13) (fuel:=3) (some 36) rfl rfl (fun _ _ _ h=>h) (fun _ _ _ _ _=>(Lg.re_iff _).1) (by kernel_rfl) (by kernel_rfl) (by kernel_rfl) rfl (r_fix hI HN.out.rep hj) rfl ?_
 apply Exists.intro
 refine ⟨fun wq hw=>?_,?_⟩
 ·obtain ⟨hw0,hw1,hw2⟩:=hw
  go_simp
  rfl
 simp only [Act.put,List.setIfInBounds_toArray,List.set_cons_zero,List.set_cons_succ]
 refine AnyS.one (i:=14) (fuel:=2) (by kernel_rfl) (.inr ⟨_,29,#[.pointer (some ⟨I.M.mb,0,none⟩),V],rfl,rfl,fun y=>by go_simp,(multi_cursorT R hk _ _ _ _ _ HN.out _).mono ?_⟩)
 rintro vv t' w' ⟨x,s,H,rfl,rfl,hn⟩
 clear HN
 have HN:=Lib.hid hn
 clear hn
 refine ⟨r_fix hI HN.out.rep hj,fun _=>rfl,?_⟩
 simp only [Act.put,List.setIfInBounds_toArray,List.set_cons_zero,List.set_cons_succ]
 refine AnyS.one (i:=15) (fuel:=1) (by kernel_rfl) (.inr ⟨_,32,#[.pointer (some ⟨I.gt,0,none⟩),V,.int .i64 j,.int .i64 x],rfl,rfl,fun y=>by go_simp,(gate_joinT hI hk hS3 hS _ _ _ _ _ HN.out hcut j hj64 x _).mono ?_⟩)
 rintro vv t' w' ⟨s,H,rfl,rfl,hn⟩
 clear HN
 have HN:=Lib.hid hn
 clear hn
 refine ⟨r_fix hI HN.out.rep hj,fun _=>rfl,?_⟩
 simp only [Act.put,List.setIfInBounds_toArray,List.set_cons_zero,List.set_cons_succ]
 refine AnyS.one (i:=16) (fuel:=0) (by kernel_rfl) (.inl fun y τ n hy=>wpOp_of rfl rfl ?_)
 subst hy
 have hn:=HN.out.re hk
 clear HN
 have HN:=Lib.hid hn
 clear hn
 unfold Oper.wp
 go_simp
 refine ⟨r_fix hI HN.out.rep hj,by kernel_rfl,?_⟩
 refine (show L.T _ _ _ _ from ?_)
 repeat (first
  | with_reducible refine Lg.mv_seq _ ?_
  | with_reducible refine Lg.mv_skip _ ?_
  | with_reducible refine Lg.mv_block _ ?_
  | with_reducible refine Lg.mv_inBlock _ ?_
  | with_reducible refine Lg.mv_end _ ?_
  | ((with_reducible refine Lg.mv_condT _ ?_ ?_); exact rfl)
  | ((with_reducible refine Lg.mv_condF _ ?_ ?_); exact rfl)
  | ((with_reducible apply Lg.mv_exit); exact rfl)
  | (with_reducible refine Lg.mv_reg _ ?_
     intro K hK y τ n' hy
     subst hy
     have hn:=HN.out.re hk
     clear HN
     have HN:=Lib.hid hn
     clear hn
     obtain ⟨d0,d1,d2,d3,d4⟩:=Lay.At.rdc hI (show (readY I).At s.1 _ from HN.out.rep.at_) hj
     go_wp2
     refine hK _ _ (fun _=>rfl) ?_
     clear hK K d0 d1 d2 d3 d4))
 with_reducible refine Lg.mv_region _ ?_
 refine Lg.pre 0 5 2 (by simp) fun K hK y τ n' hy=>?_
 subst hy
 have hn:=HN.out.re hk
 clear HN
 have HN:=Lib.hid hn
 clear hn
 obtain ⟨d0,d1,d2,d3,d4⟩:=Lay.At.rdc hI (show (readY I).At s.1 _ from HN.out.rep.at_) hj
 simp only [List.drop_zero,List.take_succ_cons,List.take_zero]
 go_wp2
 refine hK _ _ (fun _=>rfl) ?_
 clear hK K d0 d1 d2 d3 d4
 refine Lg.call (i:=5) (rest:=[6]) (f:=29) (args:=#[.pointer (some ⟨I.M.mb,0,none⟩),V]) rfl rfl (fun y=>by go_simp) (multi_cursorX R hk _ _ _ _ _ HN.out _) ?_
 rintro vv t' w' ⟨z,s,H,rfl,hz,rfl,hn⟩
 have hzb:=R.bd _ _ _ hn.rep
 rw [← hz] at hzb
 clear HN hz
 have HZ:=Lib.hid hzb
 clear hzb
 rw [Frame.finish_at]
 walk_nrm
 have HN:=Lib.hid hn
 clear hn
 refine (show L.T _ (Frame.at _ ⟨_,[]⟩ (.inRegion _ (List.range' 6 (1 + 0)) :: _)) (c :: mid) _ from ?_)
 refine Lg.pre 6 1 0 (by simp) fun K hK y τ n' hy=>?_
 subst hy
 have hn:=HN.out.re hk
 clear HN
 have HN:=Lib.hid hn
 clear hn
 obtain ⟨d0,d1,d2,d3,d4⟩:=Lay.At.rdc hI (show (readY I).At s.1 _ from HN.out.rep.at_) hj
 simp only [List.drop_succ_cons,List.drop_zero,List.take_succ_cons,List.take_zero]
 go_wp2
 refine hK _ _ (fun _=>rfl) ?_
 clear hK K d0 d1 d2 d3 d4
 refine Lg.move _ (fun _ _=>step_region_end) (fun h=>h) ?_
 with_reducible refine Lg.mv_seq _ ?_
 refine Lg.anyS (RFix I j) (by kernel_rfl) ?_
 simp only [List.size_toArray,List.length_cons,List.length_nil,Nat.reduceAdd]
 refine any_readS (i:=0) (fuel:=10) (some 48) rfl rfl (fun _ _ _ h=>h) (fun _ _ _ _ _=>(Lg.re_iff _).1) (by kernel_rfl) (by kernel_rfl) (by kernel_rfl) rfl (r_fix hI HN.out.rep hj) rfl ?_
 apply Exists.intro
 refine ⟨fun wq hw=>?_,?_⟩
 ·obtain ⟨hw0,hw1,hw2⟩:=hw
  go_simp
  rfl
 simp only [Act.put,List.setIfInBounds_toArray,List.set_cons_zero,List.set_cons_succ]
 refine any_readS (i:=1) (fuel:=9) (some 49) rfl rfl (fun _ _ _ h=>h) (fun _ _ _ _ _=>(Lg.re_iff _).1) (by kernel_rfl) (by kernel_rfl) (by kernel_rfl) rfl (r_fix hI HN.out.rep hj) rfl ?_
 apply Exists.intro
 refine ⟨fun wq hw=>?_,?_⟩
 ·obtain ⟨hw0,hw1,hw2⟩:=hw
  go_simp
  rfl
 simp only [Act.put,List.setIfInBounds_toArray,List.set_cons_zero,List.set_cons_succ]
 refine any_readS (i:=2) (fuel:=8) (some 50) rfl rfl (fun _ _ _ h=>h) (fun _ _ _ _ _=>(Lg.re_iff _).1) (by kernel_rfl) (by kernel_rfl) (by kernel_rfl) rfl (r_fix hI HN.out.rep hj) rfl ?_
 apply Exists.intro
 refine ⟨fun wq hw=>?_,?_⟩
 ·obtain ⟨hw0,hw1,hw2⟩:=hw
  go_simp
  rfl
 simp only [Act.put,List.setIfInBounds_toArray,List.set_cons_zero,List.set_cons_succ]
 refine any_readS (i:=3) (fuel:=7) (some 51) rfl rfl (fun _ _ _ h=>h) (fun _ _ _ _ _=>(Lg.re_iff _).1) (by kernel_rfl) (by kernel_rfl) (by kernel_rfl) rfl (r_fix hI HN.out.rep hj) rfl ?_
 apply Exists.intro
 refine ⟨fun wq hw=>?_,?_⟩
 ·obtain ⟨hw0,hw1,hw2⟩:=hw
  go_simp
  rfl
 simp only [Act.put,List.setIfInBounds_toArray,List.set_cons_zero,List.set_cons_succ]
 refine any_readS (i:=4) (fuel:=6) (some 52) rfl rfl (fun _ _ _ h=>h) (fun _ _ _ _ _=>(Lg.re_iff _).1) (by kernel_rfl) (by kernel_rfl) (by kernel_rfl) rfl (r_fix hI HN.out.rep hj) rfl ?_
 apply Exists.intro
 refine ⟨fun wq hw=>?_,?_⟩
 ·obtain ⟨hw0,hw1,hw2⟩:=hw
  go_simp
  rfl
 simp only [Act.put,List.setIfInBounds_toArray,List.set_cons_zero,List.set_cons_succ]
 refine any_readS (i:=5) (fuel:=5) (some 53) rfl rfl (fun _ _ _ h=>h) (fun _ _ _ _ _=>(Lg.re_iff _).1) (by kernel_rfl) (by kernel_rfl) (by kernel_rfl) rfl (r_fix hI HN.out.rep hj) rfl ?_
 apply Exists.intro
 refine ⟨fun wq hw=>?_,?_⟩
 ·obtain ⟨hw0,hw1,hw2⟩:=hw
  go_simp
  rfl
 simp only [Act.put,List.setIfInBounds_toArray,List.set_cons_zero,List.set_cons_succ]
 refine any_readS (i:=6) (fuel:=4) (some 54) rfl rfl (fun _ _ _ h=>h) (fun _ _ _ _ _=>(Lg.re_iff _).1) (by kernel_rfl) (by kernel_rfl) (by kernel_rfl) rfl (r_fix hI HN.out.rep hj) rfl ?_
 apply Exists.intro
 refine ⟨fun wq hw=>?_,?_⟩
 ·obtain ⟨hw0,hw1,hw2⟩:=hw
  go_simp
  rfl
 simp only [Act.put,List.setIfInBounds_toArray,List.set_cons_zero,List.set_cons_succ]
 refine any_readS (i:=7) (fuel:=3) (some 55) rfl rfl (fun _ _ _ h=>h) (fun _ _ _ _ _=>(Lg.re_iff _).1) (by kernel_rfl) (by kernel_rfl) (by kernel_rfl) rfl (r_fix hI HN.out.rep hj) rfl ?_
 apply Exists.intro
 refine ⟨fun wq hw=>?_,?_⟩
 ·obtain ⟨hw0,hw1,hw2⟩:=hw
  go_simp
  rfl
 simp only [Act.put,List.setIfInBounds_toArray,List.set_cons_zero,List.set_cons_succ]
 refine any_readS (i:=8) (fuel:=2) (some 56) rfl rfl (fun _ _ _ h=>h) (fun _ _ _ _ _=>(Lg.re_iff _).1) (by kernel_rfl) (by kernel_rfl) (by kernel_rfl) rfl (r_fix hI HN.out.rep hj) rfl ?_
 apply Exists.intro
 refine ⟨fun wq hw=>?_,?_⟩
 ·obtain ⟨hw0,hw1,hw2⟩:=hw
  go_simp
  rfl
 simp only [Act.put,List.setIfInBounds_toArray,List.set_cons_zero,List.set_cons_succ]
 refine any_readS (i:=9) (fuel:=1) (some 57) rfl rfl (fun _ _ _ h=>h) (fun _ _ _ _ _=>(Lg.re_iff _).1) (by kernel_rfl) (by kernel_rfl) (by kernel_rfl) rfl (r_fix hI HN.out.rep hj) rfl ?_
 apply Exists.intro
 refine ⟨fun wq hw=>?_,?_⟩
 ·obtain ⟨hw0,hw1,hw2⟩:=hw
  go_simp
  rfl
 simp only [Act.put,List.setIfInBounds_toArray,List.set_cons_zero,List.set_cons_succ]
 refine AnyS.one (i:=10) (fuel:=0) (by kernel_rfl) (.inr ⟨_,33,#[.pointer (some ⟨I.gt,0,none⟩),V,.int .i64 j,.int .i64 z],rfl,rfl,fun y=>by go_simp,(gate_setT hI hk hS3 _ _ _ _ _ HN.out j hj64 z _).mono ?_⟩)
 rintro vv t' w' ⟨s,H,rfl,rfl,hn⟩
 clear HN
 have HN:=Lib.hid hn
 clear hn
 refine ⟨r_fix hI HN.out.rep hj,fun _=>rfl,?_⟩
 simp only [Act.put,List.setIfInBounds_toArray,List.set_cons_zero,List.set_cons_succ]
 refine AnyS.done (by kernel_rfl) ?_ _
 refine (show L.T _ _ _ _ from ?_)
 with_reducible refine Lg.mv_seq _ ?_
 have hz1 : -9223372036854775808≤z + 1:=by have:=HZ.out; omega
 have hz2 : z + 1 < 9223372036854775808:=by have:=HZ.out; omega
 with_reducible refine Lg.mv_reg _ ?_
 intro K hK y τ n' hy
 subst hy
 have hn:=HN.out.re hk
 clear HN
 have HN:=Lib.hid hn
 clear hn
 obtain ⟨d0,d1,d2,d3,d4⟩:=Lay.At.rdc hI (show (readY I).At s.1 _ from HN.out.rep.at_) hj
 have q3:=Lay.At.rdz hI (show (readY I).At s.1 _ from HN.out.rep.at_) hj 3
 have q4:=Lay.At.rdz hI (show (readY I).At s.1 _ from HN.out.rep.at_) hj 4
 have HS:=Lib.hid (r_joins hI HN.out.rep hj (z + 1) (by have:=HZ.out; omega) (by have:=HZ.out; omega))
 go_wp2
 refine hK _ _ (fun _=>rfl) ?_
 clear hK K d0 d1 d2 d3 d4 q3 q4
 have hn:=HN.out.to hk HS.out
 clear HS HN
 generalize World.setCell _ _ _ = y' at hn ⊢
 have HN:=Lib.hid hn
 clear hn
 with_reducible refine Lg.mv_seq _ ?_
 with_reducible refine Lg.mv_reg _ ?_
 intro K hK y τ n' hy
 subst hy
 have hn:=HN.out.re hk
 clear HN
 obtain ⟨d0,d1,d2,d3,d4⟩:=Lay.At.rdc hI (show (readY I).At (joinS j (z + 1) s).1 _ from hn.rep.at_) hj
 rw [show (joinS j (z + 1) s).1.rn j = z + 1 from upd_same _ _ _] at d4
 have HN:=Lib.hid hn
 clear hn
 go_wp2
 refine hK _ _ (fun _=>rfl) ?_
 clear hK K d0 d1 d2 d3 d4
 with_reducible refine Lg.mv_ret _ ?_
 exact Lg.leave rfl Try.func13 rfl (v:=.tuple #[.int .i64 (z + 1),.int .i64 0]) (fun _ _ _ _=>by simp [results,Try.f13]) (HR.out _ _ _ ⟨z + 1,0,_,H,rfl,rfl,HN.out⟩)
end Go.Proofs.Ytlhbonnminlnlaa
namespace Go.Turn
open Go.Conc Go.Tame
section
variable {P : Program} {κ : Type} {L : Lg P κ} {md : Region.Mode} {ops : Array Oper} {h : Nat} {S : World→Prop} {Q : κ→Act→World→Prop}
def AnyV (L : Lg P κ) (md : Region.Mode) (ops : Array Oper) (h : Nat) (S : World→Prop) (Q : κ→Act→World→Prop) : Nat→Array Bool→κ→Act→World→Prop
 | 0,listed,t,a,w=>Region.ready md ops listed = []∧Q t a w
 | f + 1,listed,t,a,w=>(Region.ready md ops listed = []→Q t a w)∧∀ i ∈ Region.ready md ops listed,LOp L ops i (fun t' a' w'=>((listed.setIfInBounds i true).getD h true = false→S w')∧(L.strict→a'.defers = [])∧AnyV L md ops h S Q f (listed.setIfInBounds i true) t' a' w') t a w
theorem AnyV.re (hQ : ∀ t a y τ n,Q t a (World.re y τ n)→Q t a y) {t : κ} {a : Act} {w : World} {τ : Nat→Question→Nat} {n : Nat} : ∀ {f : Nat} {listed : Array Bool},AnyV L md ops h S Q f listed t a (w.re τ n)→AnyV L md ops h S Q f listed t a w
 | 0,_,h=>⟨h.1,hQ _ _ _ _ _ h.2⟩
 | f + 1,_,h=>⟨fun z=>hQ _ _ _ _ _ (h.1 z),fun i hi=>(h.2 i hi).re⟩
def desc (md : Region.Mode) (ops : Array Oper) (i : Nat) : List Nat:=(List.range ops.size).foldl (fun T t=>match ops[t]? with | some o=>if o.after.any (fun e=>Region.binds md e && (e.on == i || T.contains e.on)) then t :: T else T | none=>T) []
def behindOk (md : Region.Mode) (ops : Array Oper) (listed : Array Bool) (i : Nat) (T : List Nat) : Bool:=
 T.all fun t=>!listed.getD t true && match ops[t]? with
  | some o=>o.after.any fun e=>Region.binds md e && (e.on == i || T.contains e.on)
  | none=>false
theorem getD_swap {l : Array Bool} {i : Nat} (h : l.getD i true = false) : l.getD i false = false:=by
 rcases Nat.lt_or_ge i l.size with h' | h'
 ·simp [h'] at h ⊢; exact h
 ·simp [Array.getElem?_eq_none h'] at h
theorem any_firstV {i : Nat} {oi : Oper} {v : Value} (T : List Nat) (hT : h ∈ T) (hi : ops[i]? = some oi) (hsel : ∀ (j : Nat) (o : Oper) cs b,ops[j]? = some o→o.op≠.select cs b) (hre : ∀ y τ n,S (World.re y τ n)→S y) (hQ : ∀ t a y τ n,Q t a (World.re y τ n)→Q t a y) :
  ∀ (fuel : Nat) (listed : Array Bool) (t : κ) (a : Act) (w : World),
    (∀ j oj,ops[j]? = some oj→j≠i→listed.getD j true = false→(∀ e ∈ oj.after,Region.binds md e = true→e.on≠i)→oi.apart ops oj = true) →
    behindOk md ops listed i T = true →
    i ∈ Region.ready md ops listed→YieldsIf P ops S oi v a→S w→(L.strict→a.defers = []) →
    AnyV L md ops h S Q fuel (listed.setIfInBounds i true) t (a.put oi.dst v) w→AnyV L md ops h S Q (fuel + 1) listed t a w:=by
 intro fuel
 have here : ∀ (f : Nat) (listed : Array Bool) (t : κ) (a : Act) (w : World),YieldsIf P ops S oi v a→S w→(L.strict→a.defers = [])→AnyV L md ops h S Q f (listed.setIfInBounds i true) t (a.put oi.dst v) w→LOp L ops i (fun t' a' w'=>((listed.setIfInBounds i true).getD h true = false→S w')∧(L.strict→a'.defers = [])∧AnyV L md ops h S Q f (listed.setIfInBounds i true) t' a' w') t a w:=fun f listed t a w hy hS hd H=>.inl fun y τ n hw=>by
  subst hw
  exact hy.wpOp hi (hre _ _ _ hS) ⟨fun _=>hre _ _ _ hS,fun z=>(put_defers _ _ _).trans (hd z),H.re hQ⟩
 induction fuel with
 | zero =>
   intro listed t a w _ _ hr hy hS hd H
   refine ⟨fun h=>(by rw [h] at hr; cases hr),fun j hj=>?_⟩
   by_cases hji : j = i
   ·subst hji; exact here _ _ _ _ _ hy hS hd H
   ·have:=ready_mono hj hji
    rw [H.1] at this
    cases this
 | succ fuel ih =>
   intro listed t a w hfree hB hr hy hS hd H
   refine ⟨fun h=>(by rw [h] at hr; cases hr),fun j hj=>?_⟩
   by_cases hji : j = i
   ·subst hji; exact here _ _ _ _ _ hy hS hd H
   ·have h1:=H.2 j (ready_mono hj hji)
    obtain ⟨hjun,oj,hoj,hall⟩:=mem_ready.1 hj
    have h0i:=(mem_ready.1 hr).1
    have hnot : ∀ e ∈ oj.after,Region.binds md e = true→e.on≠i:=fun e he hb heq=>by
     have h1:=hall e he hb
     rw [heq,getD_swap h0i] at h1
     cases h1
    have hTj : j ∉ T:=fun hm=>by
     have h2:=List.all_eq_true.1 hB j hm
     simp only [hoj,Bool.and_eq_true,Array.any_eq_true',Bool.or_eq_true,beq_iff_eq,List.contains_iff_mem] at h2
     obtain ⟨_,e,he,hb,hx⟩:=h2
     rcases hx with hx | hx
     ·exact hnot e he hb hx
     ·have h3:=List.all_eq_true.1 hB e.on hx
      simp only [Bool.and_eq_true,Bool.not_eq_true'] at h3
      have h4:=hall e he hb
      rw [getD_swap h3.1] at h4
      cases h4
    have hB' : behindOk md ops (listed.setIfInBounds j true) i T = true:=by
     refine List.all_eq_true.2 fun t ht=>?_
     have h2:=List.all_eq_true.1 hB t ht
     simp only [Bool.and_eq_true,Bool.not_eq_true'] at h2 ⊢
     exact ⟨by rw [getD_set_ne true (show ¬ j = t from fun e=>hTj (by rw [e]; exact ht))]; exact h2.1,h2.2⟩
    have hhj : ((listed.setIfInBounds i true).setIfInBounds j true).getD h true = false:=by
     have h2:=List.all_eq_true.1 hB h hT
     simp only [Bool.and_eq_true,Bool.not_eq_true'] at h2
     have hhi : i≠h:=fun e=>by
      subst e
      have h3:=h2.2
      cases ho : ops[i]? with
      | none=>rw [ho] at h3; cases h3
      | some o =>
        rw [ho] at h3
        simp only [Array.any_eq_true',Bool.and_eq_true,Bool.or_eq_true,beq_iff_eq,List.contains_iff_mem] at h3
        obtain ⟨e,he,hb,hx⟩:=h3
        obtain ⟨_,o',ho',hall'⟩:=mem_ready.1 hr
        rw [ho] at ho'
        cases ho'
        have h4:=hall' e he hb
        rcases hx with hx | hx
        ·rw [hx,getD_swap h0i] at h4; cases h4
        ·have h5:=List.all_eq_true.1 hB e.on hx
         simp only [Bool.and_eq_true,Bool.not_eq_true'] at h5
         rw [getD_swap h5.1] at h4; cases h4
     rw [getD_set_ne true (show ¬ j = h from fun e=>hTj (by rw [e]; exact hT)),getD_set_ne true hhi]
     exact h2.1
    have h2:=lop_put hoj (hfree j oj hoj hji hjun hnot) (fun cs b=>hsel i oi cs b hi) (fun cs b=>hsel j oj cs b hoj) hy h1
    have hfree' : ∀ k ok,ops[k]? = some ok→k≠i→(listed.setIfInBounds j true).getD k true = false →
      (∀ e ∈ ok.after,Region.binds md e = true→e.on≠i)→oi.apart ops ok = true:=fun k ok hk hki hun hno=>by
     refine hfree k ok hk hki ?_ hno
     by_cases hjk : j = k
     ·subst hjk; exact hjun
     ·rw [getD_set_ne true hjk] at hun; exact hun
    refine h2.mono fun t' a' w' h3=>⟨fun _=>h3.2.1 hhj,fun z=>(put_defers _ _ _).symm.trans (h3.2.2.1 z),ih (listed.setIfInBounds j true) t' a' w' hfree' hB' (ready_mono hr (Ne.symm hji)) h3.1 (h3.2.1 hhj) (fun z=>(put_defers _ _ _).symm.trans (h3.2.2.1 z)) ?_⟩
    rw [Array.setIfInBounds_comm _ _ hji]
    exact h3.2.2.2
theorem any_readV {i : Nat} {oi : Oper} {fuel : Nat} {listed : Array Bool} {t : κ} {a : Act} {w : World} (T : List Nat) (d : Option Tmp) (hi : ops[i]? = some oi) (hd : oi.dst = d) (hT : h ∈ T) (hre : ∀ y τ n,S (World.re y τ n)→S y) (hQ : ∀ t a y τ n,Q t a (World.re y τ n)→Q t a y)
  (hs : Region.noSelect ops = true) (hf : Region.free md ops listed i = true) (hb : behindOk md ops listed i T = true) (hr : (Region.ready md ops listed).contains i = true) (hg : Region.wanted oi (yielded ops a.tmps) = true) (hS : S w) (hdf : a.defers = [])
  (hv : ∃ v,(∀ wq,S wq→(execOp a.eval oi).run P wq = .ok (.value v) wq)∧AnyV L md ops h S Q fuel (listed.setIfInBounds i true) t (a.put d v) w) : AnyV L md ops h S Q (fuel + 1) listed t a w:=by
 obtain ⟨v,h1,h2⟩:=hv
 subst hd
 exact any_firstV T hT hi (Region.noSelect_spec hs) hre hQ fuel listed t a w (Region.free_spec hi hf) hb (by simpa using hr) (.inl ⟨hg,h1⟩) hS (fun _=>hdf) h2
theorem any_readD {i : Nat} {oi : Oper} {fuel : Nat} {listed : Array Bool} {t : κ} {a : Act} {w : World} (d : Option Tmp) (hi : ops[i]? = some oi) (hd : oi.dst = d) (hre : ∀ y τ n,S (World.re y τ n)→S y) (hQ : ∀ t a y τ n,Q t a (World.re y τ n)→Q t a y)
  (hs : Region.noSelect ops = true) (hf : Region.free md ops listed i = true) (hb : ((desc md ops i).contains h && behindOk md ops listed i (desc md ops i)) = true) (hr : (Region.ready md ops listed).contains i = true) (hg : Region.wanted oi (yielded ops a.tmps) = true) (hS : S w) (hdf : a.defers = [])
  (hv : ∃ v,(∀ wq,S wq→(execOp a.eval oi).run P wq = .ok (.value v) wq)∧AnyV L md ops h S Q fuel (listed.setIfInBounds i true) t (a.put d v) w) : AnyV L md ops h S Q (fuel + 1) listed t a w:=
 any_readV (desc md ops i) d hi hd (by simpa using (Bool.and_eq_true_iff.1 hb).1) hre hQ hs hf (Bool.and_eq_true_iff.1 hb).2 hr hg hS hdf hv
theorem AnyV.all {rs : List Nat} {fuel : Nat} {listed : Array Bool} {t : κ} {a : Act} {w : World} (hr : Region.ready md ops listed = rs) (hne : rs≠[])
  (hh : ∀ i ∈ rs,LOp L ops i (fun t' a' w'=>((listed.setIfInBounds i true).getD h true = false→S w')∧(L.strict→a'.defers = [])∧AnyV L md ops h S Q fuel (listed.setIfInBounds i true) t' a' w') t a w) : AnyV L md ops h S Q (fuel + 1) listed t a w:=
 ⟨fun h0=>absurd (hr ▸ h0) hne,hr ▸ hh⟩
theorem AnyV.one {i : Nat} {fuel : Nat} {listed : Array Bool} {t : κ} {a : Act} {w : World} (hr : Region.ready md ops listed = [i])
  (hh : LOp L ops i (fun t' a' w'=>((listed.setIfInBounds i true).getD h true = false→S w')∧(L.strict→a'.defers = [])∧AnyV L md ops h S Q fuel (listed.setIfInBounds i true) t' a' w') t a w) : AnyV L md ops h S Q (fuel + 1) listed t a w:=
 AnyV.all hr (by simp) fun j hj=>by simp only [List.mem_singleton] at hj; subst hj; exact hh
theorem AnyV.done {listed : Array Bool} {t : κ} {a : Act} {w : World} (hr : Region.ready md ops listed = []) (h' : Q t a w) : ∀ fuel,AnyV L md ops h S Q fuel listed t a w
 | 0=>⟨hr,h'⟩
 | _ + 1=>⟨fun _=>h',by rw [hr]; simp⟩
theorem any_soundV {b : Frame} {k : List Item} {mid : List Frame} : ∀ (f tt : Nat) (listed : Array Bool) (t : κ) (a : Act) (w : World),AnyV L md ops h S (fun t a w=>L.T t (b.at a k) mid w) f listed t a w →
  L.T t (b.at a (.inRegion ops (Region.linearise.go md ops f tt listed []) :: k)) mid w
 | 0,tt,listed,t,a,w,h=>L.move (fun _ _=>step_region_end) (fun h=>h) h.2
 | f + 1,tt,listed,t,a,w,h=>by
   simp only [Region.linearise.go]
   change L.T t (b.at a (.inRegion ops (match (Region.ready md ops listed)[tt % (Region.ready md ops listed).length]? with
    | some i=>Region.linearise.go md ops f (tt / (Region.ready md ops listed).length) (listed.setIfInBounds i true) [i]
    | none=>[].reverse) :: k)) mid w
   cases hi : (Region.ready md ops listed)[tt % (Region.ready md ops listed).length]? with
   | none =>
     have hnil : Region.ready md ops listed = []:=by
      cases hr : Region.ready md ops listed with
      | nil=>rfl
      | cons x xs =>
        rw [hr] at hi
        have hlt : tt % (x :: xs).length < (x :: xs).length:=Nat.mod_lt _ (by simp)
        simp at hi
        simp at hlt
        omega
     exact L.move (fun _ _=>step_region_end) (fun h=>h) (h.1 hnil)
   | some i =>
     simp only []
     rw [linearise_go_acc,List.reverse_singleton,List.singleton_append]
     exact (h.2 i (List.mem_of_getElem? hi)).goS fun t' a' w' h'=>⟨h'.2.1,any_soundV f _ _ _ _ _ h'.2.2⟩
theorem Lg.anyV (h : Nat) (S : World→Prop) {b : Frame} {k : List Item} {mid : List Frame} {id : Nat} {t : κ} {a : Act} {w : World} (hm : P.follows .mixedOrders = true)
  (hh : AnyV L .any ops h S (fun t a w=>L.T t (b.at a k) mid w) ops.size (Array.replicate ops.size false) t a w) : L.T t (b.at a (.code (.region id ops true) :: k)) mid w:=by
 refine L.steps fun y τ n hy=>?_
 subst hy
 have hst:=step_region_draw (P:=P) (b:=b) (a:=a) (k:=k) (cs:=mid ++ L.tail) (w:=y) (ops:=ops) (id:=id)
 rw [show ∀ tt,Region.schedule (P.follows .mixedOrders) ops tt = Region.linearise.go .any ops ops.size tt (Array.replicate ops.size false) [] from fun tt=>by simp [Region.schedule,hm,Region.linearise]] at hst
 refine ⟨_,mid,_,.one hst,fun _ hn=>⟨hn.top,hn.below⟩,?_⟩
 have:=any_soundV ops.size (y.tape y.drawn (.order b.fn id)) _ t a _ hh
 exact (L.re_iff (τ:=y.tape) (n:=y.drawn + 1)).2 (L.re_iff.1 this)
end
end Go.Turn
namespace Go.Proofs.Ytlhbonnminlnlaa
open Go.RowKit Go.Turn Go.Tame Go.Conc
open Go.ConcN (upd upd_ne upd_same)
theorem Try.infoI64 : (Try.prog.info? 2).map (fun i=>(i.zero,i.size,i.bytes)) = some (some (.int .i64 0),1,8):=by kernel_rfl
def getsT (n : Nat) : Nat→Int→List Int→RSS→(Option (List Int)→RSS→Tree RSS RSS)→Tree RSS RSS
 | 0,q,all,s,k=>k (some all) s
 | m + 1,q,all,s,k=>getG rrl n q s fun v e s=>if e = 0 then getsT n m (q + 1) (all ++ [v]) s k else k none s
def rread3 (n j : Nat) (q e : Int) (s : RSS) (k : List Int→Int→RSS→Tree RSS RSS) : Tree RSS RSS:=
 getsT n (e + 1 - q).toNat q [] s fun all s=>match all with
  | none=>k [] 10 s
  | some all=>gsetT j e s fun s=>k all 0 ({ s.1 with rn:=upd s.1.rn j (e + 1) },s.2)
def rread2 (n j : Nat) (q b : Int) (s : RSS) (k : List Int→Int→RSS→Tree RSS RSS) : Tree RSS RSS:=
 highG rrl n q b s fun e s=>if s.1.rn j = q∧(e < q∨e≤b) then (if e < q then k [] 4 s else rread3 n j q e s k) else .cut
def rreadT (n j : Nat) (most : Int) (s : RSS) (k : List Int→Int→RSS→Tree RSS RSS) : Tree RSS RSS:=
 if s.1.rj j = true then loadW rcl s fun c s=>rread2 n j (s.1.rn j) (min c (s.1.rn j + min (max most 1) n - 1)) s k else k [] 6 s
theorem joinedC (r : Nat) (b : Bool) (w : World) (h : w.cell? ⟨r,3,none⟩ = some (.bool b)) : Calls Try.prog 18 #[.pointer (some ⟨r,0,none⟩)] w fun e w'=>e = .returned (.bool b)∧w = w':=by
 go_enter Try.func18,Try.ntmps18
 go_wp2
 go_ret
 exact ⟨rfl,rfl⟩
theorem multi_ringM (m r : Nat) (w : World) (h : w.cell? ⟨m,0,none⟩ = some (.pointer (some ⟨r,0,none⟩))) : Calls Try.prog 30 #[.pointer (some ⟨m,0,none⟩)] w fun e w'=>e = .returned (.pointer (some ⟨r,0,none⟩))∧w = w':=by
 go_enter Try.func30,Try.ntmps30
 go_wp2_with (go_at_call 45; refine (multi_noM _ _ _ h).mono ?_; rintro e w' ⟨rfl,rfl⟩)
 go_ret
 exact ⟨rfl,rfl⟩
def RFix4 (I : RIds) (j : Nat) (q : Int) (w : World) : Prop:=w.cell? ⟨I.rd j,0,none⟩ = some (.pointer (some ⟨I.M.mb,0,none⟩))∧w.cell? ⟨I.rd j,4,none⟩ = some (.int .i64 q)∧w.cell? ⟨I.M.mb,0,none⟩ = some (.pointer (some ⟨I.M.rb,0,none⟩))
abbrev frR (f : Nat→Value) : Array Value:=#[f 0,f 1,f 2,f 3,f 4,f 5,f 6,f 7,f 8,f 9,f 10,f 11,f 12,f 13,f 14,f 15,f 16,f 17,f 18,f 19,f 20,f 21,f 22,f 23,f 24,f 25,f 26,f 27,f 28,f 29,f 30,f 31,f 32,f 33,f 34,f 35,f 36,f 37,f 38,f 39,f 40,f 41,f 42,f 43,f 44,f 45,f 46,f 47,f 48,f 49,f 50,f 51,f 52,f 53,f 54,f 55,f 56,f 57,f 58,f 59,f 60,f 61,f 62,f 63,f 64,f 65,f 66,f 67,f 68,f 69,f 70,f 71,f 72,f 73,f 74,f 75,f 76,f 77,f 78,f 79,f 80,f 81,f 82,f 83,f 84,f 85,f 86,f 87,f 88,f 89,f 90,f 91,f 92,f 93,f 94,f 95,f 96,f 97,f 98,f 99,f 100]
set_option maxHeartbeats 4000000 in
set_option maxRecDepth 100000 in
theorem reader_readT {I : RIds} (hI : I.Ok) {B : OpsB} {good : OpI→Prop} {L : Lg Try.prog (Tree RSS RSS)} {Cap : (Nat→Prop)→World→Prop} {V : Value} (hk : CapK Cap) (hS : SStep (B.on (readY I).inner good) L Cap 75 V) (hS2 : SStep (B.on (readY I).inner good) L Cap 51 V) (hS3 : SStep (B.on (readY I).inner good) L Cap 59 V) (H0 : Nat→Prop) (w0 : World) (s : RSS) (H : Nat→Prop) (w : World) (hn : Now (B.on (readY I).inner good) Cap H0 w0 s H w) (hcut : ∀ fr mid x,L.T .cut fr mid x) (j : Nat) (hj : j < I.k) (most : Int) (hm0 : -9223372036854775808≤most) (hm1 : most < 9223372036854775808) (k : List Int→Int→RSS→Tree RSS RSS) :
  Ccalls L 14 #[.pointer (some ⟨I.rd j,0,none⟩),V,.int .i64 most] (rreadT I.M.n j most s k) w fun u t' w'=>∃ ls e lv s' H',u = .tuple #[lv,.int .i64 e]∧t' = k ls e s'∧Now (B.on (readY I).inner good) Cap H0 w0 s' H' w'∧OutRow (B.on (readY I).inner good) w0 H' w' lv ls:=by
 have R:=r_in hI hk hS hS2
 have hn0:=hI.n0
 have hn2:=hI.n2
 have hj64 : j < 64:=by have:=hI.k64; omega
 intro c mid hR
 have HR:=Lib.hid hR
 have HN:=Lib.hid hn
 clear hR hn
 rw [show Frame.enter Try.prog 14 #[.pointer (some ⟨I.rd j,0,none⟩),V,.int .i64 most] .normal = Frame.at { (default : Frame) with fn:=14,kind:=.normal } ⟨#[.pointer (some ⟨I.rd j,0,none⟩),V,.int .i64 most] ++ Array.replicate (Try.f14.ntmps - 3) undef,[]⟩ [.code (Try.f14.body.getD .skip)] from by simp [Frame.enter,Frame.at,Try.func14]; rfl]
 simp only [Try.f14,Option.getD_some,Nat.reduceSub,Array.replicate_succ,Array.replicate_zero,List.push_toArray,List.append_toArray,List.nil_append,List.cons_append]
 unfold rreadT
 by_cases hrj : s.1.rj j = true
 rotate_left
 ·rw [if_neg hrj]
  repeat (first
   | with_reducible refine Lg.mv_seq _ ?_
   | with_reducible refine Lg.mv_skip _ ?_
   | with_reducible refine Lg.mv_block _ ?_
   | with_reducible refine Lg.mv_inBlock _ ?_
   | with_reducible refine Lg.mv_end _ ?_
   | ((with_reducible refine Lg.mv_condT _ ?_ ?_); exact rfl)
   | ((with_reducible refine Lg.mv_condF _ ?_ ?_); exact rfl)
   | ((with_reducible apply Lg.mv_exit); exact rfl)
   | (with_reducible refine Lg.mv_reg _ ?_
      intro K hK y τ n' hy
      subst hy
      have hn:=HN.out.re hk
      clear HN
      have HN:=Lib.hid hn
      clear hn
      obtain ⟨d0,d1,d2,d3,d4⟩:=Lay.At.rdc hI (show (readY I).At s.1 _ from HN.out.rep.at_) hj
      simp only [hrj] at d3
      have hr0:=R.rc _ _ _ HN.out.rep
      obtain ⟨b0,-⟩:=R.blk _ _ _ HN.out.rep
      go_wp2_with (first | (go_at_call 18; refine (joinedC _ _ _ d3).mono ?_; rintro e w' ⟨rfl,hw'⟩; subst hw') | (go_at_call 28; refine (multi_sizeM _ _ _ _ _ _ b0 hr0).mono ?_; rintro e w' ⟨rfl,hw'⟩; subst hw') | (go_at_call 30; refine (multi_ringM _ _ _ b0).mono ?_; rintro e w' ⟨rfl,hw'⟩; subst hw'))
      refine hK _ _ (fun _=>rfl) ?_
      clear hK K d0 d1 d2 d3 d4 hr0 b0))
  with_reducible refine Lg.mv_ret _ ?_
  exact Lg.leave rfl Try.func14 rfl (v:=.tuple #[.slice none 0 0,.int .i64 6]) (fun _ _ _ _=>by simp [results,Try.f14]) (HR.out _ _ _ ⟨[],6,_,s,H,rfl,rfl,HN.out,OutRow.nil⟩)
 rw [if_pos hrj]
 obtain ⟨X1,e1⟩ : ∃ X1,(if most < 1 then 1 else most) = X1:=⟨_,rfl⟩
 obtain ⟨X2,e2⟩ : ∃ X2,(if (I.M.n : Int) < X1 then (I.M.n : Int) else X1) = X2:=⟨_,rfl⟩
 have e0 : (if (I.M.n : Int) < 1 then 1 else (I.M.n : Int)) = I.M.n:=if_neg (by omega)
 obtain ⟨x0,x1,x2⟩ : 1≤X2∧X2≤I.M.n∧min (max most 1) I.M.n = X2:=by
  rw [← e2,← e1]
  split <;> split <;> omega
 have HX2:=Lib.hid x2
 clear x2
 repeat (first
  | with_reducible refine Lg.mv_seq _ ?_
  | with_reducible refine Lg.mv_skip _ ?_
  | with_reducible refine Lg.mv_block _ ?_
  | with_reducible refine Lg.mv_inBlock _ ?_
  | with_reducible refine Lg.mv_end _ ?_
  | ((with_reducible refine Lg.mv_condT _ ?_ ?_); exact rfl)
  | ((with_reducible refine Lg.mv_condF _ ?_ ?_); exact rfl)
  | ((with_reducible apply Lg.mv_exit); exact rfl)
  | (with_reducible refine Lg.mv_reg _ ?_
     intro K hK y τ n' hy
     subst hy
     have hn:=HN.out.re hk
     clear HN
     have HN:=Lib.hid hn
     clear hn
     obtain ⟨d0,d1,d2,d3,d4⟩:=Lay.At.rdc hI (show (readY I).At s.1 _ from HN.out.rep.at_) hj
     simp only [hrj] at d3
     have hr0:=R.rc _ _ _ HN.out.rep
     obtain ⟨b0,-⟩:=R.blk _ _ _ HN.out.rep
     go_wp2_with (first | (go_at_call 18; refine (joinedC _ _ _ d3).mono ?_; rintro e w' ⟨rfl,hw'⟩; subst hw') | (go_at_call 28; refine (multi_sizeM _ _ _ _ _ _ b0 hr0).mono ?_; rintro e w' ⟨rfl,hw'⟩; subst hw') | (go_at_call 30; refine (multi_ringM _ _ _ b0).mono ?_; rintro e w' ⟨rfl,hw'⟩; subst hw'))
     refine hK _ _ (fun _=>rfl) ?_
     clear hK K d0 d1 d2 d3 d4 hr0 b0))
 clear e0 e1 e2
 rw [HX2.out]
 clear HX2
 with_reducible refine Lg.mv_region _ ?_
 refine Lg.pre 0 5 2 (by simp) fun K hK y τ n' hy=>?_
 subst hy
 have hn:=HN.out.re hk
 clear HN
 have HN:=Lib.hid hn
 clear hn
 obtain ⟨d0,d1,d2,d3,d4⟩:=Lay.At.rdc hI (show (readY I).At s.1 _ from HN.out.rep.at_) hj
 simp only [List.drop_zero,List.take_succ_cons,List.take_zero]
 go_wp2
 refine hK _ _ (fun _=>rfl) ?_
 clear hK K d0 d1 d2 d3 d4
 refine Lg.call (i:=5) (rest:=[6]) (f:=29) (args:=#[.pointer (some ⟨I.M.mb,0,none⟩),V]) rfl rfl (fun y=>by go_simp) (multi_cursorX R hk _ _ _ _ _ HN.out _) ?_
 rintro vv t' w' ⟨z,s,H,rfl,hz,rfl,hn⟩
 have hzb:=R.bd _ _ _ hn.rep
 rw [← hz] at hzb
 clear HN hz hrj
 rw [Frame.finish_at]
 walk_nrm
 have HN:=Lib.hid hn
 clear hn
 refine (show L.T _ (Frame.at _ ⟨_,[]⟩ (.inRegion _ (List.range' 6 (1 + 0)) :: _)) (c :: mid) _ from ?_)
 refine Lg.pre 6 1 0 (by simp) fun K hK y τ n' hy=>?_
 subst hy
 have hn:=HN.out.re hk
 clear HN
 have HN:=Lib.hid hn
 clear hn
 obtain ⟨d0,d1,d2,d3,d4⟩:=Lay.At.rdc hI (show (readY I).At s.1 _ from HN.out.rep.at_) hj
 simp only [List.drop_succ_cons,List.drop_zero,List.take_succ_cons,List.take_zero]
 go_wp2
 refine hK _ _ (fun _=>rfl) ?_
 clear hK K d0 d1 d2 d3 d4
 refine Lg.move _ (fun _ _=>step_region_end) (fun h=>h) ?_
 obtain ⟨q,hq⟩ : ∃ q,s.1.rn j = q:=⟨_,rfl⟩
 have hqb:=(show (readY I).At s.1 _ from HN.out.rep.at_).ok.rn j
 rw [hq] at hqb ⊢
 obtain ⟨hz0,hz1⟩:=hzb
 obtain ⟨hq0,hq1⟩:=hqb
 have e3 : (if q + X2 - 1 < z then q + X2 - 1 else z) = min z (q + X2 - 1):=by split <;> omega
 have HE3:=Lib.hid e3
 clear e3
 have HQ:=Lib.hid hq
 clear hq
 with_reducible refine Lg.mv_seq _ ?_
 have HF4 : RowKit.Hid (RFix4 I j q _):=Lib.hid ⟨(Lay.At.rdc hI (show (readY I).At s.1 _ from HN.out.rep.at_) hj).1,HQ.out ▸ (Lay.At.rdc hI (show (readY I).At s.1 _ from HN.out.rep.at_) hj).2.2.2.2,(R.blk _ _ _ HN.out.rep).1⟩
 refine Lg.anyV 19 (RFix4 I j q) (by kernel_rfl) ?_
 simp only [List.size_toArray,List.length_cons,List.length_nil,Nat.reduceAdd]
 refine any_readD (i:=0) (fuel:=20) (some 32) rfl rfl (fun _ _ _ h=>h) (fun _ _ _ _ _=>(Lg.re_iff _).1) (by kernel_rfl) (by kernel_rfl) (by kernel_rfl) (by kernel_rfl) rfl HF4.out rfl ?_
 apply Exists.intro
 refine ⟨fun wq hw=>?_,?_⟩
 ·obtain ⟨hw0,hw1,hw2⟩:=hw
  go_simp
  rfl
 simp only [Act.put,List.setIfInBounds_toArray,List.set_cons_zero,List.set_cons_succ]
 refine any_readD (i:=1) (fuel:=19) (some 33) rfl rfl (fun _ _ _ h=>h) (fun _ _ _ _ _=>(Lg.re_iff _).1) (by kernel_rfl) (by kernel_rfl) (by kernel_rfl) (by kernel_rfl) rfl HF4.out rfl ?_
 apply Exists.intro
 refine ⟨fun wq hw=>?_,?_⟩
 ·obtain ⟨hw0,hw1,hw2⟩:=hw
  go_simp
  rfl
 simp only [Act.put,List.setIfInBounds_toArray,List.set_cons_zero,List.set_cons_succ]
 refine any_readD (i:=2) (fuel:=18) (some 34) rfl rfl (fun _ _ _ h=>h) (fun _ _ _ _ _=>(Lg.re_iff _).1) (by kernel_rfl) (by kernel_rfl) (by kernel_rfl) (by kernel_rfl) rfl HF4.out rfl ?_
 apply Exists.intro
 refine ⟨fun wq hw=>?_,?_⟩
 ·obtain ⟨hw0,hw1,hw2⟩:=hw
  go_simp
  rfl
 simp only [Act.put,List.setIfInBounds_toArray,List.set_cons_zero,List.set_cons_succ]
 refine any_readD (i:=3) (fuel:=17) (some 35) rfl rfl (fun _ _ _ h=>h) (fun _ _ _ _ _=>(Lg.re_iff _).1) (by kernel_rfl) (by kernel_rfl) (by kernel_rfl) (by kernel_rfl) rfl HF4.out rfl ?_
 apply Exists.intro
 refine ⟨fun wq hw=>?_,?_⟩
 ·obtain ⟨hw0,hw1,hw2⟩:=hw
  go_simp
  rfl
 simp only [Act.put,List.setIfInBounds_toArray,List.set_cons_zero,List.set_cons_succ]
 refine any_readD (i:=5) (fuel:=16) (some 37) rfl rfl (fun _ _ _ h=>h) (fun _ _ _ _ _=>(Lg.re_iff _).1) (by kernel_rfl) (by kernel_rfl) (by kernel_rfl) (by kernel_rfl) rfl HF4.out rfl ?_
 apply Exists.intro
 refine ⟨fun wq hw=>?_,?_⟩
 ·obtain ⟨hw0,hw1,hw2⟩:=hw
  go_simp
  rfl
 simp only [Act.put,List.setIfInBounds_toArray,List.set_cons_zero,List.set_cons_succ]
 refine any_readD (i:=6) (fuel:=15) (some 38) rfl rfl (fun _ _ _ h=>h) (fun _ _ _ _ _=>(Lg.re_iff _).1) (by kernel_rfl) (by kernel_rfl) (by kernel_rfl) (by kernel_rfl) rfl HF4.out rfl ?_
 apply Exists.intro
 refine ⟨fun wq hw=>?_,?_⟩
 ·obtain ⟨hw0,hw1,hw2⟩:=hw
  go_simp
  rfl
 simp only [Act.put,List.setIfInBounds_toArray,List.set_cons_zero,List.set_cons_succ]
 refine any_readD (i:=7) (fuel:=14) (some 39) rfl rfl (fun _ _ _ h=>h) (fun _ _ _ _ _=>(Lg.re_iff _).1) (by kernel_rfl) (by kernel_rfl) (by kernel_rfl) (by kernel_rfl) rfl HF4.out rfl ?_
 apply Exists.intro
 refine ⟨fun wq hw=>?_,?_⟩
 ·obtain ⟨hw0,hw1,hw2⟩:=hw
  go_simp
  rfl
 simp only [Act.put,List.setIfInBounds_toArray,List.set_cons_zero,List.set_cons_succ]
 refine any_readD (i:=8) (fuel:=13) (some 40) rfl rfl (fun _ _ _ h=>h) (fun _ _ _ _ _=>(Lg.re_iff _).1) (by kernel_rfl) (by kernel_rfl) (by kernel_rfl) (by kernel_rfl) rfl HF4.out rfl ?_
 apply Exists.intro
 refine ⟨fun wq hw=>?_,?_⟩
 ·obtain ⟨hw0,hw1,hw2⟩:=hw
  go_simp
  rfl
 simp only [Act.put,List.setIfInBounds_toArray,List.set_cons_zero,List.set_cons_succ]
 refine any_readD (i:=9) (fuel:=12) (some 41) rfl rfl (fun _ _ _ h=>h) (fun _ _ _ _ _=>(Lg.re_iff _).1) (by kernel_rfl) (by kernel_rfl) (by kernel_rfl) (by kernel_rfl) rfl HF4.out rfl ?_
 apply Exists.intro
 refine ⟨fun wq hw=>?_,?_⟩
 ·obtain ⟨hw0,hw1,hw2⟩:=hw
  go_simp
  rfl
 simp only [Act.put,List.setIfInBounds_toArray,List.set_cons_zero,List.set_cons_succ]
 refine any_readD (i:=10) (fuel:=11) (some 42) rfl rfl (fun _ _ _ h=>h) (fun _ _ _ _ _=>(Lg.re_iff _).1) (by kernel_rfl) (by kernel_rfl) (by kernel_rfl) (by kernel_rfl) rfl HF4.out rfl ?_
 apply Exists.intro
 refine ⟨fun wq hw=>?_,?_⟩
 ·obtain ⟨hw0,hw1,hw2⟩:=hw
  go_simp
  rfl
 simp only [Act.put,List.setIfInBounds_toArray,List.set_cons_zero,List.set_cons_succ]
 refine any_readD (i:=11) (fuel:=10) (some 43) rfl rfl (fun _ _ _ h=>h) (fun _ _ _ _ _=>(Lg.re_iff _).1) (by kernel_rfl) (by kernel_rfl) (by kernel_rfl) (by kernel_rfl) rfl HF4.out rfl ?_
 apply Exists.intro
 refine ⟨fun wq hw=>?_,?_⟩
 ·obtain ⟨hw0,hw1,hw2⟩:=hw
  go_simp
  rfl
 simp only [Act.put,List.setIfInBounds_toArray,List.set_cons_zero,List.set_cons_succ]
 refine any_readD (i:=12) (fuel:=9) (some 44) rfl rfl (fun _ _ _ h=>h) (fun _ _ _ _ _=>(Lg.re_iff _).1) (by kernel_rfl) (by kernel_rfl) (by kernel_rfl) (by kernel_rfl) rfl HF4.out rfl ?_
 apply Exists.intro
 refine ⟨fun wq hw=>?_,?_⟩
 ·obtain ⟨hw0,hw1,hw2⟩:=hw
  go_simp
  rfl
 simp only [Act.put,List.setIfInBounds_toArray,List.set_cons_zero,List.set_cons_succ]
 refine any_readD (i:=13) (fuel:=8) (some 45) rfl rfl (fun _ _ _ h=>h) (fun _ _ _ _ _=>(Lg.re_iff _).1) (by kernel_rfl) (by kernel_rfl) (by kernel_rfl) (by kernel_rfl) rfl HF4.out rfl ?_
 apply Exists.intro
 refine ⟨fun wq hw=>?_,?_⟩
 ·obtain ⟨hw0,hw1,hw2⟩:=hw
  go_simp
  rfl
 simp only [Act.put,List.setIfInBounds_toArray,List.set_cons_zero,List.set_cons_succ]
 refine any_readD (i:=14) (fuel:=7) (some 46) rfl rfl (fun _ _ _ h=>h) (fun _ _ _ _ _=>(Lg.re_iff _).1) (by kernel_rfl) (by kernel_rfl) (by kernel_rfl) (by kernel_rfl) rfl HF4.out rfl ?_
 apply Exists.intro
 refine ⟨fun wq hw=>?_,?_⟩
 ·obtain ⟨hw0,hw1,hw2⟩:=hw
  go_simp
  rfl
 simp only [Act.put,List.setIfInBounds_toArray,List.set_cons_zero,List.set_cons_succ]
 refine any_readD (i:=15) (fuel:=6) (some 47) rfl rfl (fun _ _ _ h=>h) (fun _ _ _ _ _=>(Lg.re_iff _).1) (by kernel_rfl) (by kernel_rfl) (by kernel_rfl) (by kernel_rfl) rfl HF4.out rfl ?_
 apply Exists.intro
 refine ⟨fun wq hw=>?_,?_⟩
 ·obtain ⟨hw0,hw1,hw2⟩:=hw
  go_simp
  rfl
 simp only [Act.put,List.setIfInBounds_toArray,List.set_cons_zero,List.set_cons_succ]
 refine any_readD (i:=16) (fuel:=5) (some 48) rfl rfl (fun _ _ _ h=>h) (fun _ _ _ _ _=>(Lg.re_iff _).1) (by kernel_rfl) (by kernel_rfl) (by kernel_rfl) (by kernel_rfl) rfl HF4.out rfl ?_
 apply Exists.intro
 refine ⟨fun wq hw=>?_,?_⟩
 ·obtain ⟨hw0,hw1,hw2⟩:=hw
  go_simp
  rfl
 simp only [Act.put,List.setIfInBounds_toArray,List.set_cons_zero,List.set_cons_succ]
 refine any_readD (i:=17) (fuel:=4) (some 49) rfl rfl (fun _ _ _ h=>h) (fun _ _ _ _ _=>(Lg.re_iff _).1) (by kernel_rfl) (by kernel_rfl) (by kernel_rfl) (by kernel_rfl) rfl HF4.out rfl ?_
 apply Exists.intro
 refine ⟨fun wq hw=>?_,?_⟩
 ·obtain ⟨hw0,hw1,hw2⟩:=hw
  go_simp
  rfl
 simp only [Act.put,List.setIfInBounds_toArray,List.set_cons_zero,List.set_cons_succ]
 have e3:=HE3.out
 refine any_readD (i:=18) (fuel:=3) (some 50) rfl rfl (fun _ _ _ h=>h) (fun _ _ _ _ _=>(Lg.re_iff _).1) (by kernel_rfl) (by kernel_rfl) (by kernel_rfl) (by kernel_rfl) rfl HF4.out rfl ?_
 refine ⟨.int .i64 (min z (q + X2 - 1)),fun wq hw=>?_,?_⟩
 ·go_simp
  rw [IntWalk.i64_in (q + X2) (by omega),IntWalk.i64_in (q + X2 - 1) (by omega),e3]
 simp only [Act.put,List.setIfInBounds_toArray,List.set_cons_zero,List.set_cons_succ]
 clear e3 HE3
 obtain ⟨bb,hbb⟩ : ∃ bb,min z (q + X2 - 1) = bb:=⟨_,rfl⟩
 have hb1 : bb≤z∧bb≤q + X2 - 1∧(bb = z∨bb = q + X2 - 1):=by omega
 rw [hbb]
 clear hbb
 have HBB:=Lib.hid hb1
 clear hb1
 refine AnyV.one (i:=4) (fuel:=2) (by kernel_rfl) (.inl fun y τ n hy=>wpOp_of rfl rfl ?_)
 subst hy
 have hn:=HN.out.re hk
 clear HN
 have HN:=Lib.hid hn
 clear hn
 obtain ⟨b0,-⟩:=R.blk _ _ _ HN.out.rep
 have hF4 : RFix4 I j q y:=HF4.out
 have HF4:=Lib.hid hF4
 clear hF4
 unfold Oper.wp
 go_simp
 refine (multi_ringM _ _ _ b0).mono ?_
 rintro e w' ⟨rfl,hw'⟩
 subst hw'
 dsimp only
 clear b0
 refine ⟨HF4.out,?_⟩
 refine AnyV.one (i:=19) (fuel:=1) (by kernel_rfl) (.inr ⟨_,34,#[.pointer (some ⟨I.M.rb,0,none⟩),V,.int .i64 q,.int .i64 bb],rfl,rfl,fun y=>by go_simp,(R.ring.high _ _ _ _ _ HN.out q bb (by omega) (by omega) (by have:=HBB.out; omega) _).mono ?_⟩)
 rintro vv t' w' ⟨e,s,H,rfl,rfl,hn⟩
 clear HN HF4 HQ
 have HN:=Lib.hid hn
 clear hn
 refine ⟨fun z=>absurd z (by decide),fun _=>rfl,?_⟩
 simp only [Act.put,List.setIfInBounds_toArray,List.set_cons_zero,List.set_cons_succ]
 refine AnyV.one (i:=20) (fuel:=0) (by kernel_rfl) (.inl fun y τ n hy=>wpOp_of rfl rfl ?_)
 subst hy
 have hn:=HN.out.re hk
 clear HN
 have HN:=Lib.hid hn
 clear hn
 unfold Oper.wp
 go_simp
 refine ⟨by kernel_rfl,?_⟩
 refine (show L.T (if s.1.rn j = q∧(e < q∨e≤bb) then (if e < q then k [] 4 s else rread3 I.M.n j q e s k) else .cut) _ _ _ from ?_)
 by_cases hcond : s.1.rn j = q∧(e < q∨e≤bb)
 rotate_left
 ·rw [if_neg hcond]
  exact hcut _ _ _
 rw [if_pos hcond]
 obtain ⟨hrn,hle⟩:=hcond
 by_cases hlt : e < q
 ·rw [if_pos hlt]
  have hd : decide (e < q) = true:=decide_eq_true hlt
  clear hlt hle
  have HRN:=Lib.hid hrn
  clear hrn
  with_reducible refine Lg.mv_seq _ ?_
  with_reducible refine Lg.mv_seq _ ?_
  with_reducible refine Lg.mv_reg _ ?_
  intro K hK y τ n' hy
  subst hy
  have hn:=HN.out.re hk
  clear HN
  have HN:=Lib.hid hn
  clear hn
  obtain ⟨d0,d1,d2,d3,d4⟩:=Lay.At.rdc hI (show (readY I).At s.1 _ from HN.out.rep.at_) hj
  rw [HRN.out] at d4
  go_wp2
  refine hK _ _ (fun _=>rfl) ?_
  clear hK K d0 d1 d2 d3 d4
  repeat (first
   | with_reducible refine Lg.mv_seq _ ?_
   | with_reducible refine Lg.mv_skip _ ?_
   | with_reducible refine Lg.mv_block _ ?_
   | with_reducible refine Lg.mv_inBlock _ ?_
   | with_reducible refine Lg.mv_end _ ?_
   | ((with_reducible refine Lg.mv_condT _ ?_ ?_); exact rfl)
   | ((with_reducible refine Lg.mv_condF _ ?_ ?_); exact rfl)
   | ((with_reducible apply Lg.mv_exit); exact rfl)
   | (with_reducible refine Lg.mv_reg _ ?_
      intro K hK y τ n' hy
      subst hy
      have hn:=HN.out.re hk
      clear HN
      have HN:=Lib.hid hn
      clear hn
      obtain ⟨d0,d1,d2,d3,d4⟩:=Lay.At.rdc hI (show (readY I).At s.1 _ from HN.out.rep.at_) hj
      go_wp2
      refine hK _ _ (fun _=>rfl) ?_
      clear hK K d0 d1 d2 d3 d4))
  with_reducible refine Lg.mv_ret _ ?_
  exact Lg.leave rfl Try.func14 rfl (v:=.tuple #[.slice none 0 0,.int .i64 4]) (fun _ _ _ _=>by simp [results,Try.f14]) (HR.out _ _ _ ⟨[],4,_,s,H,rfl,rfl,HN.out,OutRow.nil⟩)
 rw [if_neg hlt]
 have hd : decide (e < q) = false:=decide_eq_false hlt
 have HRN:=Lib.hid hrn
 clear hrn
 with_reducible refine Lg.mv_seq _ ?_
 with_reducible refine Lg.mv_seq _ ?_
 with_reducible refine Lg.mv_reg _ ?_
 intro K hK y τ n' hy
 subst hy
 have hn:=HN.out.re hk
 clear HN
 have HN:=Lib.hid hn
 clear hn
 obtain ⟨d0,d1,d2,d3,d4⟩:=Lay.At.rdc hI (show (readY I).At s.1 _ from HN.out.rep.at_) hj
 rw [HRN.out] at d4
 go_wp2
 refine hK _ _ (fun _=>rfl) ?_
 clear hK K d0 d1 d2 d3 d4
 repeat (first
  | with_reducible refine Lg.mv_skip _ ?_
  | ((with_reducible refine Lg.mv_condF _ ?_ ?_); exact rfl)
  | with_reducible refine Lg.mv_end _ ?_)
 with_reducible refine Lg.mv_seq _ ?_
 with_reducible refine Lg.mv_reg _ ?_
 intro K hK y τ n' hy
 subst hy
 have hn:=HN.out.re hk
 clear HN
 have HN:=Lib.hid hn
 clear hn
 go_wp2
 refine hK _ _ (fun _=>rfl) ?_
 clear hK K
 with_reducible refine Lg.mv_seq _ ?_
 with_reducible refine Lg.mv_seq _ ?_
 with_reducible refine Lg.mv_reg _ ?_
 intro K hK y τ n' hy
 subst hy
 have hn:=HN.out.re hk
 clear HN
 have HN:=Lib.hid hn
 clear hn
 obtain ⟨d0,d1,d2,d3,d4⟩:=Lay.At.rdc hI (show (readY I).At s.1 _ from HN.out.rep.at_) hj
 rw [HRN.out] at d4
 go_wp2
 refine hK _ _ (fun _=>rfl) ?_
 clear hK K d0 d1 d2 d3 d4 HRN
 with_reducible refine Lg.mv_block _ ?_
 obtain ⟨N,hN⟩ : ∃ N,(e + 1 - q).toNat = N:=⟨_,rfl⟩
 have hNe : q + (N : Int) = e + 1∧N≤65536∧e < 4611686018427387904∧0≤e:=by have:=HBB.out; omega
 unfold rread3
 rw [hN]
 obtain ⟨g1,g2,g3,g4⟩:=hNe
 clear hN hle hd hlt HBB
 refine Lg.family frR (R:=fun f=>f 0 = .pointer (some ⟨I.rd j,0,none⟩)∧f 1 = V∧f 9 = .int .i64 e∧f 10 = .slice none 0 0∧f 11 = .int .i64 q) ?_ (by rfl) ⟨rfl,rfl,rfl,rfl,rfl⟩
 rintro f1 ⟨n0,n1,n9,n10,n11⟩
 obtain ⟨KK,hKK⟩ : ∃ KK : Option (List Int)→RSS→Tree RSS RSS,KK = fun all s=>match all with
  | none=>k [] 10 s
  | some all=>gsetT j e s fun s=>k all 0 ({ s.1 with rn:=upd s.1.rn j (e + 1) },s.2):=⟨_,rfl⟩
 rw [← hKK]
 have HKK:=Lib.hid hKK
 clear hKK
 refine Lg.loop_fr frR (fun f t w=>∃ ls : List Int,ls.length≤N∧∃ s' H' oA oc,f 0 = .pointer (some ⟨I.rd j,0,none⟩)∧f 1 = V∧f 9 = .int .i64 e∧f 10 = .slice oA ls.length oc∧f 11 = .int .i64 (q + ls.length)∧t = getsT I.M.n (N - ls.length) (q + ls.length) ls s' KK∧Now (B.on (readY I).inner good) Cap H0 w0 s' H' w∧OutRow (B.on (readY I).inner good) w0 H' w (.slice oA ls.length oc) ls) (fun f _ _=>N - (intOf (f 11) - q).toNat) ⟨[],Nat.zero_le _,s,H,none,0,n0,n1,n9,n10,by simpa using n11,by simp,HN.out,OutRow.nil⟩ ?_
 clear HN n0 n1 n9 n10 n11 f1 s H
 rintro f2 t w2 ⟨ls,hl,s,H,oA,oc,k0,k1,k9,k10,k11,rfl,hn,hout⟩ hnext
 have HX:=Lib.hid hnext
 have HN:=Lib.hid hn
 have HO:=Lib.hid hout
 clear hnext hn hout
 simp only [frR,k0,k1,k9,k10,k11]
 by_cases hlt : ls.length < N
 ·have h4 : q + (ls.length : Int)≤e:=by omega
  have d4' : decide (q + (ls.length : Int)≤e) = true:=decide_eq_true h4
  obtain ⟨m,hm⟩ : ∃ m,N - ls.length = m + 1:=⟨N - ls.length - 1,by omega⟩
  have HJ:=Lib.hid (show m = N - (ls.length + 1) by omega)
  rw [hm,show getsT I.M.n (m + 1) (q + ls.length) ls s KK = getG rrl I.M.n (q + ls.length) s fun v e s=>if e = 0 then getsT I.M.n m (q + ls.length + 1) (ls ++ [v]) s KK else KK none s from rfl]
  clear hm
  with_reducible refine Lg.mv_seq _ ?_
  with_reducible refine Lg.mv_seq _ ?_
  with_reducible refine Lg.mv_reg _ ?_
  intro K hK y τ n' hy
  subst hy
  have hn:=HN.out.re hk
  have hout:=HO.out.re
  clear HN HO
  have HN:=Lib.hid hn
  have HO:=Lib.hid hout
  clear hn hout
  go_wp2
  refine hK _ _ (fun _=>rfl) ?_
  clear hK K
  clear d4'
  repeat (first
   | with_reducible refine Lg.mv_seq _ ?_
   | with_reducible refine Lg.mv_skip _ ?_
   | with_reducible refine Lg.mv_block _ ?_
   | with_reducible refine Lg.mv_inBlock _ ?_
   | with_reducible refine Lg.mv_end _ ?_
   | ((with_reducible refine Lg.mv_condT _ ?_ ?_); exact rfl)
   | ((with_reducible refine Lg.mv_condF _ ?_ ?_); exact rfl)
   | ((with_reducible apply Lg.mv_exit); exact rfl))
  with_reducible refine Lg.mv_region _ ?_
  refine Lg.pre 0 7 6 (by simp) fun K hK y τ n' hy=>?_
  subst hy
  have hn:=HN.out.re hk
  have hout:=HO.out.re
  clear HN HO
  have HN:=Lib.hid hn
  have HO:=Lib.hid hout
  clear hn hout
  obtain ⟨d0,d1,d2,d3,d4⟩:=Lay.At.rdc hI (show (readY I).At s.1 _ from HN.out.rep.at_) hj
  have hr0:=R.rc _ _ _ HN.out.rep
  obtain ⟨b0,-⟩:=R.blk _ _ _ HN.out.rep
  simp only [List.drop_zero,List.take_succ_cons,List.take_zero]
  go_wp2_with (first | (go_at_call 18; refine (joinedC _ _ _ d3).mono ?_; rintro e w' ⟨rfl,hw'⟩; subst hw') | (go_at_call 28; refine (multi_sizeM _ _ _ _ _ _ b0 hr0).mono ?_; rintro e w' ⟨rfl,hw'⟩; subst hw') | (go_at_call 30; refine (multi_ringM _ _ _ b0).mono ?_; rintro e w' ⟨rfl,hw'⟩; subst hw'))
  refine hK _ _ (fun _=>rfl) ?_
  clear hK K d0 d1 d2 d3 d4 hr0 b0
  refine Lg.call (i:=7) (rest:=[8,9,10,11,12]) (f:=31) (args:=#[.pointer (some ⟨I.M.rb,0,none⟩),V,.int .i64 (q + ls.length)]) rfl rfl (fun y=>by go_simp) (R.ring.get _ _ _ _ _ (HN.out.here hk) (q + ls.length) _) ?_
  rintro vv t' w' ⟨x,e',s,H,rfl,rfl,hn'⟩
  have hout:=HO.out.held hn'.held
  have hn:=HN.out.on hn'
  clear HN HO hn'
  have HN:=Lib.hid hn
  have HO:=Lib.hid hout
  clear hn hout
  rw [Frame.finish_at]
  walk_nrm
  refine (show L.T _ (Frame.at _ ⟨_,[]⟩ (.inRegion _ (List.range' 8 (5 + 0)) :: _)) (c :: mid) _ from ?_)
  refine Lg.pre 8 5 0 (by simp) fun K hK y τ n' hy=>?_
  subst hy
  have hn:=HN.out.re hk
  have hout:=HO.out.re
  clear HN HO
  have HN:=Lib.hid hn
  have HO:=Lib.hid hout
  clear hn hout
  simp only [List.drop_succ_cons,List.drop_zero,List.take_succ_cons,List.take_zero]
  go_wp2
  refine hK _ _ (fun _=>rfl) ?_
  clear hK K
  refine Lg.move _ (fun _ _=>step_region_end) (fun h=>h) ?_
  by_cases he : e' = 0
  ·subst he
   refine (show L.T (getsT I.M.n m (q + ls.length + 1) (ls ++ [x]) s KK) _ _ _ from ?_)
   repeat (first
    | with_reducible refine Lg.mv_seq _ ?_
    | with_reducible refine Lg.mv_skip _ ?_
    | with_reducible refine Lg.mv_block _ ?_
    | with_reducible refine Lg.mv_inBlock _ ?_
    | with_reducible refine Lg.mv_end _ ?_
    | ((with_reducible refine Lg.mv_condT _ ?_ ?_); exact rfl)
    | ((with_reducible refine Lg.mv_condF _ ?_ ?_); exact rfl)
    | ((with_reducible apply Lg.mv_exit); exact rfl)
    | (with_reducible refine Lg.mv_reg _ ?_
       intro K hK y τ n' hy
       subst hy
       have hn:=HN.out.re hk
       have hout:=HO.out.re
       clear HN HO
       have HN:=Lib.hid hn
       have HO:=Lib.hid hout
       clear hn hout
       go_wp2
       refine hK _ _ (fun _=>rfl) ?_
       clear hK K))
   with_reducible refine Lg.mv_region _ ?_
   refine Lg.pre 0 3 2 (by simp) fun K hK y τ n' hy=>?_
   subst hy
   have hn:=HN.out.re hk
   have hout:=HO.out.re
   clear HN HO
   have HN:=Lib.hid hn
   have HO:=Lib.hid hout
   clear hn hout
   simp only [List.drop_zero,List.take_succ_cons,List.take_zero]
   go_wp2
   refine hK _ _ (fun _=>rfl) ?_
   clear hK K
   have hnb:=Blk.new y 2 #[.int .i64 x]
   have hn:=HN.out.alloc (.cells #[.int .i64 x] 2)
   have hout:=HO.out.kept (Kept.alloc y (.cells #[.int .i64 x] 2))
   clear HN HO
   generalize y.alloc (.cells #[.int .i64 x] 2) = z3 at hn hout hnb ⊢
   generalize y.heap.size = nb at hnb ⊢
   obtain ⟨i0,hi0,hz0,hz1',hz2⟩:=info_parts Try.infoI64
   refine Lg.pre 3 2 0 (by simp) fun K hK q' τ n' hq=>?_
   subst hq
   have hn:=hn.re hk
   have hout:=hout.re
   have hnb : Blk q' nb _ _:=hnb
   have hsize : w0.heap.size≤q'.heap.size:=hn.held.size
   simp only [List.drop_succ_cons,List.drop_zero,List.take_succ_cons,List.take_zero]
   refine wpList_append_lies _ rfl _ _ _ rfl w0.heap.size 2 i0 _ 1 8 Try.underlying35 hi0 hz0 hz1' hz2 rfl (by omega) (.slice oA ls.length oc) ls.length _ rfl hout.own ⟨nb,0,none⟩ 1 1 [.int .i64 x] rfl rfl (World.news_of_block (cs:=#[.int .i64 x]) (t:=2) (fr:=(0,0)) hnb) (by simp [Value.oneCell']) (by omega) (by unfold maxLen; omega) (by omega) hsize _ rfl ?_
   intro g cp' w1 hown hgrow hat hlt1
   have hrowH : ∀ b,(Value.slice oA ls.length oc).ownBlock = some b→w0.heap.size≤b∧¬ H b∧¬ (B.on (readY I).inner good).RB b:=fun b hb=>⟨(hout.blk hb).1,hout.nh b hb⟩
   have hn2:=hn.grown hgrow fun b hb=>hrowH b hb.symm.symm
   have hout2 : OutRow (B.on (readY I).inner good) w0 H w1 (.slice (some ⟨g,0,none⟩) (ls.length + 1) cp') (ls ++ [x]):=by
    refine ⟨by rw [List.length_append,List.map_append]; exact hown,fun b hb=>?_⟩
    simp only [Value.ownBlock,Option.some.injEq] at hb
    subst hb
    rcases hat with hat | hat
    ·exact (hrowH _ hat).2
    ·exact ⟨fun z=>by have:=hn.rep.lt z; omega,fun z=>by have:=hn.rlt z; omega⟩
   have HN:=Lib.hid hn2
   have HO:=Lib.hid hout2
   clear hn hn2 hout hout2 hown hgrow hat hlt1 hnb hrowH hsize
   go_wp2
   refine hK _ _ (fun _=>rfl) ?_
   clear hK K
   refine Lg.mv_end _ ?_
   repeat (first
    | with_reducible refine Lg.mv_seq _ ?_
    | with_reducible refine Lg.mv_skip _ ?_
    | with_reducible refine Lg.mv_block _ ?_
    | with_reducible refine Lg.mv_inBlock _ ?_
    | with_reducible refine Lg.mv_end _ ?_
    | ((with_reducible refine Lg.mv_condT _ ?_ ?_); exact rfl)
    | ((with_reducible refine Lg.mv_condF _ ?_ ?_); exact rfl)
    | ((with_reducible apply Lg.mv_exit); exact rfl)
    | (with_reducible refine Lg.mv_reg _ ?_
       intro K hK y τ n' hy
       subst hy
       have hn:=HN.out.re hk
       have hout:=HO.out.re
       clear HN HO
       have HN:=Lib.hid hn
       have HO:=Lib.hid hout
       clear hn hout
       go_wp2
       refine hK _ _ (fun _=>rfl) ?_
       clear hK K))
   refine Lg.family frR (R:=fun f=>f 0 = .pointer (some ⟨I.rd j,0,none⟩)∧f 1 = V∧f 9 = .int .i64 e∧f 10 = .slice (some ⟨g,0,none⟩) (ls.length + 1) cp'∧f 11 = .int .i64 (q + ((ls.length + 1 : Nat) : Int))) ?_ (by rfl) ⟨rfl,rfl,rfl,rfl,by simp; omega⟩
   rintro f' ⟨q0,q1,q9,q10,q11⟩
   exact HX.out f' _ _ ⟨ls ++ [x],by simp; omega,s,H,_,_,q0,q1,q9,by simpa using q10,by simpa using q11,by rw [HJ.out,List.length_append,List.length_singleton,show q + (ls.length : Int) + 1 = q + ((ls.length + 1 : Nat) : Int) from by omega],HN.out,by simpa using HO.out⟩ (by rw [q11,k11]; simp only [intOf]; omega)
  ·have de : (e' != 0) = true:=by simpa using he
   rw [show (if e' = 0 then getsT I.M.n m (q + ls.length + 1) (ls ++ [x]) s KK else KK none s) = KK none s from if_neg he]
   rw [HKK.out]
   repeat (first
    | with_reducible refine Lg.mv_seq _ ?_
    | with_reducible refine Lg.mv_skip _ ?_
    | with_reducible refine Lg.mv_block _ ?_
    | with_reducible refine Lg.mv_inBlock _ ?_
    | with_reducible refine Lg.mv_end _ ?_
    | ((with_reducible refine Lg.mv_condT _ ?_ ?_); exact rfl)
    | ((with_reducible refine Lg.mv_condF _ ?_ ?_); exact rfl)
    | ((with_reducible apply Lg.mv_exit); exact rfl)
    | (with_reducible refine Lg.mv_reg _ ?_
       intro K hK y τ n' hy
       subst hy
       have hn:=HN.out.re hk
       have hout:=HO.out.re
       clear HN HO
       have HN:=Lib.hid hn
       have HO:=Lib.hid hout
       clear hn hout
       go_wp2
       refine hK _ _ (fun _=>rfl) ?_
       clear hK K))
   with_reducible refine Lg.mv_ret _ ?_
   exact Lg.leave rfl Try.func14 rfl (v:=.tuple #[.slice none 0 0,.int .i64 10]) (fun _ _ _ _=>by simp [results,Try.f14]) (HR.out _ _ _ ⟨[],10,_,s,H,rfl,rfl,HN.out,OutRow.nil⟩)
 ·have e0 : N - ls.length = 0:=by omega
  have h4 : ¬ q + (ls.length : Int)≤e:=by omega
  have d4' : decide (q + (ls.length : Int)≤e) = false:=decide_eq_false h4
  rw [e0,show getsT I.M.n 0 (q + ls.length) ls s KK = KK (some ls) s from rfl,HKK.out]
  refine (show L.T (gsetT j e s fun s=>k ls 0 ({ s.1 with rn:=upd s.1.rn j (e + 1) },s.2)) _ _ _ from ?_)
  clear h4 e0
  repeat (first
   | with_reducible refine Lg.mv_seq _ ?_
   | with_reducible refine Lg.mv_skip _ ?_
   | with_reducible refine Lg.mv_block _ ?_
   | with_reducible refine Lg.mv_inBlock _ ?_
   | with_reducible refine Lg.mv_end _ ?_
   | ((with_reducible refine Lg.mv_condT _ ?_ ?_); exact rfl)
   | ((with_reducible refine Lg.mv_condF _ ?_ ?_); exact rfl)
   | ((with_reducible apply Lg.mv_exit); exact rfl)
   | (with_reducible refine Lg.mv_reg _ ?_
      intro K hK y τ n' hy
      subst hy
      have hn:=HN.out.re hk
      have hout:=HO.out.re
      clear HN HO
      have HN:=Lib.hid hn
      have HO:=Lib.hid hout
      clear hn hout
      go_wp2
      refine hK _ _ (fun _=>rfl) ?_
      clear hK K))
  clear d4'
  refine Lg.anyS (RFix I j) (by kernel_rfl) ?_
  simp only [List.size_toArray,List.length_cons,List.length_nil,Nat.reduceAdd]
  refine any_readS (i:=0) (fuel:=10) (some 84) rfl rfl (fun _ _ _ h=>h) (fun _ _ _ _ _=>(Lg.re_iff _).1) (by kernel_rfl) (by kernel_rfl) (by kernel_rfl) rfl (r_fix hI HN.out.rep hj) rfl ?_
  apply Exists.intro
  refine ⟨fun wq hw=>?_,?_⟩
  ·obtain ⟨hw0,hw1,hw2⟩:=hw
   go_simp
   rfl
  simp only [Act.put,List.setIfInBounds_toArray,List.set_cons_zero,List.set_cons_succ]
  refine any_readS (i:=1) (fuel:=9) (some 85) rfl rfl (fun _ _ _ h=>h) (fun _ _ _ _ _=>(Lg.re_iff _).1) (by kernel_rfl) (by kernel_rfl) (by kernel_rfl) rfl (r_fix hI HN.out.rep hj) rfl ?_
  apply Exists.intro
  refine ⟨fun wq hw=>?_,?_⟩
  ·obtain ⟨hw0,hw1,hw2⟩:=hw
   go_simp
   rfl
  simp only [Act.put,List.setIfInBounds_toArray,List.set_cons_zero,List.set_cons_succ]
  refine any_readS (i:=2) (fuel:=8) (some 86) rfl rfl (fun _ _ _ h=>h) (fun _ _ _ _ _=>(Lg.re_iff _).1) (by kernel_rfl) (by kernel_rfl) (by kernel_rfl) rfl (r_fix hI HN.out.rep hj) rfl ?_
  apply Exists.intro
  refine ⟨fun wq hw=>?_,?_⟩
  ·obtain ⟨hw0,hw1,hw2⟩:=hw
   go_simp
   rfl
  simp only [Act.put,List.setIfInBounds_toArray,List.set_cons_zero,List.set_cons_succ]
  refine any_readS (i:=3) (fuel:=7) (some 87) rfl rfl (fun _ _ _ h=>h) (fun _ _ _ _ _=>(Lg.re_iff _).1) (by kernel_rfl) (by kernel_rfl) (by kernel_rfl) rfl (r_fix hI HN.out.rep hj) rfl ?_
  apply Exists.intro
  refine ⟨fun wq hw=>?_,?_⟩
  ·obtain ⟨hw0,hw1,hw2⟩:=hw
   go_simp
   rfl
  simp only [Act.put,List.setIfInBounds_toArray,List.set_cons_zero,List.set_cons_succ]
  refine any_readS (i:=4) (fuel:=6) (some 88) rfl rfl (fun _ _ _ h=>h) (fun _ _ _ _ _=>(Lg.re_iff _).1) (by kernel_rfl) (by kernel_rfl) (by kernel_rfl) rfl (r_fix hI HN.out.rep hj) rfl ?_
  apply Exists.intro
  refine ⟨fun wq hw=>?_,?_⟩
  ·obtain ⟨hw0,hw1,hw2⟩:=hw
   go_simp
   rfl
  simp only [Act.put,List.setIfInBounds_toArray,List.set_cons_zero,List.set_cons_succ]
  refine any_readS (i:=5) (fuel:=5) (some 89) rfl rfl (fun _ _ _ h=>h) (fun _ _ _ _ _=>(Lg.re_iff _).1) (by kernel_rfl) (by kernel_rfl) (by kernel_rfl) rfl (r_fix hI HN.out.rep hj) rfl ?_
  apply Exists.intro
  refine ⟨fun wq hw=>?_,?_⟩
  ·obtain ⟨hw0,hw1,hw2⟩:=hw
   go_simp
   rfl
  simp only [Act.put,List.setIfInBounds_toArray,List.set_cons_zero,List.set_cons_succ]
  refine any_readS (i:=6) (fuel:=4) (some 90) rfl rfl (fun _ _ _ h=>h) (fun _ _ _ _ _=>(Lg.re_iff _).1) (by kernel_rfl) (by kernel_rfl) (by kernel_rfl) rfl (r_fix hI HN.out.rep hj) rfl ?_
  apply Exists.intro
  refine ⟨fun wq hw=>?_,?_⟩
  ·obtain ⟨hw0,hw1,hw2⟩:=hw
   go_simp
   rfl
  simp only [Act.put,List.setIfInBounds_toArray,List.set_cons_zero,List.set_cons_succ]
  refine any_readS (i:=7) (fuel:=3) (some 91) rfl rfl (fun _ _ _ h=>h) (fun _ _ _ _ _=>(Lg.re_iff _).1) (by kernel_rfl) (by kernel_rfl) (by kernel_rfl) rfl (r_fix hI HN.out.rep hj) rfl ?_
  apply Exists.intro
  refine ⟨fun wq hw=>?_,?_⟩
  ·obtain ⟨hw0,hw1,hw2⟩:=hw
   go_simp
   rfl
  simp only [Act.put,List.setIfInBounds_toArray,List.set_cons_zero,List.set_cons_succ]
  refine any_readS (i:=8) (fuel:=2) (some 92) rfl rfl (fun _ _ _ h=>h) (fun _ _ _ _ _=>(Lg.re_iff _).1) (by kernel_rfl) (by kernel_rfl) (by kernel_rfl) rfl (r_fix hI HN.out.rep hj) rfl ?_
  apply Exists.intro
  refine ⟨fun wq hw=>?_,?_⟩
  ·obtain ⟨hw0,hw1,hw2⟩:=hw
   go_simp
   rfl
  simp only [Act.put,List.setIfInBounds_toArray,List.set_cons_zero,List.set_cons_succ]
  refine any_readS (i:=9) (fuel:=1) (some 93) rfl rfl (fun _ _ _ h=>h) (fun _ _ _ _ _=>(Lg.re_iff _).1) (by kernel_rfl) (by kernel_rfl) (by kernel_rfl) rfl (r_fix hI HN.out.rep hj) rfl ?_
  apply Exists.intro
  refine ⟨fun wq hw=>?_,?_⟩
  ·obtain ⟨hw0,hw1,hw2⟩:=hw
   go_simp
   rfl
  simp only [Act.put,List.setIfInBounds_toArray,List.set_cons_zero,List.set_cons_succ]
  refine AnyS.one (i:=10) (fuel:=0) (by kernel_rfl) (.inr ⟨_,33,#[.pointer (some ⟨I.gt,0,none⟩),V,.int .i64 j,.int .i64 e],rfl,rfl,fun y=>by go_simp,(gate_setT hI hk hS3 _ _ _ _ _ (HN.out.here hk) j hj64 e _).mono ?_⟩)
  rintro vv t' w' ⟨s,H,rfl,rfl,hn'⟩
  have hout:=HO.out.held hn'.held
  have hn:=HN.out.on hn'
  clear HN HO hn'
  have HN:=Lib.hid hn
  have HO:=Lib.hid hout
  clear hn hout
  refine ⟨r_fix hI HN.out.rep hj,fun _=>rfl,?_⟩
  simp only [Act.put,List.setIfInBounds_toArray,List.set_cons_zero,List.set_cons_succ]
  refine AnyS.done (by kernel_rfl) ?_ _
  refine (show L.T _ _ _ _ from ?_)
  with_reducible refine Lg.mv_seq _ ?_
  with_reducible refine Lg.mv_reg _ ?_
  intro K hK y τ n' hy
  subst hy
  have hn:=HN.out.re hk
  have hout:=HO.out.re
  clear HN HO
  have HN:=Lib.hid hn
  have HO:=Lib.hid hout
  clear hn hout
  obtain ⟨d0,d1,d2,d3,d4⟩:=Lay.At.rdc hI (show (readY I).At s.1 _ from HN.out.rep.at_) hj
  have q4:=Lay.At.rdz hI (show (readY I).At s.1 _ from HN.out.rep.at_) hj 4
  have HS:=Lib.hid (r_rn hI HN.out.rep hj (e + 1) (by omega) (by omega))
  go_wp2
  refine hK _ _ (fun _=>rfl) ?_
  clear hK K d0 d1 d2 d3 d4 q4
  have hn:=HN.out.to hk HS.out
  have hout:=HO.out.held HS.out.2
  clear HS HN HO
  generalize World.setCell _ _ _ = y' at hn hout ⊢
  have HN:=Lib.hid hn
  have HO:=Lib.hid hout
  clear hn hout
  repeat (first
   | with_reducible refine Lg.mv_seq _ ?_
   | with_reducible refine Lg.mv_skip _ ?_
   | with_reducible refine Lg.mv_block _ ?_
   | with_reducible refine Lg.mv_inBlock _ ?_
   | with_reducible refine Lg.mv_end _ ?_
   | ((with_reducible refine Lg.mv_condT _ ?_ ?_); exact rfl)
   | ((with_reducible refine Lg.mv_condF _ ?_ ?_); exact rfl)
   | ((with_reducible apply Lg.mv_exit); exact rfl)
   | (with_reducible refine Lg.mv_reg _ ?_
      intro K hK y τ n' hy
      subst hy
      have hn:=HN.out.re hk
      have hout:=HO.out.re
      clear HN HO
      have HN:=Lib.hid hn
      have HO:=Lib.hid hout
      clear hn hout
      go_wp2
      refine hK _ _ (fun _=>rfl) ?_
      clear hK K))
  with_reducible refine Lg.mv_ret _ ?_
  exact Lg.leave rfl Try.func14 rfl (v:=.tuple #[.slice oA ls.length oc,.int .i64 0]) (fun _ _ _ _=>by simp [results,Try.f14]) (HR.out _ _ _ ⟨ls,0,_,_,H,rfl,rfl,HN.out,HO.out⟩)
end Go.Proofs.Ytlhbonnminlnlaa
