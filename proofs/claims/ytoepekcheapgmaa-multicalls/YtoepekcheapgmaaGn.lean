/- DERIVED. The document's example of two that claim at one time (carillonlaw13: awake) holds, goroutine 0 alone. -/
import Derived.Test.YtoepekcheapgmaaGm
import Derived.Test.YtoepekcheapgmaaGd
import Derived.Test.YtoepekcheapgmaaGi
import Derived.Test.YtoepekcheapgmaaGh
set_option linter.unusedVariables false
set_option linter.unusedSectionVars false
set_option linter.unusedSimpArgs false
namespace Go.Proofs.Ytoepekcheapgmaa
open Go.RowKit Go.Turn Go.Tame Go.Conc
def cI (_ : Unit) (s : MSS) : Prop:=-1≤s.1.cursor∧s.1.cursor < 4611686018427387904
def cP (i : Nat) : RGp MSS Unit:=⟨fun _ s _ s'=>s.1.cursor≤s'.1.cursor∧∀ l,l≠i→s'.2 l = s.2 l,fun _ s _ s'=>s.1.cursor≤s'.1.cursor∧s'.2 i = s.2 i,fun _ _=>True⟩
theorem c_rgs (n : Nat) : RGs cI n cP where
  refl:=fun i hi g s=>⟨Int.le_refl _,rfl⟩
  trans:=fun i hi g s g1 s1 g2 s2 h1 h2=>⟨Int.le_trans h1.1 h2.1,h2.2.trans h1.2⟩
  sub:=fun i j hi hj hne g s g' s' hI h hI'=>⟨h.1,h.2 j hne⟩
  stable:=fun i hi g s g' s' hI h hr hI'=>trivial
structure CCur (i : Nat) (s0 s : MSS) : Prop where
  gu : s0.1.cursor≤s.1.cursor∧∀ l,l≠i→s.2 l = s0.2 l
  inv : cI () s
structure Nx (i : Nat) (s s' : MSS) : Prop where
  le : s.1.cursor≤s'.1.cursor
  own : s'.2 i = s.2 i
theorem Nx.refl (i : Nat) (s : MSS) : Nx i s s:=⟨Int.le_refl _,rfl⟩
theorem Nx.trans {i : Nat} {a b c : MSS} (h : Nx i a b) (k : Nx i b c) : Nx i a c:=⟨Int.le_trans h.1 k.1,k.2.trans h.2⟩
theorem CCur.refl {i : Nat} {s : MSS} (h : cI () s) : CCur i s s:=⟨⟨Int.le_refl _,fun _ _=>rfl⟩,h⟩
abbrev RgC (i : Nat) (t : Tree MSS MSS) (s : MSS) : Prop:=t.Rg cI (cP i) () s
def After (i : Nat) (s : MSS) (k : MSS→Tree MSS MSS) : Prop:=∀ s0 s',CCur i s0 s'→Nx i s s'→RgC i (k s') s0
section
variable {i : Nat} {s0 s : MSS} (h : CCur i s0 s)
include h
theorem c_yield {k : MSS→Tree MSS MSS} (hk : ∀ s',CCur i s' s'→Nx i s s'→RgC i (k s') s') : RgC i (.yield s k) s0:=
  ⟨(),h.gu,h.inv,fun _ s2 hr hI=>hk s2 (.refl hI) ⟨hr.1,hr.2⟩⟩
theorem c_here {s' : MSS} (e1 : s'.1.cursor = s.1.cursor) (e2 : s'.2 = s.2) : CCur i s0 s'∧Nx i s s':=
  ⟨⟨⟨by rw [e1]; exact h.gu.1,fun l hl=>by rw [e2]; exact h.gu.2 l hl⟩,by have:=h.inv; unfold cI at this ⊢; rw [e1]; exact this⟩,⟨by rw [e1]; exact Int.le_refl _,by rw [e2]⟩⟩
theorem c_load (l : WLens MSt) {k : Int→MSS→Tree MSS MSS} (hk : ∀ s',CCur i s' s'→Nx i s s'→RgC i (k (l.get s'.1) s') s') : RgC i (loadW l s k) s0:=c_yield h hk
theorem c_store (l : WLens MSt) (hl : ∀ x a,(l.put x a).cursor = a.cursor) (x : Int) {k : MSS→Tree MSS MSS} (hk : After i s k) : RgC i (storeW l x s k) s0:=
  c_yield h fun s' h1 h2=>by
    obtain ⟨h3,h4⟩:=c_here h1 (s':=(l.put x s'.1,s'.2)) (hl x s'.1) rfl
    exact hk _ _ h3 (h2.trans h4)
theorem c_there (n : Nat) (q : Int) {k : Bool→MSS→Tree MSS MSS} (hk : ∀ b,After i s (k b)) : RgC i (thereG mrl n q s k) s0:=by
  unfold thereG
  split
  · exact c_yield h fun s' h1 h2=>hk _ _ _ h1 h2
  · exact hk _ _ _ h (.refl _ _)
end
theorem c_least (i j0 : Nat) {k : Int→MSS→Tree MSS MSS} : ∀ (m : Nat) (l p : Int) (s0 s : MSS),CCur i s0 s→(∀ x,After i s (k x))→RgC i (rleastT j0 m l p s k) s0
  | 0,l,p,s0,s,h,hk=>hk _ _ _ h (.refl _ _)
  | m + 1,l,p,s0,s,h,hk=>by
    refine c_load h (mql _) fun s' h1 h2=>?_
    split
    · exact c_least i j0 m _ _ s' s' h1 fun x a b ha hb=>hk x a b ha (h2.trans hb)
    · exact c_least i j0 m _ _ s' s' h1 fun x a b ha hb=>hk x a b ha (h2.trans hb)
theorem c_free {i kk n : Nat} {fs : Int} {s0 s : MSS} (h : CCur i s0 s) (c m : Int) {k : Bool→MSS→Tree MSS MSS} (hk : ∀ b,After i s (k b)) : RgC i (freeT mel (M0 n fs) (fun c s kk'=>rleastT kk kk c (-1) s kk') c m s k) s0:=by
  refine c_load h mel fun s1 h1 n1=>?_
  split
  · exact hk _ _ _ h1 n1
  · refine c_least i kk kk c (-1) s1 s1 h1 fun x a b ha hb=>?_
    refine c_store ha mel (fun _ _=>rfl) _ fun a' b' ha' hb'=>hk _ _ _ ha' (n1.trans (hb.trans hb'))
theorem c_wrot (i n : Nat) (fs : Int) {k : Bool→MSS→Tree MSS MSS} : ∀ (m : Nat) (q : Int) (s0 s : MSS),CCur i s0 s→(∀ b,After i s (k b))→RgC i (wrotL mrl (M0 n fs) m q s k) s0
  | 0,q,s0,s,h,hk=>hk _ _ _ h (.refl _ _)
  | m + 1,q,s0,s,h,hk=>by
    unfold wrotL
    split
    · refine c_there h _ _ fun b a a' ha hb=>?_
      cases b with
      | true=>exact c_wrot i n fs m (q + 1) a a' ha fun x u v hu hv=>hk x u v hu (hb.trans hv)
      | false=>exact hk _ _ _ ha hb
    · exact c_wrot i n fs m (q + 1) s0 s h hk
theorem c_claimL (i kk n : Nat) (fs m : Int) (hm : 1≤m) {k : Int→Int→MSS→Tree MSS MSS} : ∀ (f : Nat) (s0 s : MSS),CCur i s0 s→4611686018427387904≤s.1.cursor + f→(∀ x e,After i s (k x e))→RgC i (claimL mrl mcl mel (M0 n fs) (fun c s kk'=>rleastT kk kk c (-1) s kk') m f s k) s0
  | 0,s0,s,h,hf,hk=>by have:=h.inv.2; simp at hf; omega
  | f + 1,s0,s,h,hf,hk=>by
    refine c_load h mcl fun s1 h1 n1=>?_
    show RgC i (if 4611686018427387904≤s1.1.cursor + m then k 0 8 s1 else _) s1
    by_cases he : 4611686018427387904≤s1.1.cursor + m
    · rw [if_pos he]; exact hk _ _ _ _ h1 n1
    rw [if_neg he]
    refine c_free h1 _ _ fun b a s2 ha n2=>?_
    cases b with
    | false=>exact hk _ _ _ _ ha (n1.trans n2)
    | true =>
    refine c_wrot i n fs _ _ _ _ ha fun b a' s3 ha' n3=>?_
    cases b with
    | false =>
      rw [if_neg (by decide)]
      refine c_load ha' mcl fun s4 h4 n4=>?_
      show RgC i (if s4.1.cursor = s1.1.cursor then k 0 3 s4 else claimL mrl mcl mel (M0 n fs) _ m f s4 k) s4
      by_cases hd : s4.1.cursor = s1.1.cursor
      · rw [if_pos hd]; exact hk _ _ _ _ h4 (n1.trans (n2.trans (n3.trans n4)))
      · rw [if_neg hd]
        have e2:=n2.le; have e3:=n3.le; have e4:=n4.le; have e1:=n1.le
        exact c_claimL i kk n fs m hm f s4 s4 h4 (by omega) fun x e u v hu hv=>hk x e u v hu (n1.trans (n2.trans (n3.trans (n4.trans hv))))
    | true =>
      rw [if_pos rfl]
      refine c_yield ha' fun s4 h4 n4=>?_
      show RgC i (if s4.1.cursor = s1.1.cursor then (if true = true then k (s1.1.cursor + m) 0 (mcl.put (s1.1.cursor + m) s4.1,s4.2) else _) else (if false = true then _ else claimL mrl mcl mel (M0 n fs) _ m f s4 k)) s4
      by_cases hd : s4.1.cursor = s1.1.cursor
      · rw [if_pos hd,if_pos rfl]
        have hi1:=h1.inv
        refine hk _ _ s4 (mcl.put (s1.1.cursor + m) s4.1,s4.2) ⟨⟨?_,fun _ _=>rfl⟩,?_⟩ ⟨?_,?_⟩
        · show s4.1.cursor≤s1.1.cursor + m; omega
        · exact ⟨by show -1≤s1.1.cursor + m; have:=hi1.1; omega,by show s1.1.cursor + m < _; omega⟩
        · show s.1.cursor≤s1.1.cursor + m; have:=n1.le; omega
        · exact (n1.trans (n2.trans (n3.trans n4))).own
      · rw [if_neg hd]
        show RgC i (claimL mrl mcl mel (M0 n fs) _ m f s4 k) s4
        have e2:=n2.le; have e3:=n3.le; have e4:=n4.le; have e1:=n1.le
        exact c_claimL i kk n fs m hm f s4 s4 h4 (by omega) fun x e u v hu hv=>hk x e u v hu (n1.trans (n2.trans (n3.trans (n4.trans hv))))
theorem c_claim {i kk n : Nat} {fs : Int} {s0 s : MSS} (h : CCur i s0 s) (m : Int) {k : Int→Int→MSS→Tree MSS MSS} (hk : ∀ x e,After i s (k x e)) : RgC i (claimM mrl mcl mel (M0 n fs) (fun c s kk'=>rleastT kk kk c (-1) s kk') m s k) s0:=by
  unfold claimM
  by_cases hm : m < 1∨((M0 n fs).n : Int) < m
  · rw [if_pos hm]; exact hk _ _ _ _ h (.refl _ _)
  · rw [if_neg hm]
    exact c_claimL i kk n fs m (by omega) _ s0 s h (by have:=h.inv.1; omega) hk
theorem c_do1 {i kk n : Nat} {fs : Int} {s0 s : MSS} (h : CCur i s0 s) (o : OpI) (ho : o.kind = 1) {k : Ans→MSS→Tree MSS MSS} (hk : ∀ a,After i s (k a)) : RgC i (doM (M0 n fs) kk i o s k) s0:=by
  unfold doM
  rw [if_pos ho]
  refine c_claim h _ fun x e a a' ha hb=>?_
  split
  · obtain ⟨h3,h4⟩:=c_here ha (s':=clm a' i (x - o.a + 1) o.a) rfl rfl
    exact hk _ _ _ h3 (hb.trans h4)
  · exact hk _ _ _ ha hb
theorem c_thr1 (i kk n : Nat) (fs : Int) : ∀ (l : List OpI) (own : List Ans) (s0 s : MSS),(∀ o ∈ l,o.kind = 1)→CCur i s0 s→s.2 i = own→RgC i (thrQ (doM (M0 n fs) kk i) i l own s) s0
  | [],own,s0,s,_,h,ho=>⟨(),h.gu,h.inv,trivial⟩
  | o :: l,own,s0,s,hl,h,ho=>by
    refine c_do1 h o (hl o (List.mem_cons_self ..)) fun a s0' s' h' hn=>?_
    have e : s'.2 i = own:=hn.own.trans ho
    show RgC i (if s'.2 i = own then thrQ (doM (M0 n fs) kk i) i l (own ++ [a]) (pushQ i a s') else .cut) s0'
    rw [if_pos e]
    exact c_thr1 i kk n fs l (own ++ [a]) s0' (pushQ i a s') (fun o ho=>hl o (List.mem_cons_of_mem _ ho)) ⟨⟨h'.gu.1,fun l hl=>(show (if l = i then _ else s'.2 l) = _ by rw [if_neg hl]; exact h'.gu.2 l hl)⟩,h'.inv⟩ (show (if i = i then s'.2 i ++ [a] else s'.2 i) = _ by rw [if_pos rfl,e])
theorem multi_soundC (n kk N : Nat) (fs : Int) (ops : Nat→List OpI) (hk : ∀ i,∀ o ∈ ops i,o.kind = 1) (S : MSt) (h0 : -1≤S.cursor) (h1 : S.cursor < 4611686018427387904) : Sound (brQ (doM (M0 n fs) kk) ops) N (S,fun _=>[]):=
  rg_sound (c_rgs N) (g0:=()) (show cI () (S,fun _=>[]) from ⟨h0,h1⟩) fun i hi g s hr hI=>by
    show RgC i (if s.2 i = [] then thrQ _ i (ops i) [] s else .cut) s
    rw [if_pos hr.2]
    exact c_thr1 i kk n fs _ _ s s (hk i) (.refl hI) hr.2
def awOps : Nat→List OpI
  | 0=>[⟨1,1,0,0⟩]
  | 1=>[⟨1,1,0,0⟩]
  | _=>[]
def awRun : Run MSS:=playRun (brQ (doM (M0 4 0) 0) awOps) 2 100 [0,0,1,1,0,1] (s0O [4,0],fun _=>[])
theorem aw_ans0 : awRun.m.s.2 0 = [⟨true,0,[]⟩]:=by kernel_rfl
theorem aw_ans1 : awRun.m.s.2 1 = [⟨true,1,[]⟩]:=by kernel_rfl
theorem aw_cursor : awRun.m.s.1.cursor = 1:=by kernel_rfl
theorem aw_seen : awRun.m.s.1.seen = -1:=by kernel_rfl
theorem aw_left : awRun.m.left 2 = 0:=by kernel_rfl
theorem aw_order : awRun.order.length = 9:=by kernel_rfl
set_option maxHeartbeats 2000000 in
set_option maxRecDepth 100000 in
theorem awake_true (hP : Prog Try.prog) (Post : Value→World→Prop) (W0 w0 : World) (hle : W0.heap.size≤w0.heap.size) : Ccalls (lgA hP Post W0) 8 #[] () w0 fun v _ w'=>v = .bool true∧Kpt W0 w0 w':=by
  intro c mid hR
  have HR:=Lib.hid hR
  clear hR
  have hs : ¬ (lgA hP Post W0).strict:=fun h=>h
  rw [show Frame.enter Try.prog 8 #[] .normal = Frame.at { (default : Frame) with fn:=8,kind:=.normal } ⟨#[] ++ Array.replicate (Try.f8.ntmps - 0) undef,[]⟩ [.code (Try.f8.body.getD .skip)] from by simp [Frame.enter,Frame.at,Try.func8]; rfl]
  simp only [Try.f8,Option.getD_some,Nat.reduceSub,Array.replicate_succ,Array.replicate_zero,List.push_toArray,List.append_toArray,List.nil_append,List.cons_append]
  refine Lg.move _ (fun _ _=>step_seq) (fun h=>h) ?_
  refine Lg.code fun K hK y τ n' hy=>?_
  have hst : Kpt W0 w0 y:=by rw [hy]; exact (Kpt.refl _ (y.re τ n')).re
  have hsz : y.heap.size = w0.heap.size:=by rw [hy]; rfl
  have HSZ:=Lib.hid hsz
  clear hy hsz
  go_wp2
  refine hK _ _ (fun h=>absurd h hs) ?_
  clear hK K
  refine Lg.move _ (fun _ _=>step_seq) (fun h=>h) ?_
  refine Lg.move _ (fun _ _=>step_region) (fun h=>h) ?_
  refine Lg.pre 0 7 3 (by simp) fun K hK z τ n' hz=>?_
  subst hz
  have hst:=hst.re
  have hsz2 : z.heap.size = w0.heap.size:=HSZ.out
  clear HSZ
  have HSZ:=Lib.hid hsz2
  clear hsz2
  have HST:=Lib.hid hst
  clear hst
  simp only [List.drop_zero,List.take_succ_cons,List.take_zero]
  go_wp2
  refine hK _ _ (fun h=>absurd h hs) ?_
  clear hK K
  generalize hw : World.alloc _ _ = w1
  obtain ⟨f0,f1,f2,f3,f4,f5,f6⟩:=five_boxes z _ _ _ _ _ hw.symm
  clear hw
  generalize z.heap.size = B at f0 f1 f2 f3 f4 f5 HSZ ⊢
  have hk1 : Kpt W0 w0 w1:=HST.out.trans (Kpt.old f6)
  obtain ⟨b1,hb1⟩ : ∃ b1,b1 = B + 1:=⟨_,rfl⟩
  obtain ⟨b2,hb2⟩ : ∃ b2,b2 = B + 1 + 1:=⟨_,rfl⟩
  obtain ⟨b3,hb3⟩ : ∃ b3,b3 = B + 1 + 1 + 1:=⟨_,rfl⟩
  obtain ⟨b4,hb4⟩ : ∃ b4,b4 = B + 1 + 1 + 1 + 1:=⟨_,rfl⟩
  rw [← hb4] at f4 ⊢
  rw [← hb3] at f3 ⊢
  rw [← hb2] at f2 f3 ⊢
  rw [← hb1] at f1 f3 ⊢
  have hstart : NumsIn w1 (some ⟨B,0,none⟩) 2 [4,0]:=⟨by decide,by unfold maxLen; decide,fun i hi=>⟨B,0,rfl,by
    rw [cell_of_row w1 B (0 + i) _ _ _ f0]
    match i,hi with
    | 0,_=>rfl
    | 1,_=>rfl⟩⟩
  have hrows : RowsAt w1 b3 0 2 (fun i=>if i = 0 then some ⟨b1,0,none⟩ else some ⟨b2,0,none⟩) (fun _=>1) (fun _=>1):=⟨fun i hi=>by
    rw [cell_of_row w1 b3 (0 + i) _ _ _ f3]
    match i,hi with
    | 0,_=>rfl
    | 1,_=>rfl,fun _ _=>Nat.le_refl _,fun _ _=>by unfold maxLen; decide,fun i hi h=>by split at h <;> cases h⟩
  have hin : OpsCells W0 SC w1 2 (fun i=>if i = 0 then some ⟨b1,0,none⟩ else some ⟨b2,0,none⟩) (fun _=>1) awOps:=⟨fun i hi=>by
      match i,hi with
      | 0,_=>rfl
      | 1,_=>rfl,fun i hi o ho=>by
      match i,hi with
      | 0,_=>simp only [awOps,List.mem_singleton] at ho; subst ho; exact ⟨⟨by decide,by decide,by decide,by decide⟩,rfl⟩
      | 1,_=>simp only [awOps,List.mem_singleton] at ho; subst ho; exact ⟨⟨by decide,by decide,by decide,by decide⟩,rfl⟩,fun i hi j hj=>by
      match i,hi with
      | 0,_ =>
        have hj0 : j = 0:=by have : j < 1:=hj; omega
        subst hj0
        exact ⟨b1,0,_,_,_,rfl,f1,.inl (by decide),fun m hm=>by
          match m,hm with
          | 0,_=>rfl
          | 1,_=>rfl
          | 2,_=>rfl
          | 3,_=>rfl⟩
      | 1,_ =>
        have hj0 : j = 0:=by have : j < 1:=hj; omega
        subst hj0
        exact ⟨b2,0,_,_,_,rfl,f2,.inl (by decide),fun m hm=>by
          match m,hm with
          | 0,_=>rfl
          | 1,_=>rfl
          | 2,_=>rfl
          | 3,_=>rfl⟩⟩
  have hsch : SchI W0 (.slice (some ⟨b4,0,none⟩) 6 6) [0,0,1,1,0,1] (fun b=>∃ i o,i < 2∧(if i = 0 then some (⟨b1,0,none⟩ : Addr) else some ⟨b2,0,none⟩) = some ⟨b,o,none⟩) w1:=⟨⟨_,_,rfl,fun i hi=>⟨b4,0,_,_,_,rfl,f4,.inr ⟨by decide,fun ⟨i,o,h1,h2⟩=>by
      split at h2 <;> (cases h2; omega)⟩,by
      match i,hi with
      | 0,_=>rfl
      | 1,_=>rfl
      | 2,_=>rfl
      | 3,_=>rfl
      | 4,_=>rfl
      | 5,_=>rfl⟩⟩,by unfold maxLen; decide⟩
  have hpl:=multi_playC hP Post W0 4 [4,0] (some ⟨B,0,none⟩) 2 rfl (by decide) (by decide) (by decide) (by decide) (by decide) (by decide) (some ⟨b3,0,none⟩) b3 0 2 2 (fun _=>rfl) (by unfold maxLen; decide) (fun i=>if i = 0 then some ⟨b1,0,none⟩ else some ⟨b2,0,none⟩) (fun _=>1) (fun _=>1) awOps (.slice (some ⟨b4,0,none⟩) 6 6) [0,0,1,1,0,1] 100 w1 (by have:=hk1.size; omega) hstart hrows hin hsch (multi_soundC _ _ _ _ _ (fun i o ho=>by
    match i,ho with
    | 0,ho=>cases List.mem_singleton.1 ho; rfl
    | 1,ho=>cases List.mem_singleton.1 ho; rfl
    | _ + 2,ho=>cases ho) _ (by decide) (by decide))
  refine Lg.call (i:=7) (rest:=[8,9]) (f:=10) (args:=#[.slice (some ⟨B,0,none⟩) 2 2,.slice (some ⟨b3,0,none⟩) 2 2,.slice (some ⟨b4,0,none⟩) 6 6,.int .i64 100]) rfl rfl (fun y=>by go_simp) hpl ?_
  rintro vv t'' w2 hdone
  rw [show (heldI 100 1048576).toNat = 100 from by decide] at hdone
  have hd : PlayG W0 10 (stateM 4 0) awRun 2 w1 vv w2:=hdone
  clear hdone hpl hsch hin hrows hstart f0 f1 f2 f3 f4 f5 f6
  have hk2:=hk1.trans hd.kpt
  obtain ⟨ab,ov,tv,H,hab,hvv,hov,htv,hans,hnear,htv2⟩:=hd.ex
  obtain ⟨g0,c0,a0,a1,a2,a3⟩:=hans.one (i:=0) (by decide) aw_ans0
  obtain ⟨g1,c1,e0,e1,e2,e3⟩:=hans.one (i:=1) (by decide) aw_ans1
  obtain ⟨oA,oc,rfl⟩:=own_slice hov
  obtain ⟨tA,tc,rfl⟩:=own_slice htv
  obtain ⟨sb,so,rfl,hnum⟩:=(IntsAt.of_own htv).fix (by decide)
  have s0:=hnum 0 (by decide)
  have s1:=hnum 1 (by decide)
  rw [show (stateM 4 0 awRun.m.s.1).getD 0 0 = 1 from aw_cursor,Nat.add_zero] at s0
  rw [show (stateM 4 0 awRun.m.s.1).getD 1 0 = -1 from aw_seen] at s1
  rw [aw_left] at hvv
  rw [aw_order] at hvv
  subst hvv
  have HX:=Lib.hid (And.intro hk2 (And.intro (And.intro a0 (And.intro a1 (And.intro a2 a3))) (And.intro (And.intro e0 (And.intro e1 (And.intro e2 e3))) (And.intro s0 s1))))
  clear hd hk1 hk2 hans hnear htv htv2 hov a0 a1 a2 a3 hnum hab hb1 hb2 hb3 hb4 HST HSZ e0 e1 e2 e3 s0 s1
  rw [Frame.finish_at]
  walk_nrm
  refine (show (lgA hP Post W0).T _ (Frame.at _ ⟨_,[]⟩ (.inRegion _ (List.range' 8 (2 + 0)) :: _)) (c :: mid) w2 from ?_)
  refine Lg.pre 8 2 0 (by simp) fun K hK q τ n' hq=>?_
  subst hq
  have HX:=HX
  simp only [List.drop_succ_cons,List.drop_zero,List.take_succ_cons,List.take_zero]
  go_wp2
  refine hK _ _ (fun h=>absurd h hs) ?_
  clear hK K
  refine Lg.move _ (fun _ _=>step_region_end) (fun h=>h) ?_
  refine Lg.rest (R:=fun v w'=>v = .bool true∧Kpt W0 w0 w') (fun h=>h) rfl Try.func8 (fun y τ2 n2 hy=>?_) (fun v w' h=>HR.out v _ w' h)
  obtain ⟨hk2,⟨a0,a1,a2,a3⟩,⟨e0,e1,e2,e3⟩,s0,s1⟩:=HX.out
  have hk2:=hk2.re
  have a0 : q.cell? ⟨ab,0,none⟩ = _:=a0
  have a2 : q.cell? ⟨g0,0,none⟩ = _:=a2
  have a3 : q.cell? ⟨g0,1,none⟩ = _:=a3
  have e0 : q.cell? ⟨ab,1,none⟩ = _:=e0
  have e2 : q.cell? ⟨g1,0,none⟩ = _:=e2
  have e3 : q.cell? ⟨g1,1,none⟩ = _:=e3
  have s0 : q.cell? ⟨sb,so,none⟩ = _:=s0
  have s1 : q.cell? ⟨sb,so + 1,none⟩ = _:=s1
  obtain ⟨O,hO⟩ : ∃ O,O = Obj.cells #[.slice (some ⟨ab,0,none⟩) 2 2,.slice oA 9 oc,.slice (some ⟨sb,so,none⟩) 10 tc,.bool false] 29:=⟨_,rfl⟩
  have hb5:=Blk.new q 29 #[.slice (some ⟨ab,0,none⟩) 2 2,.slice oA 9 oc,.slice (some ⟨sb,so,none⟩) 10 tc,.bool false]
  have up : ∀ b o v,q.cell? ⟨b,o,none⟩ = some v→(q.alloc O).cell? ⟨b,o,none⟩ = some v:=fun b o v h=>(World.cell?_of_block (w:=q) (a:=⟨b,o,none⟩) (Below.heap_alloc _ _ _ (lt_of_cell h))).trans h
  have a0:=up _ _ _ a0
  have a2:=up _ _ _ a2
  have a3:=up _ _ _ a3
  have e0:=up _ _ _ e0
  have e2:=up _ _ _ e2
  have e3:=up _ _ _ e3
  have s0:=up _ _ _ s0
  have s1:=up _ _ _ s1
  have hk5:=hk2.trans (Kpt.old ((Old.refl q.heap.size q).new (Nat.le_refl _) O))
  rw [← hO] at hb5 hy
  clear hO
  generalize q.heap.size = b5 at hb5 ⊢
  generalize q.alloc O = w5 at hb5 a0 a2 a3 e0 e2 e3 s0 s1 hk5 hy
  subst hy
  have a0 : y.cell? ⟨ab,0,none⟩ = _:=a0
  have a2 : y.cell? ⟨g0,0,none⟩ = _:=a2
  have a3 : y.cell? ⟨g0,1,none⟩ = _:=a3
  have e0 : y.cell? ⟨ab,1,none⟩ = _:=e0
  have e2 : y.cell? ⟨g1,0,none⟩ = _:=e2
  have e3 : y.cell? ⟨g1,1,none⟩ = _:=e3
  have s0 : y.cell? ⟨sb,so,none⟩ = _:=s0
  have s1 : y.cell? ⟨sb,so + 1,none⟩ = _:=s1
  have hb5 : Blk y b5 _ _:=hb5
  have t0:=hb5.cell 0
  have t1:=hb5.cell 1
  have t2:=hb5.cell 2
  have t3:=hb5.cell 3
  simp at t0 t1 t2 t3 a2 a3 e2 e3
  have HK:=Lib.hid hk5.re
  clear hk2 hk5 hb5 up HX
  go_wp2
  go_ret
  exact ⟨_,rfl,rfl,HK.out⟩
end Go.Proofs.Ytoepekcheapgmaa
