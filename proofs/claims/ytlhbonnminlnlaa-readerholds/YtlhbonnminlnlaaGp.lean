/- DERIVED. The document's example of a writer and a reader (carillonlaw16: awake) holds, goroutine 0 alone. -/
import Derived.Test.YtlhbonnminlnlaaGn
import Derived.Test.YtlhbonnminlnlaaGd
import Derived.Test.YtlhbonnminlnlaaGo
import Derived.Test.YtlhbonnminlnlaaGi
import Derived.Test.YtlhbonnminlnlaaGh
set_option linter.unusedVariables false
set_option linter.unusedSectionVars false
set_option linter.unusedSimpArgs false
namespace Go.Proofs.Ytlhbonnminlnlaa
open Go.RowKit Go.Turn Go.Tame Go.Conc
def awOps : Nat→List OpI
 | 0=>[⟨1,10,2,0⟩,⟨1,12,1,0⟩]
 | 1=>[⟨2,0,0,0⟩,⟨3,9,0,0⟩,⟨7,9,0,0⟩]
 | _=>[]
noncomputable def awRun : Run RSS:=playRun (brQ (doR (M0 4 0) 2) awOps) 2 1000 [0,0,0,0,0,0,0,0,0,0,0,1,1,1,1,1,1,0,0,0,0] (r0O [4,0],fun _=>[])
theorem aw_ans1 : awRun.m.s.2 1 = [⟨true,2,[]⟩,⟨true,0,[12]⟩,⟨true,0,[0,10,11,12]⟩]:=by kernel_rfl
theorem aw_left : awRun.m.left 2 = 0:=by kernel_rfl
open Go.ConcN (upd upd_ne upd_same)
def wA (s s' : RSS) : Prop:=s'.1.cursor = s.1.cursor∧s'.1.seen = s.1.seen∧s'.2 0 = s.2 0
def wB (s s' : RSS) : Prop:=s'.1.mem = s.1.mem∧s'.1.rj 1 = s.1.rj 1∧s'.1.rn 1 = s.1.rn 1∧s'.1.fn 1 = s.1.fn 1∧s'.2 1 = s.2 1
theorem wA.refl (s : RSS) : wA s s:=⟨rfl,rfl,rfl⟩
theorem wB.refl (s : RSS) : wB s s:=⟨rfl,rfl,rfl,rfl,rfl⟩
theorem wA.trans {a b c : RSS} (h : wA a b) (k : wA b c) : wA a c:=⟨k.1.trans h.1,k.2.1.trans h.2.1,k.2.2.trans h.2.2⟩
theorem wB.trans {a b c : RSS} (h : wB a b) (k : wB b c) : wB a c:=⟨k.1.trans h.1,k.2.1.trans h.2.1,k.2.2.1.trans h.2.2.1,k.2.2.2.1.trans h.2.2.2.1,k.2.2.2.2.trans h.2.2.2.2⟩
def ownR (i : Nat) : RSS→RSS→Prop:=if i = 0 then wA else wB
def guaR (i : Nat) : RSS→RSS→Prop:=if i = 0 then wB else wA
def rI (_ : Unit) (s : RSS) : Prop:=-1≤s.1.cursor
def rP (i : Nat) : RGp RSS Unit:=⟨fun _ s _ s'=>guaR i s s',fun _ s _ s'=>ownR i s s',fun _ _=>True⟩
theorem ownR.refl (i : Nat) (s : RSS) : ownR i s s:=by unfold ownR; split; exact wA.refl s; exact wB.refl s
theorem guaR.refl (i : Nat) (s : RSS) : guaR i s s:=by unfold guaR; split; exact wB.refl s; exact wA.refl s
theorem ownR.trans {i : Nat} {a b c : RSS} (h : ownR i a b) (k : ownR i b c) : ownR i a c:=by unfold ownR at *; split at h; (rename_i e; rw [if_pos e] at k ⊢; exact wA.trans h k); (rename_i e; rw [if_neg e] at k ⊢; exact wB.trans h k)
theorem guaR.trans {i : Nat} {a b c : RSS} (h : guaR i a b) (k : guaR i b c) : guaR i a c:=by unfold guaR at *; split at h; (rename_i e; rw [if_pos e] at k ⊢; exact wB.trans h k); (rename_i e; rw [if_neg e] at k ⊢; exact wA.trans h k)
theorem r_rgs : RGs rI 2 rP where
 refl:=fun i hi g s=>ownR.refl i s
 trans:=fun i hi g s g1 s1 g2 s2 h1 h2=>ownR.trans h1 h2
 sub:=fun i j hi hj hne g s g' s' hI h hI'=>by
  show ownR j s s'
  have h : guaR i s s':=h
  unfold ownR; unfold guaR at h
  by_cases e : i = 0
  ·rw [if_pos e] at h; rw [if_neg (by omega)]; exact h
  ·rw [if_neg e] at h; rw [if_pos (by omega)]; exact h
 stable:=fun i hi g s g' s' hI h hr hI'=>trivial
abbrev RgR (i : Nat) (t : Tree RSS RSS) (s : RSS) : Prop:=t.Rg rI (rP i) () s
structure RC (i : Nat) (s0 s : RSS) : Prop where
 gu : guaR i s0 s
 inv : rI () s
def AftR (i : Nat) (s : RSS) (k : RSS→Tree RSS RSS) : Prop:=∀ s0 s',RC i s0 s'→ownR i s s'→RgR i (k s') s0
section
variable {i : Nat} {s0 s : RSS} (h : RC i s0 s)
include h
theorem r_yield {k : RSS→Tree RSS RSS} (hk : ∀ s',RC i s' s'→ownR i s s'→RgR i (k s') s') : RgR i (.yield s k) s0:=
 ⟨(),h.gu,h.inv,fun _ s2 hr hI=>hk s2 ⟨guaR.refl i s2,hI⟩ hr⟩
theorem r_load (l : WLens RdS) {k : Int→RSS→Tree RSS RSS} (hk : ∀ s',RC i s' s'→ownR i s s'→RgR i (k (l.get s'.1) s') s') : RgR i (loadW l s k) s0:=r_yield h hk
theorem r_neut {s' : RSS} (e1 : s'.1.cursor = s.1.cursor) (e2 : s'.1.seen = s.1.seen) (e3 : s'.1.mem = s.1.mem) (e4 : s'.1.rj = s.1.rj) (e5 : s'.1.rn = s.1.rn) (e6 : s'.1.fn = s.1.fn) (e7 : s'.2 = s.2) : RC i s0 s'∧ownR i s s':=by
 have a : wA s s':=⟨e1,e2,by rw [e7]⟩
 have b : wB s s':=⟨e3,by rw [e4],by rw [e5],by rw [e6],by rw [e7]⟩
 refine ⟨⟨h.gu.trans ?_,by have:=h.inv; unfold rI at this ⊢; rw [e1]; exact this⟩,?_⟩
 ·unfold guaR; split; exact b; exact a
 ·unfold ownR; split; exact a; exact b
theorem r_put (n : Nat) (q v : Int) {k : Int→RSS→Tree RSS RSS} (hk : ∀ e,AftR i s (k e)) : RgR i (putG rrl n q v s k) s0:=by
 unfold putG
 split
 ·refine r_yield h fun s1 h1 n1=>?_
  obtain ⟨h2,n2⟩:=r_neut h1 (s':=rrl.st s1 (q % n).toNat (2 * (q / n) - 1)) rfl rfl rfl rfl rfl rfl rfl
  refine r_yield h2 fun s3 h3 n3=>?_
  obtain ⟨h4,n4⟩:=r_neut h3 (s':=rrl.va s3 (q % n).toNat v) rfl rfl rfl rfl rfl rfl rfl
  refine r_yield h4 fun s5 h5 n5=>?_
  obtain ⟨h6,n6⟩:=r_neut h5 (s':=rrl.st s5 (q % n).toNat (2 * (q / n))) rfl rfl rfl rfl rfl rfl rfl
  exact hk _ _ _ h6 (n1.trans (n2.trans (n3.trans (n4.trans (n5.trans n6)))))
 ·exact hk _ _ _ h (ownR.refl _ _)
theorem r_get (n : Nat) (q : Int) {k : Int→Int→RSS→Tree RSS RSS} (hk : ∀ v e,AftR i s (k v e)) : RgR i (getG rrl n q s k) s0:=by
 unfold getG
 split
 ·refine r_yield h fun s1 h1 n1=>?_
  split
  ·exact hk _ _ _ _ h1 n1
  split
  ·exact hk _ _ _ _ h1 n1
  refine r_yield h1 fun s2 h2 n2=>?_
  refine r_yield h2 fun s3 h3 n3=>?_
  split
  ·exact hk _ _ _ _ h3 (n1.trans (n2.trans n3))
  ·exact hk _ _ _ _ h3 (n1.trans (n2.trans n3))
 ·exact hk _ _ _ _ h (ownR.refl _ _)
theorem r_there (n : Nat) (q : Int) {k : Bool→RSS→Tree RSS RSS} (hk : ∀ b,AftR i s (k b)) : RgR i (thereG rrl n q s k) s0:=by
 unfold thereG
 split
 ·exact r_yield h fun s' h1 h2=>hk _ _ _ h1 h2
 ·exact hk _ _ _ h (ownR.refl _ _)
theorem r_gset (j : Nat) (x : Int) {k : RSS→Tree RSS RSS} (hk : AftR i s k) : RgR i (gsetT j x s k) s0:=
 r_yield h fun s1 h1 n1=>by
  obtain ⟨h2,n2⟩:=r_neut h1 (s':=({ s1.1 with num:=upd s1.1.num j x },s1.2)) rfl rfl rfl rfl rfl rfl rfl
  exact hk _ _ h2 (n1.trans n2)
end
theorem r_high (i n : Nat) {k : Int→RSS→Tree RSS RSS} : ∀ (m : Nat) (q : Int) (s0 s : RSS),RC i s0 s→(∀ x,q - 1≤x→x≤q + m - 1→AftR i s (k x))→RgR i (highT rrl n m q s k) s0
 | 0,q,s0,s,h,hk=>hk _ (Int.le_refl _) (by simp) _ _ h (ownR.refl _ _)
 | m + 1,q,s0,s,h,hk=>by
   refine r_yield h fun s' h1 h2=>?_
   show RgR i (if ((rrl.get s'.fst).fst (q % ↑n).toNat == 2 * (q / ↑n)) = true then highT rrl n m (q + 1) s' k else k (q - 1) s') s'
   split
   ·exact r_high i n m (q + 1) s' s' h1 fun x a b=>fun u v hu hv=>hk x (by omega) (by omega) u v hu (h2.trans hv)
   ·exact hk _ (Int.le_refl _) (by omega) _ _ h1 h2
theorem r_wrot (i n : Nat) (fs : Int) {k : Bool→RSS→Tree RSS RSS} : ∀ (m : Nat) (q : Int) (s0 s : RSS),RC i s0 s→(∀ b,AftR i s (k b))→RgR i (wrotL rrl (M0 n fs) m q s k) s0
 | 0,q,s0,s,h,hk=>hk _ _ _ h (ownR.refl _ _)
 | m + 1,q,s0,s,h,hk=>by
   show RgR i (if fs≤q then thereG rrl n q s fun b s=>if b then wrotL rrl (M0 n fs) m (q + 1) s k else k false s else wrotL rrl (M0 n fs) m (q + 1) s k) s0
   split
   ·refine r_there h n q fun b u v hu hv=>?_
    cases b with
    | false=>exact hk false u v hu hv
    | true=>exact r_wrot i n fs m (q + 1) u v hu fun b u' v' hu' hv'=>hk b u' v' hu' (hv.trans hv')
   ·exact r_wrot i n fs m (q + 1) s0 s h hk
theorem r_gets (i n : Nat) {k : Option (List Int)→RSS→Tree RSS RSS} : ∀ (m : Nat) (q : Int) (all : List Int) (s0 s : RSS),RC i s0 s→(∀ o,AftR i s (k o))→RgR i (getsT n m q all s k) s0
 | 0,q,all,s0,s,h,hk=>hk _ _ _ h (ownR.refl _ _)
 | m + 1,q,all,s0,s,h,hk=>r_get h n q fun v e u w hu hw=>by
   show RgR i (if e = 0 then getsT n m (q + 1) (all ++ [v]) w k else k none w) u
   split
   ·exact r_gets i n m _ _ u w hu fun o u' w' hu' hw'=>hk o u' w' hu' (hw.trans hw')
   ·exact hk none u w hu hw
theorem r_lays (i n : Nat) (fs b : Int) {k : RSS→Tree RSS RSS} : ∀ (vs : List Int) (j : Nat) (s0 s : RSS),RC i s0 s→AftR i s k→RgR i (laysT rrl (M0 n fs) b vs j s k) s0
 | [],j,s0,s,h,hk=>hk _ _ h (ownR.refl _ _)
 | v :: vs,j,s0,s,h,hk=>r_put h _ _ _ fun e a a' ha hb=>r_lays i n fs b vs (j + 1) a a' ha fun u v hu hv=>hk u v hu (hb.trans hv)
end Go.Proofs.Ytlhbonnminlnlaa
namespace Go.Proofs.Ytlhbonnminlnlaa
open Go.RowKit Go.Turn Go.Tame Go.Conc
open Go.ConcN (upd upd_ne upd_same)
abbrev noHold : HoldT RSS:=fun _ _ _=>.cut
theorem r_claim {s0 s : RSS} (h : RC 0 s0 s) (n c e : Int) (hs : s.1.cursor = c∧s.1.seen = e) (hn : 1≤n) (hfree : c + n - 4≤e) {k : Int→Int→RSS→Tree RSS RSS}
  (hk : ∀ x er s0' s',RC 0 s0' s'→s'.1.seen = e→(s'.1.cursor = c∨s'.1.cursor = c + n)→s'.2 0 = s.2 0→RgR 0 (k x er s') s0') : RgR 0 (claimM rrl rcl rel (M0 4 0) noHold n s k) s0:=by
 have key : ∀ {a b : RSS},ownR 0 a b→b.1.cursor = a.1.cursor∧b.1.seen = a.1.seen∧b.2 0 = a.2 0:=fun z=>z
 unfold claimM
 by_cases hm : n < 1∨((M0 4 0).n : Int) < n
 ·rw [if_pos hm]; exact hk _ _ _ _ h hs.2 (.inl hs.1) rfl
 rw [if_neg hm]
 show RgR 0 (claimL rrl rcl rel (M0 4 0) noHold n (4611686018427387905 + 1) s k) s0
 refine r_load h rcl fun s1 h1 n1=>?_
 obtain ⟨a1,a2,a3⟩:=key n1
 have e1 : s1.1.cursor = c:=a1.trans hs.1
 have e1' : rcl.get s1.1 = c:=e1
 rw [e1']
 by_cases he : 4611686018427387904≤c + n
 ·rw [if_pos he]; exact hk _ _ _ _ h1 (a2.trans hs.2) (.inl e1) a3
 rw [if_neg he]
 refine r_load h1 rel fun s2 h2 n2=>?_
 obtain ⟨b1,b2,b3⟩:=key n2
 have e2 : s2.1.seen = e:=b2.trans (a2.trans hs.2)
 have e2' : rel.get s2.1 = e:=e2
 rw [e2',if_pos (show c + n - ((M0 4 0).n : Int)≤e from hfree)]
 dsimp only
 rw [if_pos rfl]
 refine r_wrot 0 4 0 _ _ _ _ h2 fun b u v hu hv=>?_
 obtain ⟨c1,c2,c3⟩:=key hv
 have e3 : v.1.cursor = c:=c1.trans (b1.trans e1)
 have e4 : v.1.seen = e:=c2.trans e2
 have e5 : v.2 0 = s.2 0:=c3.trans (b3.trans a3)
 cases b with
 | false =>
   rw [if_neg (by decide)]
   refine r_load hu rcl fun s4 h4 n4=>?_
   obtain ⟨d1,d2,d3⟩:=key n4
   show RgR 0 (if s4.1.cursor = c then k 0 3 s4 else _) s4
   rw [if_pos (d1.trans e3)]
   exact hk _ _ _ _ h4 (d2.trans e4) (.inl (d1.trans e3)) (d3.trans e5)
 | true =>
   rw [if_pos rfl]
   refine r_yield hu fun s4 h4 n4=>?_
   obtain ⟨d1,d2,d3⟩:=key n4
   show RgR 0 (if s4.1.cursor = c then (if true = true then k (c + n) 0 (rcl.put (c + n) s4.1,s4.2) else _) else _) s4
   rw [if_pos (d1.trans e3),if_pos rfl]
   refine hk _ _ s4 (rcl.put (c + n) s4.1,s4.2) ⟨⟨rfl,rfl,rfl,rfl,rfl⟩,?_⟩ (d2.trans e4) (.inr rfl) (d3.trans e5)
   have:=h.inv
   show -1≤c + n
   have hc : -1≤s.1.cursor:=this
   omega
theorem r_offer {s0 s : RSS} (h : RC 0 s0 s) (vs : List Int) (c e : Int) (hs : s.1.cursor = c∧s.1.seen = e) (hn : 1≤vs.length) (hfree : c + vs.length - 4≤e) {k : Int→Int→RSS→Tree RSS RSS}
  (hk : ∀ x er s0' s',RC 0 s0' s'→s'.1.seen = e→(s'.1.cursor = c∨s'.1.cursor = c + vs.length)→s'.2 0 = s.2 0→RgR 0 (k x er s') s0') : RgR 0 (offerT rrl rcl rel (M0 4 0) noHold vs s k) s0:=by
 refine r_claim h vs.length c e hs (by omega) hfree fun x er u v hu hv1 hv2 hv3=>?_
 show RgR 0 (if er = 0 then _ else _) u
 split
 ·refine r_lays 0 4 0 _ _ _ _ _ hu fun u' v' hu' hv'=>?_
  have hv' : wA v v':=hv'
  exact hk _ _ _ _ hu' (hv'.2.1.trans hv1) (by rw [hv'.1]; exact hv2) (hv'.2.2.trans hv3)
 ·exact hk _ _ _ _ hu hv1 hv2 hv3
theorem rc_push {i : Nat} {s0 s : RSS} (hi : i < 2) (h : RC i s0 s) (a : Ans) : RC i s0 (pushQ i a s):=by
 refine ⟨h.gu.trans ?_,h.inv⟩
 unfold guaR
 split
 ·rename_i e; subst e; exact ⟨rfl,rfl,rfl,rfl,by show (if (1 : Nat) = 0 then s.2 1 ++ [a] else s.2 1) = s.2 1; rw [if_neg (by decide)]⟩
 ·have e : i = 1:=by omega
  subst e; exact ⟨rfl,rfl,by show (if (0 : Nat) = 1 then s.2 0 ++ [a] else s.2 0) = s.2 0; rw [if_neg (by decide)]⟩
theorem push_own (i : Nat) (a : Ans) (s : RSS) : (pushQ i a s).2 i = s.2 i ++ [a]:=if_pos rfl
theorem doR1 {M : MIds} {k i : Nat} (hi : i < k) (a b c : Int) (st : RSS) (kk : Ans→RSS→Tree RSS RSS) : doR M k i ⟨1,a,b,c⟩ st kk = offerT rrl rcl rel M noHold (rowR a (wcountR M.n b)) st fun x e s=>kk (ansT x e) s:=by
 unfold doR
 rw [if_pos hi,if_pos rfl]
theorem doR2 {M : MIds} {k i : Nat} (hi : i < k) (a b c : Int) (st : RSS) (kk : Ans→RSS→Tree RSS RSS) : doR M k i ⟨2,a,b,c⟩ st kk = rjoinT i st fun n e s=>kk (ansT n e) s:=by
 unfold doR
 rw [if_pos hi,if_neg (show ¬ (2 : Int) = 1 by decide),if_pos rfl]
theorem doR3 {M : MIds} {k i : Nat} (hi : i < k) (a b c : Int) (st : RSS) (kk : Ans→RSS→Tree RSS RSS) : doR M k i ⟨3,a,b,c⟩ st kk = rreadT M.n i a st fun ls e s=>kk ⟨e == 0,toldN 0 e,ls⟩ s:=by
 unfold doR
 rw [if_pos hi,if_neg (show ¬ (3 : Int) = 1 by decide),if_neg (show ¬ (3 : Int) = 2 by decide),if_pos rfl]
theorem doR7 {M : MIds} {k i : Nat} (hi : i < k) (a b c : Int) (st : RSS) (kk : Ans→RSS→Tree RSS RSS) : doR M k i ⟨7,a,b,c⟩ st kk = followT M.n i a st fun ls lost e s=>kk ⟨e == 0,toldN 0 e,lost :: ls⟩ s:=by
 unfold doR
 rw [if_pos hi,if_neg (show ¬ (7 : Int) = 1 by decide),if_neg (show ¬ (7 : Int) = 2 by decide),if_neg (show ¬ (7 : Int) = 3 by decide),if_pos rfl]
theorem thr_cons {A : Type} (doT : DoQ A) (i : Nat) (o : OpI) (l : List OpI) (own : List Ans) (st : A × (Nat→List Ans)) : thrQ doT i (o :: l) own st = doT o st fun a st'=>if st'.2 i = own then thrQ doT i l (own ++ [a]) (pushQ i a st') else .cut:=rfl
theorem r_thread0 {s0 s : RSS} (h : RC 0 s0 s) (hs : s.1.cursor = -1∧s.1.seen = -1) (ho : s.2 0 = []) : RgR 0 (thrQ (doR (M0 4 0) 2 0) 0 [⟨1,10,2,0⟩,⟨1,12,1,0⟩] [] s) s0:=by
 rw [thr_cons,doR1 (by decide)]
 have l1 : (rowR 10 (wcountR (M0 4 0).n 2)).length = 2:=by kernel_rfl
 have l2 : (rowR 12 (wcountR (M0 4 0).n 1)).length = 1:=by kernel_rfl
 generalize rowR 10 (wcountR (M0 4 0).n 2) = r1 at l1 ⊢
 refine r_offer h r1 (-1) (-1) hs (by rw [l1]; decide) (by rw [l1]; decide) fun x er u v hu h1 h2 h3=>?_
 rw [l1] at h2
 rw [if_pos (h3.trans ho)]
 have hp:=rc_push (by decide) hu (ansT x er)
 have hown : (pushQ 0 (ansT x er) v).2 0 = [] ++ [ansT x er]:=by rw [push_own,h3,ho]
 generalize [] ++ [ansT x er] = own at hown ⊢
 have q1 : (pushQ 0 (ansT x er) v).1.seen = -1:=h1
 have q2 : (pushQ 0 (ansT x er) v).1.cursor = -1∨(pushQ 0 (ansT x er) v).1.cursor = 1:=h2
 generalize pushQ 0 (ansT x er) v = s at hp hown q1 q2 ⊢
 rw [thr_cons,doR1 (by decide)]
 generalize rowR 12 (wcountR (M0 4 0).n 1) = r2 at l2 ⊢
 refine r_offer hp r2 s.1.cursor (-1) ⟨rfl,q1⟩ (by rw [l2]; decide) (by rw [l2]; rcases q2 with z | z <;> rw [z] <;> decide) fun x er u v hu h1 h2 h3=>?_
 rw [if_pos (h3.trans hown)]
 have hp:=rc_push (by decide) hu (ansT x er)
 exact ⟨(),hp.gu,hp.inv,trivial⟩
theorem keyB {a b : RSS} (h : ownR 1 a b) : wB a b:=h
theorem r_join {s0 s : RSS} (h : RC 1 s0 s) (hm : s.1.mem = none) (hj : s.1.rj 1 = false) {k : Int→Int→RSS→Tree RSS RSS} (hk : ∀ n e s0' s',RC 1 s0' s'→s'.1.rj 1 = true→0≤s'.1.rn 1→s'.2 1 = s.2 1→RgR 1 (k n e s') s0') : RgR 1 (rjoinT 1 s k) s0:=by
 unfold rjoinT
 rw [if_neg (by rw [hj]; decide)]
 refine r_load h rcl fun s1 h1 n1=>?_
 have n1:=keyB n1
 refine r_yield h1 fun s2 h2 n2=>?_
 have n2:=n1.trans (keyB n2)
 show RgR 1 (match s2.1.mem with | none=>gsetT 1 (rcl.get s1.1) s2 _ | some _=>.cut) s2
 rw [show s2.1.mem = none from n2.1.trans hm]
 refine r_gset h2 1 _ fun u v hu hv=>?_
 have n3:=n2.trans (keyB hv)
 refine r_yield hu fun s3 h3 n4=>?_
 have n4:=n3.trans (keyB n4)
 show RgR 1 (match s3.1.mem with | none=>loadW rcl ({ s3.1 with mem:=some [((1 : Nat) : Int)] },s3.2) _ | some _=>.cut) s3
 rw [show s3.1.mem = none from n4.1.trans hm]
 have h4 : RC 1 s3 (({ s3.1 with mem:=some [((1 : Nat) : Int)] },s3.2) : RSS):=⟨⟨rfl,rfl,rfl⟩,h3.inv⟩
 refine r_load h4 rcl fun s5 h5 n5=>?_
 have n5:=keyB n5
 refine r_gset h5 1 _ fun u v hu hv=>?_
 have n6:=n5.trans (keyB hv)
 refine hk _ _ u (joinS 1 (s5.1.cursor + 1) v) ⟨hu.gu.trans ⟨rfl,rfl,rfl⟩,hu.inv⟩ (show (if (1 : Nat) = 1 then true else v.1.rj 1) = true from if_pos rfl) ?_ (n6.2.2.2.2.trans n4.2.2.2.2)
 show 0≤upd v.1.rn 1 (s5.1.cursor + 1) 1
 rw [upd_same]
 have : -1≤s5.1.cursor:=h5.inv
 omega
theorem r_read {s0 s : RSS} (h : RC 1 s0 s) (hj : s.1.rj 1 = true) (hn : 0≤s.1.rn 1) (n : Nat) (most : Int) {k : List Int→Int→RSS→Tree RSS RSS} (hk : ∀ ls e s0' s',RC 1 s0' s'→s'.2 1 = s.2 1→RgR 1 (k ls e s') s0') : RgR 1 (rreadT n 1 most s k) s0:=by
 unfold rreadT
 rw [if_pos hj]
 refine r_load h rcl fun s1 h1 n1=>?_
 have n1:=keyB n1
 obtain ⟨q,hq⟩ : ∃ q,s1.1.rn 1 = q:=⟨_,rfl⟩
 have hq0 : 0≤q:=by rw [← hq,n1.2.2.1]; exact hn
 rw [hq]
 generalize min (rcl.get s1.1) (q + min (max most 1) (n : Int) - 1) = b
 have fin : ∀ e,e < q∨e≤b→AftR 1 s1 fun s=>if s.1.rn 1 = q∧(e < q∨e≤b) then (if e < q then k [] 4 s else rread3 n 1 q e s k) else .cut:=fun e he u v hu hv=>by
  have n2:=keyB hv
  show RgR 1 (if v.1.rn 1 = q∧(e < q∨e≤b) then (if e < q then k [] 4 v else rread3 n 1 q e v k) else .cut) u
  rw [if_pos ⟨n2.2.2.1.trans hq,he⟩]
  have own:=n2.2.2.2.2.trans n1.2.2.2.2
  split
  ·exact hk _ _ _ _ hu own
  ·refine r_gets 1 n _ _ _ _ _ hu fun o u' v' hu' hv'=>?_
   have n3:=keyB hv'
   cases o with
   | none=>exact hk _ _ _ _ hu' (n3.2.2.2.2.trans own)
   | some all =>
     refine r_gset hu' 1 e fun u2 v2 hu2 hv2=>?_
     have n4:=n3.trans (keyB hv2)
     exact hk _ _ u2 _ ⟨hu2.gu.trans ⟨rfl,rfl,rfl⟩,hu2.inv⟩ (n4.2.2.2.2.trans own)
 unfold rread2 highG
 by_cases hc : InB q∧q≤b
 ·rw [if_pos hc]
  refine r_high 1 n _ _ _ _ h1 fun x x1 x2=>fin x ?_
  unfold highN at x2
  omega
 ·rw [if_neg hc]
  exact fin _ (.inl (by unfold pre64; split <;> omega)) _ _ h1 (ownR.refl _ _)
theorem r_fol (n : Nat) (c lost : Int) {own : List Ans} {k : List Int→Int→Int→RSS→Tree RSS RSS} (hk : ∀ ls lost e s0' s',RC 1 s0' s'→s'.2 1 = own→RgR 1 (k ls lost e s') s0') : ∀ (f : Nat) (q : Int) (ls : List Int) (s0 s : RSS),RC 1 s0 s→s.1.fn 1 = q→s.2 1 = own→RgR 1 (folL n 1 c lost f q ls s k) s0
 | 0,q,ls,s0,s,h,hf,ho=>by
   show RgR 1 (if ls = [] then k [] lost 4 s else k ls lost 0 s) s0
   split
   ·exact hk _ _ _ _ _ h ho
   ·exact hk _ _ _ _ _ h ho
 | f + 1,q,ls,s0,s,h,hf,ho=>by
   have e : ∀ u v,RC 1 u v→v.2 1 = own→RgR 1 (folE lost ls v k) u:=fun u v hu hv=>by
    show RgR 1 (if ls = [] then k [] lost 4 v else k ls lost 0 v) u
    split
    ·exact hk _ _ _ _ _ hu hv
    ·exact hk _ _ _ _ _ hu hv
   show RgR 1 (if q≤c then getG rrl n q s fun v e s=>if e = 0 then (if s.1.fn 1 = q then folL n 1 c lost f (q + 1) (ls ++ [v]) (foS 1 (q + 1) s) k else .cut) else folE lost ls s k else folE lost ls s k) s0
   split
   ·refine r_get h n q fun v er u w hu hw=>?_
    have n1:=keyB hw
    show RgR 1 (if er = 0 then _ else _) u
    split
    ·rw [if_pos (n1.2.2.2.1.trans hf)]
     exact r_fol n c lost hk f (q + 1) _ u _ ⟨hu.gu.trans ⟨rfl,rfl,rfl⟩,hu.inv⟩ (show upd w.1.fn 1 (q + 1) 1 = q + 1 from upd_same _ _ _) (n1.2.2.2.2.trans ho)
    ·exact e _ _ hu (n1.2.2.2.2.trans ho)
   ·exact e _ _ h ho
theorem r_follow {s0 s : RSS} (h : RC 1 s0 s) (n : Nat) (most : Int) {k : List Int→Int→Int→RSS→Tree RSS RSS} (hk : ∀ ls lost e s0' s',RC 1 s0' s'→s'.2 1 = s.2 1→RgR 1 (k ls lost e s') s0') : RgR 1 (followT n 1 most s k) s0:=by
 unfold followT
 refine r_load h rcl fun s1 h1 n1=>?_
 have n1:=keyB n1
 split
 ·exact r_fol n _ _ hk _ _ _ _ _ ⟨⟨rfl,rfl,rfl⟩,h1.inv⟩ (show upd s1.1.fn 1 _ 1 = _ from upd_same _ _ _) n1.2.2.2.2
 ·exact r_fol n _ _ hk _ _ _ _ _ h1 rfl n1.2.2.2.2
theorem r_thread1 {s0 s : RSS} (h : RC 1 s0 s) (hm : s.1.mem = none) (hj : s.1.rj 1 = false) (ho : s.2 1 = []) : RgR 1 (thrQ (doR (M0 4 0) 2 1) 1 [⟨2,0,0,0⟩,⟨3,9,0,0⟩,⟨7,9,0,0⟩] [] s) s0:=by
 rw [thr_cons,doR2 (by decide)]
 refine r_join h hm hj fun n e u v hu h1 h2 h3=>?_
 rw [if_pos (h3.trans ho)]
 have hp:=rc_push (by decide) hu (ansT n e)
 have hown : (pushQ 1 (ansT n e) v).2 1 = [] ++ [ansT n e]:=by rw [push_own,h3,ho]
 have q1 : (pushQ 1 (ansT n e) v).1.rj 1 = true:=h1
 have q2 : 0≤(pushQ 1 (ansT n e) v).1.rn 1:=h2
 generalize [] ++ [ansT n e] = own at hown ⊢
 generalize pushQ 1 (ansT n e) v = s at hp hown q1 q2 ⊢
 rw [thr_cons,doR3 (by decide)]
 refine r_read hp q1 q2 _ _ fun ls e u v hu h3=>?_
 rw [if_pos (h3.trans hown)]
 have hp:=rc_push (by decide) hu ⟨e == 0,toldN 0 e,ls⟩
 have hown:=(push_own 1 ⟨e == 0,toldN 0 e,ls⟩ v).trans (by rw [h3.trans hown])
 generalize own ++ [(⟨e == 0,toldN 0 e,ls⟩ : Ans)] = own at hown ⊢
 generalize pushQ 1 ⟨e == 0,toldN 0 e,ls⟩ v = s at hp hown ⊢
 rw [thr_cons,doR7 (by decide)]
 refine r_follow hp _ _ fun ls lost e u v hu h3=>?_
 rw [if_pos (h3.trans hown)]
 have hp:=rc_push (by decide) hu ⟨e == 0,toldN 0 e,lost :: ls⟩
 exact ⟨(),hp.gu,hp.inv,trivial⟩
theorem aw_sound : Sound (brQ (doR (M0 4 0) 2) awOps) 2 (r0O [4,0],fun _=>[]):=
 rg_sound r_rgs (g0:=()) (show -1≤(r0O [4,0]).cursor by decide) fun i hi g s hr hI=>by
  have hr : ownR i (r0O [4,0],fun _=>[]) s:=hr
  rcases (show i = 0∨i = 1 by omega) with rfl | rfl
  ·have hr : wA (r0O [4,0],fun _=>[]) s:=hr
   show RgR 0 (if s.2 0 = [] then thrQ (doR (M0 4 0) 2 0) 0 (awOps 0) [] s else .cut) s
   rw [if_pos hr.2.2]
   exact r_thread0 ⟨guaR.refl 0 s,hI⟩ ⟨hr.1,hr.2.1⟩ hr.2.2
  ·have hr : wB (r0O [4,0],fun _=>[]) s:=hr
   show RgR 1 (if s.2 1 = [] then thrQ (doR (M0 4 0) 2 1) 1 (awOps 1) [] s else .cut) s
   rw [if_pos hr.2.2.2.2]
   exact r_thread1 ⟨guaR.refl 1 s,hI⟩ hr.1 hr.2.1 hr.2.2.2.2
end Go.Proofs.Ytlhbonnminlnlaa
namespace Go.Proofs.Ytlhbonnminlnlaa
open Go.RowKit Go.Turn Go.Tame Go.Conc
theorem AnsAll.three {w : World} {ab n : Nat} {ans : Nat→List Ans} {H : Nat→Prop} (h : AnsAll w ab n ans H) {i : Nat} (hi : i < n) {a b d : Ans} (ha : ans i = [a,b,d]) : ∃ g c l0 l1 l2,w.cell? ⟨ab,i,none⟩ = some (.slice (some ⟨g,0,none⟩) 3 c)∧3≤c∧(∀ j u,[Value.bool a.ok,.int .i64 a.n,l0,.bool b.ok,.int .i64 b.n,l1,.bool d.ok,.int .i64 d.n,l2][j]? = some u→w.cell? ⟨g,j,none⟩ = some u)∧LsAt w l1 b.ls∧LsAt w l2 d.ls:=by
 obtain ⟨rw_,c,h1,h2,h3,h4,_⟩:=h.rows
 obtain ⟨xs,k1,k2,k3⟩:=h4 i hi
 rw [ha] at k1 k2
 obtain ⟨l0,xs',rfl,_,_,l1,xs'',rfl,m1,_,l2,xs3,rfl,m2,_,e⟩:=k2
 have e : xs3 = []:=e
 subst e
 have c0 : w.cell? ⟨ab,i,none⟩ = some (rw_ i):=(cell_of_row w ab i c _ (0,0) h1).trans (h3 i hi)
 rcases k1.2 with ⟨_,e⟩ | ⟨g,cp,cur,e,_,hh,hle,_,hsz,htake⟩
 ·simp at e
 ·have e : rw_ i = .slice (some ⟨g,0,none⟩) 3 cp:=e
  have hb : Blk w g 66 cur:=hh
  refine ⟨g,cp,l0,l1,l2,by rw [c0,e],hle,fun j u hj=>?_,m1,m2⟩
  rw [hb.cell j]
  have h1 : (cur.toList.take (3 * 3))[j]? = some u:=by
   rw [show cur.toList.take (3 * 3) = _ from htake]; exact hj
  rw [List.getElem?_take] at h1
  split at h1
  ·simpa using h1
  ·cases h1
def awSch : List Int:=[0,0,0,0,0,0,0,0,0,0,0,1,1,1,1,1,1,0,0,0,0]
set_option maxHeartbeats 2000000 in
set_option maxRecDepth 100000 in
theorem awake_true (hP : Prog Try.prog) (Post : Value→World→Prop) (W0 w0 : World) (hle : W0.heap.size≤w0.heap.size) : Ccalls (lgA hP Post W0) 6 #[] () w0 fun v _ w'=>v = .bool true∧Kpt W0 w0 w':=by
 intro c mid hR
 have HR:=Lib.hid hR
 clear hR
 have hs : ¬ (lgA hP Post W0).strict:=fun h=>h
 rw [show Frame.enter Try.prog 6 #[] .normal = Frame.at { (default : Frame) with fn:=6,kind:=.normal } ⟨#[] ++ Array.replicate (Try.f6.ntmps - 0) undef,[]⟩ [.code (Try.f6.body.getD .skip)] from by simp [Frame.enter,Frame.at,Try.func6]; rfl]
 simp only [Try.f6,Option.getD_some,Nat.reduceSub,Array.replicate_succ,Array.replicate_zero,List.push_toArray,List.append_toArray,List.nil_append,List.cons_append]
 refine Lg.move _ (fun _ _=>step_seq) (fun h=>h) ?_
 refine Lg.code fun K hK y τ n' hy=>?_
 have hst : Kpt W0 w0 y:=by rw [hy]; exact (Kpt.refl _ (y.re τ n')).re
 have hsz : y.heap.size = w0.heap.size:=by rw [hy]; rfl
 have HSZ:=Lib.hid hsz
 clear hy hsz
 go_wp2
 refine hK _ _ (fun h=>absurd h hs) ?_
 clear hK K
 refine Lg.move _ (fun _ _=>step_seq) (fun h=>h) ?_
 refine Lg.code fun K hK z τ n' hz=>?_
 subst hz
 have hst:=hst.re
 have hsz2 : z.heap.size = w0.heap.size:=HSZ.out
 clear HSZ
 go_wp2
 refine hK _ _ (fun h=>absurd h hs) ?_
 clear hK K
 have hbw:=Blk.new z 62 #[.int .i64 1,.int .i64 10,.int .i64 2,.int .i64 0,.int .i64 1,.int .i64 12,.int .i64 1,.int .i64 0]
 have hst:=hst.trans (Kpt.old ((Old.refl z.heap.size z).new (Nat.le_refl _) (.cells #[.int .i64 1,.int .i64 10,.int .i64 2,.int .i64 0,.int .i64 1,.int .i64 12,.int .i64 1,.int .i64 0] 62)))
 rw [hsz2] at hbw
 have hB1 : (z.alloc (.cells #[.int .i64 1,.int .i64 10,.int .i64 2,.int .i64 0,.int .i64 1,.int .i64 12,.int .i64 1,.int .i64 0] 62)).heap.size = w0.heap.size + 1:=by simp [hsz2]
 generalize z.alloc (.cells #[.int .i64 1,.int .i64 10,.int .i64 2,.int .i64 0,.int .i64 1,.int .i64 12,.int .i64 1,.int .i64 0] 62) = z1 at hbw hst hB1 ⊢
 clear hsz2
 obtain ⟨b1,hb1⟩ : ∃ b1,b1 = w0.heap.size:=⟨_,rfl⟩
 rw [← hb1] at hbw hB1 ⊢
 have HB0:=Lib.hid hb1
 clear hb1
 refine Lg.move _ (fun _ _=>step_seq) (fun h=>h) ?_
 refine Lg.move _ (fun _ _=>step_region) (fun h=>h) ?_
 refine Lg.pre 0 8 3 (by simp) fun K hK y τ n' hz=>?_
 subst hz
 have hst:=hst.re
 have hbw : Blk y b1 _ _:=hbw
 have hB1 : y.heap.size = b1 + 1:=hB1
 have HST:=Lib.hid hst
 clear hst
 simp only [List.drop_zero,List.take_succ_cons,List.take_zero]
 go_wp2
 refine hK _ _ (fun h=>absurd h hs) ?_
 clear hK K
 obtain ⟨o0,ho0⟩ : ∃ o0,o0 = Obj.cells #[.int .i64 4,.int .i64 0] 2:=⟨_,rfl⟩
 obtain ⟨o1,ho1⟩ : ∃ o1,o1 = Obj.cells #[.int .i64 2,.int .i64 0,.int .i64 0,.int .i64 0,.int .i64 3,.int .i64 9,.int .i64 0,.int .i64 0,.int .i64 7,.int .i64 9,.int .i64 0,.int .i64 0] 62:=⟨_,rfl⟩
 obtain ⟨o2,ho2⟩ : ∃ o2,o2 = Obj.cells #[.slice (some ⟨b1,0,none⟩) 2 2,.slice (some ⟨b1 + 1 + 1,0,none⟩) 3 3] 63:=⟨_,rfl⟩
 obtain ⟨o3,ho3⟩ : ∃ o3,o3 = Obj.cells #[.int .i64 0,.int .i64 0,.int .i64 0,.int .i64 0,.int .i64 0,.int .i64 0,.int .i64 0,.int .i64 0,.int .i64 0,.int .i64 0,.int .i64 0,.int .i64 1,.int .i64 1,.int .i64 1,.int .i64 1,.int .i64 1,.int .i64 1,.int .i64 0,.int .i64 0,.int .i64 0,.int .i64 0] 3:=⟨_,rfl⟩
 rw [← ho0,← ho1,← ho2,← ho3]
 obtain ⟨w1,hw1⟩ : ∃ w1,w1 = (((y.alloc o0).alloc o1).alloc o2).alloc o3:=⟨_,rfl⟩
 rw [← hw1]
 have hsz:=hB1
 have f0 : w1.heap[b1 + 1]? = some o0:=by rw [hw1,Below.heap_alloc _ _ _ (by simp; omega),Below.heap_alloc _ _ _ (by simp; omega),Below.heap_alloc _ _ _ (by simp; omega),← hsz]; exact heap_alloc_new y o0
 have f1 : w1.heap[b1 + 2]? = some o1:=by rw [hw1,Below.heap_alloc _ _ _ (by simp; omega),Below.heap_alloc _ _ _ (by simp; omega),show b1 + 2 = (y.alloc o0).heap.size by simp; omega]; exact heap_alloc_new _ o1
 have f2 : w1.heap[b1 + 3]? = some o2:=by rw [hw1,Below.heap_alloc _ _ _ (by simp; omega),show b1 + 3 = ((y.alloc o0).alloc o1).heap.size by simp; omega]; exact heap_alloc_new _ o2
 have f3 : w1.heap[b1 + 4]? = some o3:=by rw [hw1,show b1 + 4 = (((y.alloc o0).alloc o1).alloc o2).heap.size by simp; omega]; exact heap_alloc_new _ o3
 have fw : w1.heap[b1]? = some (.cells #[.int .i64 1,.int .i64 10,.int .i64 2,.int .i64 0,.int .i64 1,.int .i64 12,.int .i64 1,.int .i64 0] 62 (0,0)):=by rw [hw1,Below.heap_alloc _ _ _ (by simp; omega),Below.heap_alloc _ _ _ (by simp; omega),Below.heap_alloc _ _ _ (by simp; omega),Below.heap_alloc _ _ _ (by omega)]; exact hbw
 have old4 : Old y.heap.size y w1:=by rw [hw1]; exact ((((Old.refl y.heap.size y).new (Nat.le_refl _) o0).new (by simp) o1).new (by simp; omega) o2).new (by simp; omega) o3
 have hk1 : Kpt W0 w0 w1:=HST.out.trans (Kpt.old old4)
 subst ho0 ho1 ho2 ho3
 clear hw1 old4 hsz hB1 hbw HST
 rw [show b1 + 1 + 1 = b1 + 2 from rfl,show b1 + 2 + 1 = b1 + 3 from rfl,show b1 + 3 + 1 = b1 + 4 from rfl]
 obtain ⟨c1,hc1⟩ : ∃ c1,c1 = b1 + 1:=⟨_,rfl⟩
 obtain ⟨c2,hc2⟩ : ∃ c2,c2 = b1 + 2:=⟨_,rfl⟩
 obtain ⟨c3,hc3⟩ : ∃ c3,c3 = b1 + 3:=⟨_,rfl⟩
 obtain ⟨c4,hc4⟩ : ∃ c4,c4 = b1 + 4:=⟨_,rfl⟩
 rw [← hc1] at f0 ⊢
 rw [← hc2] at f1 f2 ⊢
 rw [← hc3] at f2 ⊢
 rw [← hc4] at f3 ⊢
 have hne : c4≠b1∧c4≠c2:=by omega
 clear hc1 hc2 hc3 hc4
 have hstart : NumsIn w1 (some ⟨c1,0,none⟩) 2 [4,0]:=⟨by decide,by unfold maxLen; decide,fun i hi=>⟨c1,0,rfl,by
  rw [cell_of_row w1 c1 (0 + i) _ _ _ f0]
  match i,hi with
  | 0,_=>rfl
  | 1,_=>rfl⟩⟩
 have hrows : RowsAt w1 c3 0 2 (fun i=>if i = 0 then some ⟨b1,0,none⟩ else some ⟨c2,0,none⟩) (fun i=>if i = 0 then 2 else 3) (fun i=>if i = 0 then 2 else 3):=⟨fun i hi=>by
  rw [cell_of_row w1 c3 (0 + i) _ _ _ f2]
  match i,hi with
  | 0,_=>rfl
  | 1,_=>rfl,fun i _=>Nat.le_refl _,fun i _=>by unfold maxLen; split <;> decide,fun i hi h=>by split at h <;> cases h⟩
 have hin : OpsCells W0 SG w1 2 (fun i=>if i = 0 then some ⟨b1,0,none⟩ else some ⟨c2,0,none⟩) (fun i=>if i = 0 then 2 else 3) awOps:=⟨fun i hi=>by
   match i,hi with
   | 0,_=>rfl
   | 1,_=>rfl,fun i hi o ho=>by
   match i,hi with
   | 0,_ =>
     simp only [awOps,List.mem_cons,List.not_mem_nil,or_false] at ho
     rcases ho with rfl | rfl <;> exact ⟨by decide,by decide,by decide,by decide⟩
   | 1,_ =>
     simp only [awOps,List.mem_cons,List.not_mem_nil,or_false] at ho
     rcases ho with rfl | rfl | rfl <;> exact ⟨by decide,by decide,by decide,by decide⟩,fun i hi j hj=>by
   match i,hi with
   | 0,_ =>
     refine ⟨b1,0,_,_,_,rfl,fw,.inl (by decide),fun m hm=>?_⟩
     match j,hj,m,hm with
     | 0,_,0,_=>rfl
     | 0,_,1,_=>rfl
     | 0,_,2,_=>rfl
     | 0,_,3,_=>rfl
     | 1,_,0,_=>rfl
     | 1,_,1,_=>rfl
     | 1,_,2,_=>rfl
     | 1,_,3,_=>rfl
   | 1,_ =>
     refine ⟨c2,0,_,_,_,rfl,f1,.inl (by decide),fun m hm=>?_⟩
     match j,hj,m,hm with
     | 0,_,0,_=>rfl
     | 0,_,1,_=>rfl
     | 0,_,2,_=>rfl
     | 0,_,3,_=>rfl
     | 1,_,0,_=>rfl
     | 1,_,1,_=>rfl
     | 1,_,2,_=>rfl
     | 1,_,3,_=>rfl
     | 2,_,0,_=>rfl
     | 2,_,1,_=>rfl
     | 2,_,2,_=>rfl
     | 2,_,3,_=>rfl⟩
 have hsch : SchI W0 (.slice (some ⟨c4,0,none⟩) 21 21) awSch (fun b=>∃ i o,i < 2∧(if i = 0 then some (⟨b1,0,none⟩ : Addr) else some ⟨c2,0,none⟩) = some ⟨b,o,none⟩) w1:=⟨⟨_,_,rfl,fun i hi=>⟨c4,0,_,_,_,rfl,f3,.inr ⟨by decide,fun ⟨i,o,h1,h2⟩=>by
   split at h2 <;> (cases h2; omega)⟩,by
   match i,hi with
   | 0,_=>rfl
   | 1,_=>rfl
   | 2,_=>rfl
   | 3,_=>rfl
   | 4,_=>rfl
   | 5,_=>rfl
   | 6,_=>rfl
   | 7,_=>rfl
   | 8,_=>rfl
   | 9,_=>rfl
   | 10,_=>rfl
   | 11,_=>rfl
   | 12,_=>rfl
   | 13,_=>rfl
   | 14,_=>rfl
   | 15,_=>rfl
   | 16,_=>rfl
   | 17,_=>rfl
   | 18,_=>rfl
   | 19,_=>rfl
   | 20,_=>rfl
   | k + 21,h=>exact absurd h (by show ¬ (k + 21 < 21); omega)⟩⟩,by unfold maxLen; decide⟩
 have hpl:=reader_play hP Post W0 4 [4,0] (some ⟨c1,0,none⟩) 2 rfl (by decide) (by decide) (by decide) (by decide) (by decide) (by decide) (some ⟨c3,0,none⟩) c3 0 2 2 (fun _=>rfl) (by unfold maxLen; decide) (fun i=>if i = 0 then some ⟨b1,0,none⟩ else some ⟨c2,0,none⟩) (fun i=>if i = 0 then 2 else 3) (fun i=>if i = 0 then 2 else 3) awOps (.slice (some ⟨c4,0,none⟩) 21 21) awSch 1000 w1 (by have:=hk1.size; omega) hstart hrows hin hsch aw_sound
 refine Lg.call (i:=8) (rest:=[9,10]) (f:=22) (args:=#[.slice (some ⟨c1,0,none⟩) 2 2,.slice (some ⟨c3,0,none⟩) 2 2,.slice (some ⟨c4,0,none⟩) 21 21,.int .i64 1000]) rfl rfl (fun y=>by go_simp) hpl ?_
 rintro vv t'' w2 hdone
 rw [show (heldI 1000 1048576).toNat = 1000 from by decide] at hdone
 have hd : PlayG W0 (stateR 2 awRun.m.s.1).length (stateR 2) awRun 2 w1 vv w2:=hdone
 clear hdone hpl hsch hin hrows hstart f0 f1 f2 f3 fw hne
 have hk2:=hk1.trans hd.kpt
 obtain ⟨ab,ov,tv,H,hab,hvv,hov,htv,hans,hnear,htv2⟩:=hd.ex
 obtain ⟨g,gc,l0,l1,l2,e0,e1,e2,m1,m2⟩:=hans.three (i:=1) (by decide) aw_ans1
 obtain ⟨oA,oc,rfl⟩:=own_slice hov
 obtain ⟨tA,tc,rfl⟩:=own_slice htv
 obtain ⟨A1,k1,rfl⟩:=own_slice m1
 obtain ⟨A2,k2,rfl⟩:=own_slice m2
 obtain ⟨p1,q1,rfl,hn1⟩:=(IntsAt.of_own m1).fix (by decide)
 obtain ⟨p2,q2,rfl,hn2⟩:=(IntsAt.of_own m2).fix (by decide)
 have s0:=hn1 0 (by decide)
 have s1:=hn2 1 (by decide)
 have r0:=e2 0 _ rfl
 have r1:=e2 1 _ rfl
 have r3:=e2 3 _ rfl
 have r5:=e2 5 _ rfl
 have r6:=e2 6 _ rfl
 have r8:=e2 8 _ rfl
 rw [aw_left] at hvv
 obtain ⟨oL,hoL⟩ : ∃ oL,oL = awRun.order.length:=⟨_,rfl⟩
 obtain ⟨tL,htL⟩ : ∃ tL,tL = (stateR 2 awRun.m.s.1).length:=⟨_,rfl⟩
 rw [← hoL,← htL] at hvv
 subst hvv
 have HX:=Lib.hid (And.intro hk2 (And.intro e0 (And.intro s0 (And.intro s1 (And.intro r0 (And.intro r1 (And.intro r3 (And.intro r5 (And.intro r6 r8)))))))))
 clear hd hk1 hk2 hans hnear htv htv2 hov e0 e1 e2 m1 m2 hn1 hn2 s0 s1 r0 r1 r3 r5 r6 r8 hab hoL htL HB0
 rw [Frame.finish_at]
 walk_nrm
 refine (show (lgA hP Post W0).T _ (Frame.at _ ⟨_,[]⟩ (.inRegion _ (List.range' 9 (2 + 0)) :: _)) (c :: mid) w2 from ?_)
 refine Lg.pre 9 2 0 (by simp) fun K hK q τ n' hq=>?_
 subst hq
 have HX:=HX
 simp only [List.drop_succ_cons,List.drop_zero,List.take_succ_cons,List.take_zero]
 go_wp2
 refine hK _ _ (fun h=>absurd h hs) ?_
 clear hK K
 refine Lg.move _ (fun _ _=>step_region_end) (fun h=>h) ?_
 refine Lg.rest (R:=fun v w'=>v = .bool true∧Kpt W0 w0 w') (fun h=>h) rfl Try.func6 (fun y τ2 n2 hy=>?_) (fun v w' h=>HR.out v _ w' h)
 obtain ⟨hk2,e0,s0,s1,r0,r1,r3,r5,r6,r8⟩:=HX.out
 have hk2:=hk2.re
 have e0 : q.cell? ⟨ab,1,none⟩ = _:=e0
 have s0 : q.cell? ⟨p1,q1,none⟩ = _:=s0
 have s1 : q.cell? ⟨p2,q2 + 1,none⟩ = _:=s1
 have r0 : q.cell? ⟨g,0,none⟩ = _:=r0
 have r1 : q.cell? ⟨g,1,none⟩ = _:=r1
 have r3 : q.cell? ⟨g,3,none⟩ = _:=r3
 have r5 : q.cell? ⟨g,5,none⟩ = _:=r5
 have r6 : q.cell? ⟨g,6,none⟩ = _:=r6
 have r8 : q.cell? ⟨g,8,none⟩ = _:=r8
 obtain ⟨O,hO⟩ : ∃ O,O = Obj.cells #[.slice (some ⟨ab,0,none⟩) 2 2,.slice oA oL oc,.slice tA tL tc,.bool false] 55:=⟨_,rfl⟩
 have hb5:=Blk.new q 55 #[.slice (some ⟨ab,0,none⟩) 2 2,.slice oA oL oc,.slice tA tL tc,.bool false]
 have up : ∀ b o v,q.cell? ⟨b,o,none⟩ = some v→(q.alloc O).cell? ⟨b,o,none⟩ = some v:=fun b o v h=>(World.cell?_of_block (w:=q) (a:=⟨b,o,none⟩) (Below.heap_alloc _ _ _ (lt_of_cell h))).trans h
 have e0:=up _ _ _ e0
 have s0:=up _ _ _ s0
 have s1:=up _ _ _ s1
 have r0:=up _ _ _ r0
 have r1:=up _ _ _ r1
 have r3:=up _ _ _ r3
 have r5:=up _ _ _ r5
 have r6:=up _ _ _ r6
 have r8:=up _ _ _ r8
 have hk5:=hk2.trans (Kpt.old ((Old.refl q.heap.size q).new (Nat.le_refl _) O))
 rw [← hO] at hb5 hy
 clear hO
 generalize q.heap.size = b5 at hb5 ⊢
 generalize q.alloc O = w5 at hb5 e0 s0 s1 r0 r1 r3 r5 r6 r8 hk5 hy
 subst hy
 have e0 : y.cell? ⟨ab,1,none⟩ = _:=e0
 have s0 : y.cell? ⟨p1,q1,none⟩ = _:=s0
 have s1 : y.cell? ⟨p2,q2 + 1,none⟩ = _:=s1
 have r0 : y.cell? ⟨g,0,none⟩ = _:=r0
 have r1 : y.cell? ⟨g,1,none⟩ = _:=r1
 have r3 : y.cell? ⟨g,3,none⟩ = _:=r3
 have r5 : y.cell? ⟨g,5,none⟩ = _:=r5
 have r6 : y.cell? ⟨g,6,none⟩ = _:=r6
 have r8 : y.cell? ⟨g,8,none⟩ = _:=r8
 have hb5 : Blk y b5 _ _:=hb5
 have t0:=hb5.cell 0
 have t3:=hb5.cell 3
 simp at t0 t3 e0 s0 s1 r0 r1 r3 r5 r6 r8
 have HK:=Lib.hid hk5.re
 clear hk2 hk5 hb5 up HX
 go_wp2
 go_ret
 exact ⟨_,rfl,rfl,HK.out⟩
end Go.Proofs.Ytlhbonnminlnlaa
