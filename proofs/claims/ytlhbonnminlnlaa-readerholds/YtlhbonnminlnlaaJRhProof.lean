/-
  The claim ReaderHolds: a reader that has joined holds the writers back by the size and not more, and lets them go on when it has read or left; no condition.
-/
import Derived.Test.YtlhbonnminlnlaaGq
import Derived.Test.YtlhbonnminlnlaaGr
import Derived.Test.YtlhbonnminlnlaaGp
import Derived.Test.YtlhbonnminlnlaaGn
import Derived.Test.YtlhbonnminlnlaaGd
import Derived.Test.YtlhbonnminlnlaaGh
import Derived.Conc.LeavingOf
import Derived.Test.YtlhbonnminlnlaaRows
import Derived.ProofKit
import Derived.OpenShut
set_option linter.unusedVariables false
set_option linter.unusedSectionVars false
set_option linter.unusedSimpArgs false
namespace Go.Proofs.Ytlhbonnminlnlaa
open Go.RowKit Go.Turn Go.Tame Go.Conc
def BlkM (I : MIds) (b : Nat) : Prop:=b = I.mb∨b = I.rb∨b = I.gb∨b = I.cb∨b = I.eb
structure HwS (I : MIds) (G : Nat) (gp : Option Addr) (mv : Value) (ml : List Int) (f : Nat→Int) (S : MulS) (r : Nat) (j : Bool) (q : Int) (w : World) : Prop where
 hw : HwAt I G gp mv ml f S w
 rd : RdAt w r I.mb G 7 j q
 rne : ¬ BlkM I r
 rno : ¬ (gX G gp mv ml f).own r
 dg : ∀ K,gp = some ⟨K,0,none⟩→K≠G∧K≠r
 dm : ∀ A n c,mv = .slice (some A) n c→A.block≠G∧A.block≠r
section
variable {I : MIds} {G : Nat} {gp : Option Addr} {mv : Value} {ml : List Int} {f : Nat→Int} {S : MulS} {r : Nat} {j : Bool} {q : Int} {w w' : World}
theorem HwS.notG (h : HwS I G gp mv ml f S r j q w) : ¬ BlkM I G:=fun z=>by
 obtain ⟨a,b,c,d,e⟩:=h.hw.m.own G (.inl rfl)
 rcases z with z | z | z | z | z
 ·exact a z
 ·exact b z
 ·exact c z
 ·exact d z
 ·exact e z
theorem HwS.rG (h : HwS I G gp mv ml f S r j q w) : r≠G:=fun e=>h.rno (.inl e)
theorem HwS.mulAt (h : HwS I G gp mv ml f S r j q w) (h0 : I.first = 0) : MulAt w I.mb I.rb I.gb I.cb I.eb I.n S.st S.va S.cur S.seen:=
 ⟨by have:=h.hw.m.mul; rwa [h0] at this,h.hw.m.ring,h.hw.m.cw,h.hw.m.sw⟩
theorem hws_offer {o : Option Int} (hml : ml.length≤64) (ho : HoldO ml f o) (h : HwS I G gp mv ml f S r j q w) (v x e : Int) {S' : MulS} {k : Nat} (he : offerX (frGt I.n o) I.n I.first S [v] = (x,e,S',k)) :
  Calls Try.prog 23 #[.pointer (some ⟨I.mb,0,none⟩),.nilIface,.iface 27 (.pointer (some ⟨G,0,none⟩)),.slice (some ⟨w.heap.size,0,none⟩) 1 1] (w.alloc (.cells #[.int .i64 v] 2)) fun e' w'=>e' = .returned (.tuple #[.int .i64 x,.int .i64 e])∧HwS I G gp mv ml f S' r j q w'∧Kept (OutM I (gX G gp mv ml f).own) w w':=
 (hw_offer hml ho h.hw v x e he).mono fun e' w' ⟨q1,q2,q3⟩=>⟨q1,⟨q2,Blk.kept h.rd q3 (fun z=>by
   rcases z with z | z | z | z
   ·exact h.rne (.inr (.inr (.inr (.inl z))))
   ·exact h.rne (.inr (.inr (.inr (.inr z))))
   ·exact h.rne (.inr (.inr (.inl z)))
   ·exact h.rno z),h.rne,h.rno,h.dg,h.dm⟩,q3⟩
theorem HwS.turned (h : HwS I G gp mv ml f S r j q w) {K L c : Nat} {ml' : List Int} {f' : Nat→Int} {j' : Bool} {q' : Int} (k : Kept (fun b=>b = G∨b = r) w w') (hr : RdAt w' r I.mb G 7 j' q') (hK : w.heap.size≤K) (hL : w.heap.size≤L) (hg : GateAt w' G (some ⟨K,0,none⟩) f')
  (hb : Blk w' K 162 #[.slice (some ⟨L,0,none⟩) ml'.length c,.int .i64 0]) (h1 : ml'.length≤c) (h2 : c≤maxLen) (hc : ∀ i (h : i < ml'.length),w'.cell? ⟨L,i,none⟩ = some (.int .i64 ml'[i])) :
  HwS I G (some ⟨K,0,none⟩) (.slice (some ⟨L,0,none⟩) ml'.length c) ml' f' S r j' q' w':=by
 have nG:=h.notG
 have hrlt:=Blk.lt h.rd
 have lt : ∀ b,BlkM I b→b < w.heap.size:=fun b z=>by
  rcases z with z | z | z | z | z
  ·exact z ▸ h.hw.m.mul.lt
  ·exact z ▸ h.hw.m.ring.rlt
  ·exact z ▸ h.hw.m.ring.glt
  ·exact z ▸ h.hw.m.cw.lt
  ·exact z ▸ h.hw.m.sw.lt
 have no : ∀ b,BlkM I b→¬ (b = G∨b = r):=fun b z e=>e.elim (fun e=>nG (e ▸ z)) fun e=>h.rne (e ▸ z)
 have ow : ∀ b,(gX G (some ⟨K,0,none⟩) (.slice (some ⟨L,0,none⟩) ml'.length c) ml' f').own b→b = G∨b = K∨b = L:=by
  rintro b (z | ⟨K',e,z⟩ | ⟨A,n,c',e,-,z⟩)
  ·exact .inl z
  ·cases e; exact .inr (.inl z)
  ·cases e; exact .inr (.inr z)
 have on : ∀ b,(gX G (some ⟨K,0,none⟩) (.slice (some ⟨L,0,none⟩) ml'.length c) ml' f').own b→¬ BlkM I b:=fun b z e=>by
  have:=lt b e
  rcases ow b z with rfl | rfl | rfl
  ·exact nG e
  ·omega
  ·omega
 have m:=h.hw.m
 refine ⟨⟨⟨m.mul.kept k (no _ (.inl rfl)),m.ring.kept k (no _ (.inr (.inl rfl))) (no _ (.inr (.inr (.inl rfl)))),m.cw.kept k (no _ (.inr (.inr (.inr (.inl rfl))))),m.sw.kept k (no _ (.inr (.inr (.inr (.inr rfl))))),m.d1,m.d2,m.d3,fun b z=>⟨fun e=>on b z (.inl e),fun e=>on b z (.inr (.inl e)),fun e=>on b z (.inr (.inr (.inl e))),fun e=>on b z (.inr (.inr (.inr (.inl e)))),fun e=>on b z (.inr (.inr (.inr (.inr e))))⟩,m.f0,m.f1,m.c0,m.c1⟩,hg,.inr ⟨K,_,rfl,hb⟩,some ⟨L,0,none⟩,c,rfl,h1,h2,(fun z=>by cases z),fun i hi=>⟨L,rfl,hc i hi⟩⟩,hr,h.rne,fun z=>?_,fun K' e=>?_,fun A n c' e=>?_⟩
 ·have hGlt:=h.hw.g.1.lt
  rcases ow r z with e | e | e
  ·exact h.rG e
  ·omega
  ·omega
 ·have hGlt:=h.hw.g.1.lt
  cases e
  exact ⟨by omega,by omega⟩
 ·have hGlt:=h.hw.g.1.lt
  cases e
  exact ⟨by show L≠G; omega,by show L≠r; omega⟩
theorem hws_join (h : HwS I G gp mv ml f S r false 0 w) (hml : ml.length < 64) (hn : (7 : Int) ∉ ml) :
  Calls Try.prog 13 #[.pointer (some ⟨r,0,none⟩),.nilIface] w fun e w'=>e = .returned (.tuple #[.int .i64 (S.cur + 1),.int .i64 0])∧Kept (fun b=>b = G∨b = r) w w'∧∃ gp' mv',HwS I G gp' mv' (ml ++ [7]) (upd f 7 S.cur) S r true (S.cur + 1) w':=by
 refine (reader_join r I.mb G 7 I.rb I.cb I.eb S.cur I.first gp mv ml f w h.rd h.hw.m.mul h.hw.m.cw h.hw.g.1 h.hw.g.2.1 h.hw.g.2.2 (by decide) hn (by omega) (fun K e=>(h.dg K e).1) (fun A n c e=>(h.dm A n c e).1) h.rG (fun e=>h.notG (.inl e.symm)) (fun e=>h.notG (.inr (.inr (.inr (.inl e.symm))))) h.hw.m.c0 h.hw.m.c1).mono ?_
 rintro e w' ⟨rfl,k,hr,K,L,c,hK,hL,hg,hb,h1,h2,h3⟩
 refine ⟨rfl,k,_,_,h.turned k hr hK hL hg ?_ (by simpa using h1) h2 h3⟩
 simpa using hb
theorem hws_read {k : Nat} (h : HwS I G gp mv ml f S r true q w) (h0 : I.first = 0) (m : Int) (hq0 : 0≤q) (hq : q≤S.cur) (hm0 : -9223372036854775808≤m) (hm1 : m < 9223372036854775808) (hk : (k : Int) = min (S.cur - q + 1) (min (max m 1) I.n)) (hst : ∀ j : Nat,j < k→S.st ((q + j) % I.n).toNat = 2 * ((q + j) / I.n)) :
  Calls Try.prog 14 #[.pointer (some ⟨r,0,none⟩),.nilIface,.int .i64 m] w fun e w'=>∃ v',e = .returned (.tuple #[v',.int .i64 0])∧Kept (fun b=>b = G∨b = r) w w'∧w'.ownsRow w.heap.size 2 1 v' k ((rowV S.va I.n q k).map (Value.int .i64))∧HwS I G gp mv ml (upd f 7 (q + k - 1)) S r true (q + k) w':=by
 refine (reader_read gp q m k h.rd (h.mulAt h0) h.hw.g.1 (by decide) hq0 hq h.hw.m.c1 hm0 hm1 hk hst h.rG (fun e=>h.notG (.inl e.symm))).mono ?_
 rintro e w' ⟨v',rfl,kk,ho,hr,hg⟩
 have nG:=h.notG
 have no : ∀ b,BlkM I b→¬ (b = G∨b = r):=fun b z e=>e.elim (fun e=>nG (e ▸ z)) fun e=>h.rne (e ▸ z)
 have m:=h.hw.m
 exact ⟨v',rfl,kk,ho,⟨⟨m.mul.kept kk (no _ (.inl rfl)),m.ring.kept kk (no _ (.inr (.inl rfl))) (no _ (.inr (.inr (.inl rfl)))),m.cw.kept kk (no _ (.inr (.inr (.inr (.inl rfl))))),m.sw.kept kk (no _ (.inr (.inr (.inr (.inr rfl))))),m.d1,m.d2,m.d3,m.own,m.f0,m.f1,m.c0,m.c1⟩,hg,h.hw.g.2.1.keptZ kk fun K e z=>z.elim (h.dg K e).1 (h.dg K e).2,h.hw.g.2.2.keptZ kk fun A n c e _ z=>z.elim (h.dm A n c e).1 (h.dm A n c e).2⟩,hr,h.rne,h.rno,h.dg,h.dm⟩
theorem hws_leave (h : HwS I G gp mv [7] f S r true q w) :
  Calls Try.prog 17 #[.pointer (some ⟨r,0,none⟩),.nilIface] w fun e w'=>e = .returned (.int .i64 0)∧Kept (fun b=>b = G∨b = r) w w'∧∃ gp' mv',HwS I G gp' mv' [] f S r false 0 w':=by
 refine (reader_leaveR r I.mb G 7 0 q gp mv [7] f w h.rd h.hw.g.1 h.hw.g.2.1 h.hw.g.2.2 (by decide) (by decide) rfl (fun j hj=>absurd hj (Nat.not_lt_zero _)) (by decide) h.rG).mono ?_
 rintro e w' ⟨rfl,k,h3,K,L,c,hK,hL,hg,hb,h1,h2,h4⟩
 exact ⟨rfl,k,_,_,h.turned (ml':=[]) k h3 hK hL hg hb h1 h2 h4⟩
theorem hws_there (h : HwS I G gp mv ml f S r true q w) : Calls Try.prog 13 #[.pointer (some ⟨r,0,none⟩),.nilIface] w fun e w'=>e = .returned (.tuple #[.int .i64 0,.int .i64 7])∧w = w':=by
 have c0 : w.cell? ⟨r,0,none⟩ = some (.pointer (some ⟨I.mb,0,none⟩)):=Blk.cell h.rd 0
 have c3 : w.cell? ⟨r,3,none⟩ = some (.bool true):=Blk.cell h.rd 3
 clear h
 go_enter Try.func13,Try.ntmps13
 go_wp2
 go_ret2
 exact ⟨rfl,rfl⟩
theorem hws_next (h : HwS I G gp mv ml f S r j q w) : Calls Try.prog 19 #[.pointer (some ⟨r,0,none⟩)] w fun e w'=>e = .returned (.int .i64 q)∧w = w':=by
 have c4 : w.cell? ⟨r,4,none⟩ = some (.int .i64 q):=Blk.cell h.rd 4
 clear h
 go_enter Try.func19,Try.ntmps19
 go_wp2
 go_ret
 exact ⟨rfl,rfl⟩
set_option maxRecDepth 100000 in
theorem hws_lag (h : HwS I G gp mv ml f S r true q w) (hq0 : 0≤q) (hq1 : q < 4611686018427387904) : Calls Try.prog 16 #[.pointer (some ⟨r,0,none⟩),.nilIface] w fun e w'=>e = .returned (.tuple #[.int .i64 (S.cur + 1 - q),.int .i64 0])∧Kept (fun _=>False) w w':=by
 have c0 : w.cell? ⟨r,0,none⟩ = some (.pointer (some ⟨I.mb,0,none⟩)):=Blk.cell h.rd 0
 have c3 : w.cell? ⟨r,3,none⟩ = some (.bool true):=Blk.cell h.rd 3
 have c4 : w.cell? ⟨r,4,none⟩ = some (.int .i64 q):=Blk.cell h.rd 4
 have h1:=h.hw.m.c0
 have h2:=h.hw.m.c1
 have HH:=Lib.hid h
 clear h
 go_enter Try.func16,Try.ntmps16
 go_wp2_with (go_at_call 18; refine (reader_joined r G 7 true q HH.out.rd).mono ?_; rintro e w' ⟨rfl,rfl⟩)
 rename_i K0 hK0
 refine strictL ?_
 refine wp_region_held (S:=Kept (fun _=>False) w) (by kernel_rfl) ?_
 simp only [List.size_toArray,List.length_cons,List.length_nil,Nat.reduceAdd]
 have HW1 : Hid (Kept (fun _=>False) w { w with drawn:=w.drawn + 1 }):=Lib.hid (Kept.drew w)
 iterate 9
  first
  | refine rdL 0 13 9 ?_
  | refine rdL 1 12 10 ?_
  | refine rdL 2 11 11 ?_
  | refine rdL 3 10 12 ?_
  | refine rdL 4 9 13 ?_
  | refine rdL 7 8 16 ?_
  | refine rdL 8 7 17 ?_
  | refine rdL 9 6 18 ?_
  | refine rdL 10 5 19 ?_
  refine ⟨_,rfl,rfl,by kernel_rfl,by kernel_rfl,by kernel_rfl,(fun c a w h=>by cases h.1),rfl,HW1.out,?_⟩
  apply Exists.intro
  refine ⟨fun wq hw=>?_,?_⟩
  ·have hb : Blk wq r 40 _:=Blk.kept HH.out.rd hw id
   have c0 : wq.cell? ⟨r,0,none⟩ = some (.pointer (some ⟨I.mb,0,none⟩)):=hb.cell 0
   have c4 : wq.cell? ⟨r,4,none⟩ = some (.int .i64 q):=hb.cell 4
   clear hb
   go_simp
   rfl
  simp only [Act.put,List.setIfInBounds_toArray,List.set_cons_zero,List.set_cons_succ]
 clear c0 c3 c4
 generalize ({ w with drawn:=w.drawn + 1 } : World) = wd at HW1 ⊢
 refine oneL (i:=5) (fuel:=4) (by kernel_rfl) rfl rfl fun K' hK'=>?_
 unfold Oper.wp
 go_simp
 refine (multi_cursor I.mb I.rb I.cb I.eb I.first S.cur _ (HH.out.hw.m.mul.kept HW1.out id) (HH.out.hw.m.cw.kept HW1.out id)).mono ?_
 rintro e w1 ⟨rfl,hw1⟩
 dsimp only
 refine hK' _ _ (hw1 ▸ HW1.out) ?_
 clear hK' K'
 refine oneL (i:=6) (fuel:=3) (by kernel_rfl) rfl rfl fun K' hK'=>?_
 unfold Oper.wp
 go_simp
 refine hK' _ _ (hw1 ▸ HW1.out) ?_
 clear hK' K'
 refine oneL (i:=11) (fuel:=2) (by kernel_rfl) rfl rfl fun K' hK'=>?_
 unfold Oper.wp
 go_simp
 refine hK' _ _ (hw1 ▸ HW1.out) ?_
 clear hK' K'
 refine oneL (i:=12) (fuel:=1) (by kernel_rfl) rfl rfl fun K' hK'=>?_
 unfold Oper.wp
 go_simp
 refine hK' _ _ (hw1 ▸ HW1.out) ?_
 clear hK' K'
 refine oneL (i:=13) (fuel:=0) (by kernel_rfl) rfl rfl fun K' hK'=>?_
 unfold Oper.wp
 go_simp
 refine hK' _ _ (hw1 ▸ HW1.out) ?_
 clear hK' K'
 refine wpAnyH_done (by kernel_rfl) ⟨rfl,?_⟩ _
 refine hK0 _ _ ?_
 clear hK0 K0
 have HW2 : Hid (Kept (fun _=>False) w w1):=Lib.hid (hw1 ▸ HW1.out)
 clear hw1 HW1
 go_wp2
 go_ret2
 exact ⟨by rw [IntWalk.i64_in (S.cur + 1) (by omega),IntWalk.i64_in _ (by omega)]; rfl,HW2.out⟩
end
theorem shl_okR (s : Nat) (h : s < 5) : 0 < 2 ^ s∧2 ^ s≤16∧(bits BinOp.and IntKind.i64 ((2 ^ s : Nat) : Int) (((2 ^ s : Nat) : Int) - 1) != 0) = false:=by
 match s,h with
 | 0,_=>decide
 | 1,_=>decide
 | 2,_=>decide
 | 3,_=>decide
 | 4,_=>decide
def IoW (W w : World) : Prop:=w.os = W.os∧w.output = W.output
theorem IoW.kept {W w w' : World} {Z : Nat→Prop} (h : IoW W w) (k : Kept Z w w') : IoW W w':=⟨k.os.trans h.1,k.output.trans h.2⟩
section
variable {I : MIds} {G : Nat} {gp : Option Addr} {mv : Value} {f : Nat→Int} {S : MulS} {r : Nat} {q : Int} {w : World}
set_option maxRecDepth 100000 in
theorem after_ok (h : HwS I G gp mv [] f S r false q w) (h0 : I.first = 0) (hN : 0 < I.n) {V : Int→Int} (hF : FullS I.n S V) (hc : S.cur < 1000000) :
  Calls Try.prog 24 #[.pointer (some ⟨I.mb,0,none⟩),.pointer (some ⟨G,0,none⟩),.int .i64 (S.cur + 1)] w fun e w'=>e = .returned (.bool true)∧∃ Z,Kept Z w w':=by
 obtain ⟨S',k,e,-,-,-⟩:=offer_room (V':=fun q=>if q = S.cur + 1 then 1 else V q) hN (o:=none) (b:=max S.seen S.cur) 1 hF rfl (by omega) (by omega) (by show min S.cur S.cur≤_; omega) (by show _≤min S.cur S.cur; omega) (fun q hq=>by
  show (if q = S.cur + 1 then (1 : Int) else V q) = V q
  rw [if_neg (by omega)]) (by show (if S.cur + 1 = S.cur + 1 then (1 : Int) else _) = 1; rw [if_pos rfl])
 have HO:=Lib.hid (hws_offer (by decide) (.inl ⟨rfl,rfl⟩) h 1 (S.cur + 1) 0 (by rw [h0]; exact e))
 obtain ⟨c,hcc⟩ : ∃ c,c = S.cur + 1:=⟨_,rfl⟩
 rw [← hcc] at HO ⊢
 clear h hF e hcc hc
 go_enter Try.func24,Try.ntmps24
 go_wp2_with (go_at_call 23; refine HO.out.mono ?_; rintro e w' ⟨rfl,-,hk⟩)
 have HK:=Lib.hid hk
 clear hk
 go_wp2
 go_ret
 exact ⟨rfl,_,HK.out⟩
end
theorem hold7 (f : Nat→Int) (x : Int) : HoldO [7] (upd f 7 x) (some x):=by
 refine .inr ⟨x,rfl,by decide,fun j hj=>⟨7,by decide,?_,upd_same _ _ _⟩⟩
 have e : j = 0:=by simpa using hj
 subst e
 rfl
set_option maxHeartbeats 4000000 in
set_option maxRecDepth 100000 in
theorem holds_true (W : World) (s b rd : Nat) (lv : Bool) (hs8 : s < 256) (hb8 : b < 256) (hr8 : rd < 256) : (lgA Try.tame (PostT (.bool true) W) W).T () (Frame.enter Try.prog 5 #[.int .u8 s,.int .u8 b,.int .u8 rd,.bool lv] .normal) [] (seen0 W):=by
 have hs : ¬ (lgA Try.tame (PostT (.bool true) W) W).strict:=fun h=>h
 have hsz : (seen0 W).heap.size = W.heap.size:=seen0_size W
 have hio : (seen0 W).os = W.os∧(seen0 W).output = W.output:=seen0_io W
 generalize seen0 W = x at hsz hio ⊢
 rw [show Frame.enter Try.prog 5 #[.int .u8 s,.int .u8 b,.int .u8 rd,.bool lv] .normal = Frame.at { (default : Frame) with fn:=5,kind:=.normal } ⟨#[.int .u8 s,.int .u8 b,.int .u8 rd,.bool lv] ++ Array.replicate (Try.f5.ntmps - 4) undef,[]⟩ [.code (Try.f5.body.getD .skip)] from by simp [Frame.enter,Frame.at,Try.func5]; rfl]
 simp only [Try.f5,Option.getD_some,Nat.reduceSub,Array.replicate_succ,Array.replicate_zero,List.push_toArray,List.append_toArray,List.nil_append,List.cons_append]
 refine Lg.move _ (fun _ _=>step_seq) (fun h=>h) ?_
 refine Lg.code fun K hK y τ n' hy=>?_
 subst hy
 go_wp2
 refine hK _ _ (fun h=>absurd h hs) ?_
 clear hK K
 have hsz : y.heap.size = W.heap.size:=hsz
 have hio : y.os = W.os∧y.output = W.output:=hio
 refine Lg.move _ (fun _ _=>step_seq) (fun h=>h) ?_
 refine Lg.move _ (fun _ _=>step_seq) (fun h=>h) ?_
 refine Lg.move _ (fun _ _=>step_region) (fun h=>h) ?_
 refine Lg.call (i:=0) (rest:=[1]) (f:=6) (args:=#[]) rfl rfl (fun y=>by go_simp) (awake_true Try.tame (PostT (.bool true) W) W y (by omega)) ?_
 rintro vv t' w1 ⟨rfl,hk⟩
 have hio2 : w1.os = W.os∧w1.output = W.output:=⟨hk.io.1.trans hio.1,hk.io.2.trans hio.2⟩
 clear hk hio hsz
 rw [Frame.finish_at]
 walk_nrm
 refine (show (lgA Try.tame (PostT (.bool true) W) W).T _ (Frame.at _ ⟨_,[]⟩ (.inRegion _ (List.range' 1 (1 + 0)) :: _)) [] w1 from ?_)
 refine Lg.pre 1 1 0 (by simp) fun K hK q τ n' hq=>?_
 subst hq
 simp only [List.drop_succ_cons,List.drop_zero,List.take_succ_cons,List.take_zero]
 go_wp2
 refine hK _ _ (fun h=>absurd h hs) ?_
 clear hK K
 have hio3 : q.os = W.os∧q.output = W.output:=hio2
 clear hio2
 refine Lg.move _ (fun _ _=>step_region_end) (fun h=>h) ?_
 refine Lg.move _ (fun _ _=>step_cond (t:=false) rfl) (fun h=>h) ?_
 refine Lg.move _ (fun _ _=>step_skip) (fun h=>h) ?_
 refine lgA_rest Try.tame rfl Try.func5 (by kernel_rfl) (fun tm w v h w'=>?_) fun u τ2 n2 hu=>?_
 ·simp [results,Try.f5] at h ⊢
  exact h
 subst hu
 have HI:=Lib.hid (show IoW W u from hio3)
 clear hio3
 go_wp2_with fail
 obtain ⟨hn0,hn1,hn2⟩:=shl_okR (s % 5) (Nat.mod_lt _ (by decide))
 have en' : wrap64 (2 ^ (s % 5)) = ((2 ^ (s % 5) : Nat) : Int):=by
  have e0 : ((2 : Int) ^ (s % 5)) = ((2 ^ (s % 5) : Nat) : Int):=by simp
  rw [e0]; unfold wrap64; omega
 simp only [en']
 clear en'
 generalize 2 ^ (s % 5) = n at *
 refine (multi_newF n 0 u hn0 (by omega) hn2 (by decide) (by decide)).mono ?_
 rintro e w2 ⟨rfl,R1,N0,N1,B2,B3,B4,B5,Z1⟩
 have HB:=Lib.hid (And.intro R1 (And.intro B2 (And.intro B3 (And.intro B4 (And.intro Z1 (HI.out.kept (Kept.of_below (S:=fun _=>False) B5)))))))
 clear R1 N0 N1 B2 B3 B4 B5 Z1 HI hn2
 obtain ⟨mb,hmb⟩ : ∃ mb,mb = u.heap.size + 4:=⟨_,rfl⟩
 rw [← hmb]
 have HMB:=Lib.hid hmb
 clear hmb
 go_wp2_with fail
 refine (gate_newN w2).mono ?_
 rintro e w3 ⟨rfl,g3,k3,z3,-⟩
 obtain ⟨G,hG⟩ : ∃ G,G = w2.heap.size:=⟨_,rfl⟩
 rw [← hG] at g3 ⊢
 obtain ⟨I,hI⟩ : ∃ I : MIds,I = ⟨u.heap.size + 4,u.heap.size + 1,u.heap.size,u.heap.size + 2,u.heap.size + 3,n,0⟩:=⟨_,rfl⟩
 obtain ⟨S0,hS0⟩ : ∃ S0 : MulS,S0 = ⟨fun _=>-2,fun _=>0,-1,-1⟩:=⟨_,rfl⟩
 have hIn : I.n = n:=by rw [hI]
 have hIf : I.first = 0:=by rw [hI]
 have m0 : HwAt I G none (.slice none 0 0) [] (fun _=>-1) S0 w3:=by
  obtain ⟨R1,B2,B3,B4,Z1,-⟩:=HB.out
  refine ⟨?_,g3,.inl ⟨rfl,rfl⟩,none,0,rfl,Nat.le_refl _,by decide,fun _=>rfl,fun i hi=>absurd hi (Nat.not_lt_zero _)⟩
  rw [hI,hS0]
  refine ⟨B4.kept k3 id,R1.kept k3 id id,B2.kept k3 id,B3.kept k3 id,?_,?_,?_,fun b z=>?_,Int.le_refl _,by show (0 : Int) < _; decide,by show (-1 : Int)≤-1; decide,by show (-1 : Int) < _; decide⟩
  ·exact ⟨by show u.heap.size≠u.heap.size + 4; omega,by show u.heap.size≠u.heap.size + 2; omega,by show u.heap.size≠u.heap.size + 3; omega⟩
  ·exact ⟨by show u.heap.size + 2≠u.heap.size + 4; omega,by show u.heap.size + 2≠u.heap.size + 3; omega,by show u.heap.size + 2≠u.heap.size + 1; omega⟩
  ·exact ⟨by show u.heap.size + 3≠u.heap.size + 4; omega,by show u.heap.size + 3≠u.heap.size + 1; omega⟩
  ·rcases z with rfl | ⟨K,e,_⟩ | ⟨A,m,c,e,_⟩
   ·exact ⟨by show b≠u.heap.size + 4; omega,by show b≠u.heap.size + 1; omega,by show b≠u.heap.size; omega,by show b≠u.heap.size + 2; omega,by show b≠u.heap.size + 3; omega⟩
   ·cases e
   ·cases e
 rw [show mb = I.mb by rw [hI]; exact HMB.out]
 have f0 : FullS n S0 id∧S0.cur = -1∧S0.seen≤-1:=by
  rw [hS0]
  exact ⟨⟨by show (-1 : Int)≤-1; decide,fun q h0 h1 h2=>by have h2 : q≤-1:=h2; omega⟩,rfl,Int.le_refl _⟩
 have HM0:=Lib.hid (And.intro m0 (And.intro f0 (And.intro (HB.out.2.2.2.2.2.kept k3) (And.intro hIn hIf))))
 clear m0 hS0 hI hIn hIf HB HMB k3 z3 g3 hG f0
 have hneq : ∀ j : Nat,(((j : Int) : Int) != j) = false:=fun j=>by simp
 have hm50 : b % 50 < 50:=Nat.mod_lt _ (by decide)
 go_wp2_with fail
 go_loopw [14] (fun i wr=>∃ j : Nat,j≤b % 50∧i = .int .i64 j∧∃ S,HwAt I G none (.slice none 0 0) [] (fun _=>-1) S wr∧FullS n S id∧S.cur = (j : Int) - 1∧S.seen≤(j : Int) - 1∧IoW W wr) (fun i _=>b % 50 - (intOf i).toNat)
 case atStart=>exact ⟨0,Nat.zero_le _,rfl,S0,HM0.out.1,HM0.out.2.1.1,by rw [HM0.out.2.1.2.1]; rfl,HM0.out.2.1.2.2,HM0.out.2.2.1⟩
 case round =>
  obtain ⟨j,hj,rfl,S,hS,pS,cS,sS,ioS⟩:=hrel
  have HS:=Lib.hid (And.intro hS (And.intro pS (And.intro cS (And.intro sS ioS))))
  clear hS pS cS sS ioS
  by_cases hlt : j < b % 50
  ·have hd : decide (j < b % 50) = true:=decide_eq_true hlt
   have hd2 : decide ((j : Int) < (b : Int) % 50) = true:=decide_eq_true (by omega)
   obtain ⟨S',k',e',p',c',s'⟩:=offer_room (V':=id) hn0 (o:=none) (b:=(j : Int) - 1) (j : Int) HS.out.2.1 HS.out.2.2.1 (by omega) HS.out.2.2.2.1 (by show min ((j : Int) - 1) ((j : Int) - 1)≤_; omega) (by show _≤min ((j : Int) - 1) ((j : Int) - 1); omega) (fun _ _=>rfl) (by show ((j : Int) - 1 + 1) = _; omega)
   have HE:=Lib.hid (And.intro e' (And.intro p' (And.intro c' s')))
   clear e' p' c' s'
   go_wp2_with fail
   refine (hw_offer (by decide) (.inl ⟨rfl,rfl⟩) HS.out.1 j j 0 (by rw [HM0.out.2.2.2.1,HM0.out.2.2.2.2,HE.out.1,show (j : Int) - 1 + 1 = j by omega])).mono ?_
   rintro r w4 ⟨rfl,m4,k4⟩
   have H4:=Lib.hid (And.intro m4 (HS.out.2.2.2.2.kept k4))
   clear m4 k4
   go_wp2
   go_roundw
   case rel=>exact ⟨j + 1,by omega,by go_num,S',H4.out.1,HE.out.2.1,by rw [HE.out.2.2.1]; omega,by have:=HE.out.2.2.2; omega,H4.out.2⟩
   case measure=>simp [intOf]; omega
  ·have hd : decide (j < b % 50) = false:=decide_eq_false hlt
   have hd2 : decide ((j : Int) < (b : Int) % 50) = false:=decide_eq_false (by omega)
   obtain rfl : j = b % 50:=by omega
   clear hd hd2 hlt hj
   have e13 : (b : Int) % 50 = ((b % 50 : Nat) : Int):=by omega
   simp only [e13]
   clear e13
   generalize b % 50 = m at *
   go_wp2_with fail
   refine (reader_new I.mb G 7 _ (by decide)).mono ?_
   rintro e w4 ⟨rfl,hw4⟩
   have H4 : Hid (HwS I G none (.slice none 0 0) [] (fun _=>-1) S wr.heap.size false 0 w4∧IoW W w4):=Lib.hid (by
    have k4 : Kept (fun _=>False) wr w4:=hw4 ▸ Kept.alloc _ _
    have hm:=HS.out.1
    refine ⟨⟨hm.keep k4 fun _ _ z=>z.elim,hw4 ▸ Blk.new wr 40 _,?_,?_,(fun K e=>by cases e),(fun A n c e=>by cases e)⟩,HS.out.2.2.2.2.kept k4⟩
    ·rintro (z | z | z | z | z)
     ·exact absurd hm.m.mul.lt (by rw [← z]; exact Nat.lt_irrefl _)
     ·exact absurd hm.m.ring.rlt (by rw [← z]; exact Nat.lt_irrefl _)
     ·exact absurd hm.m.ring.glt (by rw [← z]; exact Nat.lt_irrefl _)
     ·exact absurd hm.m.cw.lt (by rw [← z]; exact Nat.lt_irrefl _)
     ·exact absurd hm.m.sw.lt (by rw [← z]; exact Nat.lt_irrefl _)
    ·exact fun z=>absurd ((gX _ _ _ _ _).old hm.g z) (Nat.lt_irrefl _))
   clear hw4
   generalize wr.heap.size = r at *
   have HS:=Lib.hid HS.out.2
   go_wp2_with fail
   refine (hws_join H4.out.1 (by decide) (by decide)).mono ?_
   rintro e w5 ⟨rfl,k5,gp,mv,h5⟩
   rw [HS.out.2.1,show (m : Int) - 1 + 1 = m by omega] at h5 ⊢
   have H5:=Lib.hid (And.intro h5 (H4.out.2.kept k5))
   clear k5 h5
   go_wp2_with fail
   refine (hws_there H5.out.1).mono ?_
   rintro e w' ⟨rfl,rfl⟩
   go_wp2_with (first | (go_at_call 18; refine (reader_joined r G 7 true m H5.out.1.rd).mono ?_; rintro e w' ⟨rfl,rfl⟩) | (go_at_call 19; refine (hws_next H5.out.1).mono ?_; rintro e w' ⟨rfl,rfl⟩))
   have fJ : HoldO [7] (upd (fun _=>-1) 7 ((m : Int) - 1)) (some ((m : Int) - 1)):=hold7 _ _
   have HJ:=Lib.hid (And.intro fJ (And.intro (show HwS I G gp mv [7] (upd (fun _=>-1) 7 ((m : Int) - 1)) S r true m w5 from H5.out.1) H5.out.2))
   clear fJ H5 H4
   generalize upd (fun _=>-1) 7 ((m : Int) - 1) = fj at HJ
   have hneq2 : ∀ j : Nat,(((m : Int) + j : Int) != (m : Int) + j) = false:=fun j=>by simp
   go_loopw [21] (fun i wr=>∃ j : Nat,j≤n∧i = .int .i64 j∧∃ S,HwS I G gp mv [7] fj S r true m wr∧FullS n S id∧S.cur = (m : Int) - 1 + j∧S.seen≤(m : Int) - 1∧IoW W wr) (fun i _=>n - (intOf i).toNat)
   case atStart=>exact ⟨0,Nat.zero_le _,rfl,S,HJ.out.2.1,HS.out.1,by rw [HS.out.2.1]; simp,HS.out.2.2.1,HJ.out.2.2⟩
   case round =>
    clear HS
    obtain ⟨j,hj,rfl,S,hS,pS,cS,sS,ioS⟩:=hrel
    have HS:=Lib.hid (And.intro hS (And.intro pS (And.intro cS (And.intro sS ioS))))
    clear hS pS cS sS ioS
    by_cases hlt : j < n
    ·have hd : decide (j < n) = true:=decide_eq_true hlt
     obtain ⟨S',k',e',p',c',s'⟩:=offer_room (V':=id) hn0 (o:=some ((m : Int) - 1)) (b:=(m : Int) - 1) ((m : Int) + j) HS.out.2.1 HS.out.2.2.1 (by omega) HS.out.2.2.2.1 (by show min ((m : Int) - 1) _≤_; omega) (by show _≤min ((m : Int) - 1) _; omega) (fun _ _=>rfl) (by show ((m : Int) - 1 + j + 1) = _; omega)
     have HE:=Lib.hid (And.intro e' (And.intro p' (And.intro c' s')))
     clear e' p' c' s'
     go_wp2_with fail
     refine (hws_offer (by decide) HJ.out.1 HS.out.1 (m + j) (m + j) 0 (by rw [HM0.out.2.2.2.1,HM0.out.2.2.2.2,HE.out.1,show (m : Int) - 1 + j + 1 = m + j by omega])).mono ?_
     rintro e w4 ⟨rfl,m4,k4⟩
     have H4:=Lib.hid (And.intro m4 (HS.out.2.2.2.2.kept k4))
     clear m4 k4
     go_wp2
     go_roundw
     case rel=>exact ⟨j + 1,by omega,by go_num,S',H4.out.1,HE.out.2.1,by rw [HE.out.2.2.1]; omega,by have:=HE.out.2.2.2; omega,H4.out.2⟩
     case measure=>simp [intOf]; omega
    ·have hd : decide (j < n) = false:=decide_eq_false hlt
     obtain rfl : j = n:=by omega
     clear hj hlt
     obtain ⟨S1,k',e',p',c',s'⟩:=offer_back hn0 (o:=some ((m : Int) - 1)) (b:=(m : Int) - 1) 5 HS.out.2.1 HS.out.2.2.1 (by omega) HS.out.2.2.2.1 (by show min ((m : Int) - 1) _≤_; omega) (by omega)
     have HE:=Lib.hid (And.intro e' (And.intro p' (And.intro c' s')))
     clear e' p' c' s'
     go_wp2_with fail
     refine (hws_offer (by decide) HJ.out.1 HS.out.1 5 0 3 (by rw [HM0.out.2.2.2.1,HM0.out.2.2.2.2,HE.out.1])).mono ?_
     rintro e w4 ⟨rfl,m4,k4⟩
     have H4:=Lib.hid (And.intro m4 (HS.out.2.2.2.2.kept k4))
     have HE:=Lib.hid HE.out.2
     clear m4 k4 HS
     go_wp2_with fail
     have hlg:=hws_lag H4.out.1 (by omega) (by omega)
     rw [HE.out.2.1,show (m : Int) - 1 + j + 1 - m = j by omega] at hlg
     refine hlg.mono ?_
     clear hlg
     rintro e w5 ⟨rfl,k5⟩
     have H5 : Hid (HwS I G gp mv [7] fj S1 r true m w5∧IoW W w5):=Lib.hid ⟨⟨H4.out.1.hw.keep k5 fun _ _ z=>z.elim,Blk.kept H4.out.1.rd k5 id,H4.out.1.rne,H4.out.1.rno,H4.out.1.dg,H4.out.1.dm⟩,H4.out.2.kept k5⟩
     clear H4 k5
     cases lv with
     | true =>
       obtain ⟨S2,k',e',p',c',s'⟩:=offer_back hn0 (o:=some ((m : Int) - 1)) (b:=(m : Int) - 1) 5 HE.out.1 HE.out.2.1 (by omega) HE.out.2.2 (by show min ((m : Int) - 1) _≤_; omega) (by omega)
       have HE2:=Lib.hid (And.intro e' (And.intro p' (And.intro c' s')))
       clear e' p' c' s'
       go_wp2_with fail
       refine (hws_offer (by decide) HJ.out.1 H5.out.1 5 0 3 (by rw [HM0.out.2.2.2.1,HM0.out.2.2.2.2,HE2.out.1])).mono ?_
       rintro e w6 ⟨rfl,m6,k6⟩
       have H6:=Lib.hid (And.intro m6 (H5.out.2.kept k6))
       clear m6 k6
       go_wp2_with fail
       refine (hws_leave H6.out.1).mono ?_
       rintro e w7 ⟨rfl,k7,gp',mv',h7⟩
       have H7:=Lib.hid (And.intro h7 (H6.out.2.kept k7))
       clear k7 h7
       go_wp2_with (go_at_call 18; refine (reader_joined r G 7 false 0 H7.out.1.rd).mono ?_; rintro e w' ⟨rfl,rfl⟩)
       have haf:=after_ok H7.out.1 HM0.out.2.2.2.2 (by rw [HM0.out.2.2.2.1]; exact hn0) (by rw [HM0.out.2.2.2.1]; exact HE2.out.2.1) (by rw [HE2.out.2.2.1]; omega)
       rw [HE2.out.2.2.1,show (m : Int) - 1 + j + 1 = m + j by omega] at haf
       refine haf.mono ?_
       clear haf
       rintro e w8 ⟨rfl,Z,k8⟩
       have H8:=Lib.hid (H7.out.2.kept k8)
       clear k8
       go_wp2
       go_ret
       exact ⟨rfl,H8.out⟩
     | false =>
       have hz0 : (j : Int)≠0:=by omega
       have hz : ((j : Int) == 0) = false:=by simpa using hz0
       clear hz0
       have ht : Int.tmod (rd : Int) (j : Int) = ((rd % j : Nat) : Int):=rfl
       have hkj : rd % j < j:=Nat.mod_lt _ hn0
       generalize rd % j = k at *
       go_wp2_with fail
       have hIn:=HM0.out.2.2.2.1
       have hrd:=hws_read (k:=k + 1) H5.out.1 HM0.out.2.2.2.2 ((k : Int) + 1) (by omega) (by rw [HE.out.2.1]; omega) (by omega) (by omega) (by rw [HE.out.2.1,hIn]; omega) (fun i hi=>by rw [hIn]; exact (HE.out.1.st (m + i) (by omega) (by rw [HE.out.2.1]; omega) (by rw [HE.out.2.1]; omega)).1)
       refine hrd.mono ?_
       clear hrd
       rintro e w6 ⟨v',rfl,k6,o6,h6⟩
       obtain ⟨vA,vc,rfl⟩:=own_slice o6
       obtain ⟨L,rfl,l1,l2,l3,l4⟩:=own_succ o6
       have hcl : ∀ i : Nat,i < k + 1→w6.cell? ⟨L,i,none⟩ = some (.int .i64 ((m : Int) + i)):=fun i hi=>by
        refine l4 i _ ?_
        have hva:=(HE.out.1.st (m + i) (by omega) (by rw [HE.out.2.1]; omega) (by rw [HE.out.2.1]; omega)).2
        rw [List.getElem?_map]
        show Option.map _ ((List.range (k + 1)).map fun i : Nat=>S1.va (((m : Int) + i) % (I.n : Int)).toNat)[i]? = _
        rw [List.getElem?_map,List.getElem?_range hi,hIn]
        show some (Value.int .i64 (S1.va (((m : Int) + i) % (j : Int)).toNat)) = _
        rw [hva]
        rfl
       have hout : ¬ OutM I (gX G gp mv [7] (upd fj 7 ((m : Int) + ((k + 1 : Nat) : Int) - 1))).own L:=by
        have hm5:=H5.out.1.hw
        rintro (z | z | z | z)
        ·have:=hm5.m.cw.lt; omega
        ·have:=hm5.m.sw.lt; omega
        ·have:=hm5.m.ring.glt; omega
        ·have z' : (gX G gp mv [7] fj).own L:=z
         have:=(gX G gp mv [7] fj).old hm5.g z'
         omega
       have eK : (m : Int) + ((k + 1 : Nat) : Int) - 1 = m + k:=by omega
       have eK2 : (m : Int) + ((k + 1 : Nat) : Int) = m + (k + 1):=by omega
       rw [eK] at hout h6
       rw [eK2] at h6
       have hold:=hold7 fj ((m : Int) + k)
       generalize upd fj 7 ((m : Int) + k) = f6 at *
       unfold maxLen at l3
       have H6:=Lib.hid (And.intro h6 (And.intro (H5.out.2.kept k6) (And.intro hcl (And.intro hout hold))))
       clear h6 k6 o6 l1 l4 hcl hout eK eK2 hold hIn
       have ek3 : ((k + 1 : Nat) : Int) = (k : Int) + 1:=by omega
       simp only [ek3]
       clear ek3
       go_wp2_with (go_at_call 19; refine (hws_next H6.out.1).mono ?_; rintro e w' ⟨rfl,rfl⟩)
       have hneq3 : ∀ i : Nat,(((m : Int) + j + i : Int) != (m : Int) + j + i) = false:=fun i=>by simp
       go_loopw [31] (fun i wr=>∃ i' : Nat,i'≤k + 1∧i = .int .i64 i'∧∃ S V,HwS I G gp mv [7] f6 S r true ((m : Int) + (k + 1)) wr∧FullS j S V∧S.cur = (m : Int) - 1 + j + i'∧S.seen≤(m : Int) + k∧IoW W wr∧∀ i : Nat,i < k + 1→wr.cell? ⟨L,i,none⟩ = some (.int .i64 ((m : Int) + i))) (fun i _=>k + 1 - (intOf i).toNat)
       case atStart=>exact ⟨0,Nat.zero_le _,rfl,S1,id,H6.out.1,HE.out.1,by rw [HE.out.2.1]; simp,by have:=HE.out.2.2; omega,H6.out.2.1,H6.out.2.2.1⟩
       case round =>
        have HO:=Lib.hid H6.out.2.2.2
        clear HE H5 H6 HJ
        obtain ⟨i,hi,rfl,S,V,hS,pS,cS,sS,ioS,hcl⟩:=hrel
        have HS:=Lib.hid (And.intro hS (And.intro pS (And.intro cS (And.intro sS (And.intro ioS hcl)))))
        clear hS pS cS sS ioS hcl
        by_cases hlt : i < k + 1
        ·obtain ⟨S',k',e',p',c',s'⟩:=offer_room (V':=fun q=>if q = (m : Int) - 1 + j + i + 1 then 9 else V q) hn0 (o:=some ((m : Int) + k)) (b:=(m : Int) + k) 9 HS.out.2.1 HS.out.2.2.1 (by omega) HS.out.2.2.2.1 (by show min ((m : Int) + k) _≤_; omega) (by show _≤min ((m : Int) + k) _; omega)
          (fun q hq=>by show (if q = (m : Int) - 1 + j + i + 1 then (9 : Int) else V q) = V q; rw [if_neg (by omega)]) (by show (if (m : Int) - 1 + j + i + 1 = (m : Int) - 1 + j + i + 1 then (9 : Int) else _) = 9; rw [if_pos rfl])
         have HE:=Lib.hid (And.intro e' (And.intro p' (And.intro c' s')))
         clear e' p' c' s'
         have hd : decide (i < k + 1) = true:=decide_eq_true hlt
         have hd2 : decide ((i : Int) < (k : Int) + 1) = true:=decide_eq_true (by omega)
         go_wp2_with fail
         refine (hws_offer (by decide) HO.out.2 HS.out.1 9 ((m : Int) + j + i) 0 (by rw [HM0.out.2.2.2.1,HM0.out.2.2.2.2,HE.out.1,show (m : Int) - 1 + j + i + 1 = m + j + i by omega])).mono ?_
         rintro e w4 ⟨rfl,m4,k4⟩
         have hcl4 : ∀ i : Nat,i < k + 1→w4.cell? ⟨L,i,none⟩ = some (.int .i64 ((m : Int) + i)):=fun i hi=>cell_keep (HS.out.2.2.2.2.2 i hi) k4 HO.out.1
         have c4:=hcl4 i hlt
         have H4:=Lib.hid (And.intro m4 (And.intro (HS.out.2.2.2.2.1.kept k4) hcl4))
         clear m4 k4 hcl4
         go_wp2
         go_roundw
         case rel=>exact ⟨i + 1,by omega,by go_num,S',_,H4.out.1,HE.out.2.1,by rw [HE.out.2.2.1]; omega,by have:=HE.out.2.2.2; omega,H4.out.2.1,H4.out.2.2⟩
         case measure=>simp [intOf]; omega
        ·obtain rfl : i = k + 1:=by omega
         have hd : decide (k + 1 < k + 1) = false:=by simp
         have hd2 : decide (((k + 1 : Nat) : Int) < (k : Int) + 1) = false:=decide_eq_false (by omega)
         obtain ⟨S2,k',e',p',c',s'⟩:=offer_back hn0 (o:=some ((m : Int) + k)) (b:=(m : Int) + k) 5 HS.out.2.1 HS.out.2.2.1 (by omega) HS.out.2.2.2.1 (by show min ((m : Int) + k) _≤_; omega) (by omega)
         have HE:=Lib.hid e'
         clear e' p' c' s'
         go_wp2_with fail
         refine (hws_offer (by decide) HO.out.2 HS.out.1 5 0 3 (by rw [HM0.out.2.2.2.1,HM0.out.2.2.2.2,HE.out])).mono ?_
         rintro e w4 ⟨rfl,m4,k4⟩
         have H4:=Lib.hid (HS.out.2.2.2.2.1.kept k4)
         clear m4 k4
         go_wp2
         go_ret
         exact ⟨rfl,H4.out⟩
end Go.Proofs.Ytlhbonnminlnlaa
namespace Go.Proofs.Ytlhbonnminlnlaa.readerHolds
open Go.ChangeShapes Go.WideShapes Go.ChangeAt Go.RowKit Go.Turn
theorem own : ownKnob Try.prog.godebug = none:=by kernel_rfl
set_option maxRecDepth 100000 in
theorem lifted (os : Os) (started : os.Started) (H : Type) (enc : TypeId × Value→H) :
  ReturnsInLeavingWide {} Try.checked os 5 .any (Rows.readerHoldsSpec.pre6 enc Try.prog Try.f5 Rows.readerHoldsRow.domain false) (Rows.readerHoldsSpec.post enc Try.prog Try.f5 false true false false):=by
 refine returnsInLeavingWide_of_change_sized (C:=Try.checked) own started Try.func5
  (ChangeSpec.witness6 (enc:=enc) (C:=Try.checked) false ⟨#[],#[.int .u8 0,.int .u8 0,.int .u8 0,.bool false],[]⟩ 8 (by kernel_rfl) (by kernel_rfl) (by kernel_rfl) (by kernel_rfl)) ?_
 intro W base args ds gs before hval0 hW _ _ _
 have hval : ∀ (j : Nat) t v,Try.f5.params[j]? = some t→args[j]? = some v→Value.okWide Try.prog W .any base t v:=hval0
 have hW':=hW
 obtain ⟨p,q,hA0,hV,rfl,hfz,hnd⟩:=hW
 have hA : DataW.TrodAll enc Try.prog W 0 (fun _=>true) true Try.f5.params.toList args.toList ds p:=hA0
 rw [Try.params5] at hA hval
 obtain ⟨v0,vs0,d0,ds0,p0,q0,hargs,rfl,rfl,h0,r0⟩:=trodAll_cons hA
 obtain ⟨v1,vs1,d1,ds1,p1,q1,rfl,rfl,rfl,h1,r1⟩:=trodAll_cons r0
 obtain ⟨v2,vs2,d2,ds2,p2,q2,rfl,rfl,rfl,h2,r2⟩:=trodAll_cons r1
 obtain ⟨v3,vs3,d3,ds3,p3,q3,rfl,rfl,rfl,h3,r3⟩:=trodAll_cons r2
 obtain ⟨rfl,rfl,rfl⟩:=trodAll_nil r3
 obtain rfl : args = #[v0,v1,v2,v3]:=by cases args; simp_all
 obtain ⟨rfl,rfl⟩:=trodVars_none hV
 obtain ⟨a0,rfl,rfl,rfl,w0⟩:=open_int Try.underlying5 (hval 0 5 v0 rfl rfl) h0
 obtain ⟨a1,rfl,rfl,rfl,w1⟩:=open_int Try.underlying5 (hval 1 5 v1 rfl rfl) h1
 obtain ⟨a2,rfl,rfl,rfl,w2⟩:=open_int Try.underlying5 (hval 2 5 v2 rfl rfl) h2
 obtain ⟨a3,rfl,rfl,rfl⟩:=open_bool Try.underlying4 (hval 3 4 v3 rfl rfl) h3
 simp only [List.append_nil] at hW'
 have hb2 : 0≤a2∧a2 < 256:=by
  have h:=w2
  simp [Lit.wf,IntKind.min,IntKind.max,IntKind.signed,IntKind.bits] at h; omega
 obtain ⟨rd,rfl⟩ : ∃ rd : Nat,a2 = rd:=⟨a2.toNat,by omega⟩
 have hb0 : 0≤a0∧a0 < 256:=by
  have h:=w0
  simp [Lit.wf,IntKind.min,IntKind.max,IntKind.signed,IntKind.bits] at h; omega
 have hb1 : 0≤a1∧a1 < 256:=by
  have h:=w1
  simp [Lit.wf,IntKind.min,IntKind.max,IntKind.signed,IntKind.bits] at h; omega
 obtain ⟨s,rfl⟩ : ∃ s : Nat,a0 = s:=⟨a0.toNat,by omega⟩
 obtain ⟨b,rfl⟩ : ∃ b : Nat,a1 = b:=⟨a1.toNat,by omega⟩
 obtain ⟨M,last,o,w',t',q1,q2,q3,q4⟩:=run_good Try.tame (holds_true W s b rd a3 (by omega) (by omega) (by omega))
 refine ⟨M,last,o,w',t',q1,q2,q3,q4.mono fun v hF=>?_⟩
 have hb : Below W.heap.size W { w' with tape:=W.tape }:=⟨hF.os,rfl,hF.output,hF.size,hF.old⟩
 obtain rfl:=hF.val
 exact ⟨_,_,_,[],_,[],hW',trodAll_cons_mk (shut_bool Try.underlying4 _) trodAll_mk0,
  trodAll_cons_mk (shut_int Try.underlying5 w0) (trodAll_cons_mk (shut_int Try.underlying5 w1) (trodAll_cons_mk (shut_int Try.underlying5 w2) (trodAll_cons_mk (shut_bool Try.underlying4 _) trodAll_mk0))),rfl,hF.frame _,fun h=>by cases h⟩
theorem over : Rows.readerHoldsRow.holds Try.pinned (OpenSpec.ofChange Rows.readerHoldsSpec):=
 OpenClaim.holds_of_wide_leaving 5 Try.f5 rfl rfl rfl rfl rfl rfl rfl ⟨rfl,rfl,rfl,rfl,rfl⟩ rfl rfl rfl rfl rfl (by kernel_rfl) Try.func5 (by kernel_rfl)
  (of_decide_eq_true (by kernel_rfl)) (by unfold Func.isWrapper; first | (rw [if_pos (by decide +kernel)]; kernel_rfl) | (rw [if_neg (by decide +kernel)]; exact ⟨rfl,rfl⟩))
  (fun os started H enc _=>lifted os started H enc)
theorem proved : Rows.ReaderHoldsSaid:=over
end Go.Proofs.Ytlhbonnminlnlaa.readerHolds
