/- DERIVED. Offers beside a gate, in plain terms, and walked. -/
import Derived.Test.YtlhbonnminlnlaaGk
import Derived.Test.YtlhbonnminlnlaaGl
import Derived.Test.YtlhbonnminlnlaaGj
import Derived.Test.YtlhbonnminlnlaaGi
import Derived.Test.YtlhbonnminlnlaaGh
set_option linter.unusedVariables false
set_option linter.unusedSectionVars false
set_option linter.unusedSimpArgs false
namespace Go.Proofs.Ytlhbonnminlnlaa
open Go.RowKit
theorem multi_no (M R C S : Nat) (x : Int) (w : World) (h : Blk w M 73 #[.pointer (some ⟨R,0,none⟩),.int .i64 x,.pointer (some ⟨C,0,none⟩),.pointer (some ⟨S,0,none⟩)]) : Calls Try.prog 45 #[.pointer (some ⟨M,0,none⟩)] w fun e w'=>e = .returned (.bool false)∧w = w':=by
 have c0 : w.cell? ⟨M,0,none⟩ = some (.pointer (some ⟨R,0,none⟩)):=h.cell 0
 clear h
 go_enter Try.func45,Try.ntmps45
 go_wp2
 go_ret
 exact ⟨rfl,rfl⟩
theorem multi_cursor (M R C S : Nat) (x y : Int) (w : World) (h : Blk w M 73 #[.pointer (some ⟨R,0,none⟩),.int .i64 x,.pointer (some ⟨C,0,none⟩),.pointer (some ⟨S,0,none⟩)]) (hC : Blk w C 121 #[.int .i64 y]) : Calls Try.prog 29 #[.pointer (some ⟨M,0,none⟩),.nilIface] w fun e w'=>e = .returned (.int .i64 y)∧w = w':=by
 have c2 : w.cell? ⟨M,2,none⟩ = some (.pointer (some ⟨C,0,none⟩)):=h.cell 2
 have HH:=Lib.hid (And.intro h hC)
 clear h hC
 go_enter Try.func29,Try.ntmps29
 go_wp2_with (first | (go_at_call 45; refine (multi_no M R C S x _ HH.out.1).mono ?_; rintro e w' ⟨rfl,rfl⟩) | (go_at_call 47; refine (word_load _ y _ (HH.out.2.cell 0)).mono ?_; rintro e w' ⟨rfl,rfl⟩))
 go_ret
 exact ⟨rfl,rfl⟩
theorem reader_new (M G i : Nat) (w : World) (hi : i < 64) : Calls Try.prog 9 #[.pointer (some ⟨M,0,none⟩),.pointer (some ⟨G,0,none⟩),.int .i64 i] w fun e w'=>e = .returned (.tuple #[.pointer (some ⟨w.heap.size,0,none⟩),.int .i64 0])∧w.alloc (.cells #[.pointer (some ⟨M,0,none⟩),.pointer (some ⟨G,0,none⟩),.int .i64 i,.bool false,.int .i64 0] 40) = w':=by
 have h0 : ¬ (i : Int) < 0:=by omega
 have h1 : ¬ (64 : Int)≤i:=by omega
 go_enter Try.func9,Try.ntmps9
 go_wp2
 go_ret2
 exact ⟨rfl,rfl⟩
theorem upd_twice (f : Nat→Int) (i : Nat) (x y : Int) : upd (upd f i x) i y = upd f i y:=by
 funext j
 by_cases e : j = i
 ·subst e; rw [upd_same,upd_same]
 ·rw [upd_ne _ _ e,upd_ne _ _ e,upd_ne _ _ e]
def RdAt (w : World) (r M G i : Nat) (j : Bool) (q : Int) : Prop:=Blk w r 40 #[.pointer (some ⟨M,0,none⟩),.pointer (some ⟨G,0,none⟩),.int .i64 i,.bool j,.int .i64 q]
set_option maxHeartbeats 4000000 in
set_option maxRecDepth 100000 in
theorem reader_join (r M G i R C Sn : Nat) (cur x : Int) (gp : Option Addr) (mv : Value) (ml : List Int) (f : Nat→Int) (w : World) (hr : RdAt w r M G i false 0)
  (hM : Blk w M 73 #[.pointer (some ⟨R,0,none⟩),.int .i64 x,.pointer (some ⟨C,0,none⟩),.pointer (some ⟨Sn,0,none⟩)]) (hC : Blk w C 121 #[.int .i64 cur])
  (hg : GateAt w G gp f) (hb : BoxV 162 gp mv w) (hm : MembersAt w mv ml) (hi : i < 64) (hni : (i : Int) ∉ ml) (hml : ml.length≤64)
  (hgne : ∀ K,gp = some ⟨K,0,none⟩→K≠G) (hmne : ∀ A n c,mv = .slice (some A) n c→A.block≠G) (h1 : r≠G) (h2 : M≠G) (h3 : C≠G) (hc0 : -1≤cur) (hc1 : cur < 4611686018427387904) :
  Calls Try.prog 13 #[.pointer (some ⟨r,0,none⟩),.nilIface] w fun e w'=>e = .returned (.tuple #[.int .i64 (cur + 1),.int .i64 0])∧Kept (fun b=>b = G∨b = r) w w'∧RdAt w' r M G i true (cur + 1)∧∃ K L c,w.heap.size≤K∧w.heap.size≤L∧GateAt w' G (some ⟨K,0,none⟩) (upd f i cur) ∧
   Blk w' K 162 #[.slice (some ⟨L,0,none⟩) (ml.length + 1) c,.int .i64 0]∧ml.length + 1≤c∧c≤maxLen∧∀ j (h : j < (ml ++ [(i : Int)]).length),w'.cell? ⟨L,j,none⟩ = some (.int .i64 (ml ++ [(i : Int)])[j]):=by
 have c0 : w.cell? ⟨r,0,none⟩ = some (.pointer (some ⟨M,0,none⟩)):=Blk.cell hr 0
 have c3 : w.cell? ⟨r,3,none⟩ = some (.bool false):=Blk.cell hr 3
 have HH:=Lib.hid (And.intro hr (And.intro hM hC))
 have HG:=Lib.hid (And.intro hg (And.intro hb hm))
 have HN:=Lib.hid (And.intro hgne (And.intro hmne (And.intro h1 (And.intro h2 h3))))
 have hrlt:=Blk.lt hr
 clear hr hM hC hg hb hm hgne hmne h1 h2 h3
 go_enter Try.func13,Try.ntmps13
 go_wp2_with fail
 rename_i K0 hK0
 refine strictL ?_
 refine wp_region_held (S:=Kept (fun b=>b = G) w) (by kernel_rfl) ?_
 simp only [List.size_toArray,List.length_cons,List.length_nil,Nat.reduceAdd]
 have HW1 : Hid (Kept (fun b=>b = G) w { w with drawn:=w.drawn + 1 }):=Lib.hid (Kept.drew w)
 iterate 14
  first
  | refine rdL 0 16 23 ?_
  | refine rdL 1 15 24 ?_
  | refine rdL 2 14 25 ?_
  | refine rdL 3 13 26 ?_
  | refine rdL 4 12 27 ?_
  | refine rdL 5 11 28 ?_
  | refine rdL 6 10 29 ?_
  | refine rdL 7 9 30 ?_
  | refine rdL 8 8 31 ?_
  | refine rdL 9 7 32 ?_
  | refine rdL 10 6 33 ?_
  | refine rdL 11 5 34 ?_
  | refine rdL 12 4 35 ?_
  | refine rdL 13 3 36 ?_
  refine ⟨_,rfl,rfl,by kernel_rfl,by kernel_rfl,by kernel_rfl,(fun c a w h=>by cases h.1),rfl,HW1.out,?_⟩
  apply Exists.intro
  refine ⟨fun wq hw=>?_,?_⟩
  ·have hb : Blk wq r 40 _:=Blk.kept HH.out.1 hw HN.out.2.2.1
   have c0 : wq.cell? ⟨r,0,none⟩ = some (.pointer (some ⟨M,0,none⟩)):=hb.cell 0
   have c1 : wq.cell? ⟨r,1,none⟩ = some (.pointer (some ⟨G,0,none⟩)):=hb.cell 1
   have c2 : wq.cell? ⟨r,2,none⟩ = some (.int .i64 i):=hb.cell 2
   clear hb
   go_simp
   rfl
  simp only [Act.put,List.setIfInBounds_toArray,List.set_cons_zero,List.set_cons_succ]
 have hkd : Kept (fun _=>False) w { w with drawn:=w.drawn + 1 }:=Kept.drew w
 clear HW1 c0 c3
 generalize ({ w with drawn:=w.drawn + 1 } : World) = wd at hkd ⊢
 have HY0:=Lib.hid hkd
 clear hkd
 refine oneL (i:=14) (fuel:=2) (by kernel_rfl) rfl rfl fun K hK'=>?_
 unfold Oper.wp
 go_simp
 refine (multi_cursor M R C Sn x cur wd (HH.out.2.1.kept HY0.out id) (HH.out.2.2.kept HY0.out id)).mono ?_
 rintro e w' ⟨rfl,rfl⟩
 dsimp only
 refine hK' _ _ (HY0.out.mono fun _ _ z=>z.elim) ?_
 clear hK' K
 refine oneL (i:=15) (fuel:=1) (by kernel_rfl) rfl rfl fun K hK'=>?_
 unfold Oper.wp
 go_simp
 refine (gate_join G i gp mv ml f cur wd (HG.out.1.kept HY0.out id) (HG.out.2.1.kept HY0.out) (HG.out.2.2.kept HY0.out) hi hni hml HN.out.1 HN.out.2.1).mono ?_
 rintro e w1 ⟨rfl,k1,J⟩
 dsimp only
 have HJ:=Lib.hid (And.intro k1 J)
 clear k1 J
 refine hK' _ _ ((HY0.out.mono fun _ _ z=>z.elim).trans HJ.out.1) ?_
 clear hK' K
 refine oneL (i:=16) (fuel:=0) (by kernel_rfl) rfl rfl fun K hK'=>?_
 unfold Oper.wp
 go_simp
 refine hK' _ _ ((HY0.out.mono fun _ _ z=>z.elim).trans HJ.out.1) ?_
 clear hK' K
 refine wpAnyH_done (by kernel_rfl) ⟨rfl,?_⟩ _
 refine hK0 _ _ ?_
 clear hK0 K0
 have hk1 : Kept (fun b=>b = G) w w1:=(HY0.out.mono fun _ _ z=>z.elim).trans HJ.out.1
 have r1 : RdAt w1 r M G i false 0:=Blk.kept HH.out.1 hk1 HN.out.2.2.1
 have m1:=HH.out.2.1.kept hk1 HN.out.2.2.2.1
 have n1:=HH.out.2.2.kept hk1 HN.out.2.2.2.2
 have c0 : w1.cell? ⟨r,0,none⟩ = some (.pointer (some ⟨M,0,none⟩)):=Blk.cell r1 0
 have H1:=Lib.hid (And.intro hk1 (And.intro r1 (And.intro m1 n1)))
 clear hk1 r1 m1 n1
 go_wp2_with (go_at_call 29; refine (multi_cursor M R C Sn x cur _ H1.out.2.2.1 H1.out.2.2.2).mono ?_; rintro e w' ⟨rfl,rfl⟩)
 rename_i K0 hK0
 refine strictL ?_
 refine wp_region_held (S:=Kept (fun b=>b = G) w1) (by kernel_rfl) ?_
 simp only [List.size_toArray,List.length_cons,List.length_nil,Nat.reduceAdd]
 have HW1 : Hid (Kept (fun b=>b = G) w1 { w1 with drawn:=w1.drawn + 1 }):=Lib.hid (Kept.drew w1)
 iterate 10
  first
  | refine rdL 0 10 48 ?_
  | refine rdL 1 9 49 ?_
  | refine rdL 2 8 50 ?_
  | refine rdL 3 7 51 ?_
  | refine rdL 4 6 52 ?_
  | refine rdL 5 5 53 ?_
  | refine rdL 6 4 54 ?_
  | refine rdL 7 3 55 ?_
  | refine rdL 8 2 56 ?_
  | refine rdL 9 1 57 ?_
  refine ⟨_,rfl,rfl,by kernel_rfl,by kernel_rfl,by kernel_rfl,(fun c a w h=>by cases h.1),rfl,HW1.out,?_⟩
  apply Exists.intro
  refine ⟨fun wq hw=>?_,?_⟩
  ·have hb : Blk wq r 40 _:=Blk.kept H1.out.2.1 hw HN.out.2.2.1
   have c1 : wq.cell? ⟨r,1,none⟩ = some (.pointer (some ⟨G,0,none⟩)):=hb.cell 1
   have c2 : wq.cell? ⟨r,2,none⟩ = some (.int .i64 i):=hb.cell 2
   clear hb
   go_simp
   rfl
  simp only [Act.put,List.setIfInBounds_toArray,List.set_cons_zero,List.set_cons_succ]
 have hkd : Kept (fun _=>False) w1 { w1 with drawn:=w1.drawn + 1 }:=Kept.drew w1
 clear HW1 c0
 generalize ({ w1 with drawn:=w1.drawn + 1 } : World) = wd1 at hkd ⊢
 have HZ0:=Lib.hid hkd
 clear hkd
 obtain ⟨K,L,c,q1,q2,q3,q4,q5,q6,q7⟩:=HJ.out.2
 have HG3:=Lib.hid (q3.kept HZ0.out id)
 have HJ2:=Lib.hid (And.intro q1 (And.intro q2 (And.intro q4 (And.intro q5 (And.intro q6 q7)))))
 clear q1 q2 q3 q4 q5 q6 q7
 refine oneL (i:=10) (fuel:=0) (by kernel_rfl) rfl rfl fun K' hK'=>?_
 unfold Oper.wp
 go_simp
 refine (gate_set G i _ _ cur wd1 HG3.out hi).mono ?_
 rintro e w2 ⟨rfl,hw2⟩
 dsimp only
 have k2 : Kept (fun b=>b = G) wd1 w2:=hw2 ▸ Kept.setCell (S:=fun b=>b = G) wd1 (p:=⟨G,1 + i,none⟩) (by rfl) _
 have kz2 : Kept (fun b=>b = G) w1 w2:=(HZ0.out.mono fun _ _ z=>z.elim).trans k2
 have g2 : GateAt w2 G (some ⟨K,0,none⟩) (upd f i cur):=by
  have:=HG3.out.setNum hi cur
  rw [hw2,upd_twice] at this
  exact this
 have H2:=Lib.hid (And.intro kz2 g2)
 clear k2 kz2 g2 hw2
 refine hK' _ _ H2.out.1 ?_
 clear hK' K'
 refine wpAnyH_done (by kernel_rfl) ⟨rfl,?_⟩ _
 refine hK0 _ _ ?_
 clear hK0 K0
 have r2 : Blk w2 r 40 _:=Blk.kept H1.out.2.1 H2.out.1 HN.out.2.2.1
 have d3 : w2.cell? ⟨r,3,none⟩ = some (.bool false):=r2.cell 3
 have z3 : w2.frozen? ⟨r,3,none⟩ = false:=r2.frozen 3
 have d4 : (w2.setCell ⟨r,3,none⟩ (.bool true)).cell? ⟨r,4,none⟩ = some (.int .i64 0):=(r2.set_ 3 _).cell 4
 have z4 : (w2.setCell ⟨r,3,none⟩ (.bool true)).frozen? ⟨r,4,none⟩ = false:=(r2.set_ 3 _).frozen 4
 have r3:=(r2.set_ 3 (.bool true)).set_ 4 (.int .i64 (cur + 1))
 have k3 : Kept (fun b=>b = G∨b = r) w2 ((w2.setCell ⟨r,3,none⟩ (.bool true)).setCell ⟨r,4,none⟩ (.int .i64 (cur + 1))):=(Kept.setCell (S:=fun b=>b = G∨b = r) w2 (p:=⟨r,3,none⟩) (.inr rfl) _).trans (Kept.setCell _ (p:=⟨r,4,none⟩) (.inr rfl) _)
 have kg3 : Kept (fun b=>b = r) w2 ((w2.setCell ⟨r,3,none⟩ (.bool true)).setCell ⟨r,4,none⟩ (.int .i64 (cur + 1))):=(Kept.setCell (S:=fun b=>b = r) w2 (p:=⟨r,3,none⟩) rfl _).trans (Kept.setCell (S:=fun b=>b = r) _ (p:=⟨r,4,none⟩) rfl _)
 have e4 : ((w2.setCell ⟨r,3,none⟩ (.bool true)).setCell ⟨r,4,none⟩ (.int .i64 (cur + 1))).cell? ⟨r,4,none⟩ = some (.int .i64 (cur + 1)):=r3.cell 4
 have H3:=Lib.hid (And.intro r3 (And.intro k3 kg3))
 clear r2 r3 k3 kg3
 go_wp2
 go_ret2
 obtain ⟨r3,k3,kg3⟩:=H3.out
 obtain ⟨p1,p2,p4,p5,p6,p7⟩:=HJ2.out
 have hsz:=HY0.out.size
 have hGlt:=HG.out.1.lt
 have hKr : K≠r:=by omega
 have hLr : L≠r:=by omega
 have hGr : ¬ G = r:=fun e=>HN.out.2.2.1 e.symm
 exact ⟨rfl,((H1.out.1.trans H2.out.1).mono fun _ _ z=>.inl z).trans k3,r3,K,L,c,Nat.le_trans hsz p1,Nat.le_trans hsz p2,H2.out.2.kept kg3 hGr,(p4.kept H2.out.1 (by omega)).kept kg3 hKr,p5,p6,fun j hj=>cell_keep (cell_keep (p7 j hj) H2.out.1 (by show ¬ L = G; omega)) kg3 hLr⟩
end Go.Proofs.Ytlhbonnminlnlaa
namespace Go.Proofs.Ytlhbonnminlnlaa
open Go.RowKit
structure MulAt (w : World) (M R Rs C Sn n : Nat) (st va : Nat→Int) (cur seen : Int) : Prop where
 mul : Blk w M 73 #[.pointer (some ⟨R,0,none⟩),.int .i64 0,.pointer (some ⟨C,0,none⟩),.pointer (some ⟨Sn,0,none⟩)]
 ring : RingAt w R Rs n st va
 cw : Blk w C 121 #[.int .i64 cur]
 sw : Blk w Sn 121 #[.int .i64 seen]
section
variable {w : World} {M R Rs C Sn n : Nat} {st va : Nat→Int} {cur seen : Int}
theorem multi_size (h : MulAt w M R Rs C Sn n st va cur seen) : Calls Try.prog 28 #[.pointer (some ⟨M,0,none⟩)] w fun e w'=>e = .returned (.int .i64 n)∧w = w':=by
 have c0 : w.cell? ⟨M,0,none⟩ = some (.pointer (some ⟨R,0,none⟩)):=h.mul.cell 0
 have HH:=Lib.hid h
 clear h
 go_enter Try.func28,Try.ntmps28
 go_wp2_with (first | (go_at_call 45; refine (multi_no M R C Sn 0 _ HH.out.mul).mono ?_; rintro e w' ⟨rfl,rfl⟩) | (go_at_call 46; refine (size_ring _ _ n n _ HH.out.ring.ring).mono ?_; rintro e w' ⟨rfl,rfl⟩))
 go_ret
 exact ⟨rfl,rfl⟩
end
end Go.Proofs.Ytlhbonnminlnlaa
namespace Go.Proofs.Ytlhbonnminlnlaa
open Go.RowKit
theorem MulAt.turned {w w' : World} {M R Rs C Sn n : Nat} {st va st' va' : Nat→Int} {cur seen : Int} {Z : Nat→Prop} (h : MulAt w M R Rs C Sn n st va cur seen) (r : RingAt w' R Rs n st' va') (k : Kept Z w w') (h1 : ¬ Z M) (h2 : ¬ Z C) (h3 : ¬ Z Sn) : MulAt w' M R Rs C Sn n st' va' cur seen:=⟨h.mul.kept k h1,r,h.cw.kept k h2,h.sw.kept k h3⟩
end Go.Proofs.Ytlhbonnminlnlaa
namespace Go.Proofs.Ytlhbonnminlnlaa
open Go.RowKit
def rowV (va : Nat→Int) (n : Nat) (q : Int) (k : Nat) : List Int:=(List.range k).map fun i : Nat=>va ((q + i) % n).toNat
theorem rowV_succ (va : Nat→Int) (n : Nat) (q : Int) (k : Nat) : rowV va n q (k + 1) = rowV va n q k ++ [va ((q + k) % n).toNat]:=by simp [rowV,List.range_succ]
theorem highR_all (st : Nat→Int) (n : Nat) : ∀ (k : Nat) (q : Int),(∀ j,j < k→st ((q + j) % n).toNat = 2 * ((q + j) / n))→(highR st n k q).1 = q + k - 1
 | 0,q,_=>by simp [highR]
 | k + 1,q,h=>by
   have h0:=h 0 (by omega)
   simp only [Int.natCast_zero,Int.add_zero] at h0
   have:=highR_all st n k (q + 1) (fun j hj=>by
    have:=h (j + 1) (by omega)
    rw [show q + 1 + (j : Int) = q + ((j + 1 : Nat) : Int) from by omega]
    exact this)
   simp only [highR,h0,if_true,this]
   omega
section
variable {w : World} {M R Rs C Sn n : Nat} {st va : Nat→Int} {cur seen : Int}
theorem multi_ring (h : MulAt w M R Rs C Sn n st va cur seen) : Calls Try.prog 30 #[.pointer (some ⟨M,0,none⟩)] w fun e w'=>e = .returned (.pointer (some ⟨R,0,none⟩))∧w = w':=by
 have c0 : w.cell? ⟨M,0,none⟩ = some (.pointer (some ⟨R,0,none⟩)):=h.mul.cell 0
 have HH:=Lib.hid h
 clear h
 go_enter Try.func30,Try.ntmps30
 go_wp2_with (go_at_call 45; refine (multi_no M R C Sn 0 _ HH.out.mul).mono ?_; rintro e w' ⟨rfl,rfl⟩)
 go_ret
 exact ⟨rfl,rfl⟩
theorem reader_joined (r G i : Nat) (j : Bool) (q : Int) (h : RdAt w r M G i j q) : Calls Try.prog 18 #[.pointer (some ⟨r,0,none⟩)] w fun e w'=>e = .returned (.bool j)∧w = w':=by
 have c0 : w.cell? ⟨r,3,none⟩ = some (.bool j):=Blk.cell h 3
 clear h
 go_enter Try.func18,Try.ntmps18
 go_wp2
 go_ret
 exact ⟨rfl,rfl⟩
end
set_option maxHeartbeats 4000000 in
set_option maxRecDepth 100000 in
theorem reader_read {w : World} {M R Rs C Sn n r G i : Nat} {st va f : Nat→Int} {cur seen : Int} (gp : Option Addr) (q m : Int) (k : Nat) (hr : RdAt w r M G i true q) (hM : MulAt w M R Rs C Sn n st va cur seen) (hG : GateAt w G gp f) (hi : i < 64)
  (h0 : 0≤q) (hq : q≤cur) (h1 : cur < 4611686018427387904) (hm0 : -9223372036854775808≤m) (hm1 : m < 9223372036854775808) (hk : (k : Int) = min (cur - q + 1) (min (max m 1) n)) (hst : ∀ j : Nat,j < k→st ((q + j) % n).toNat = 2 * ((q + j) / n)) (d1 : r≠G) (d2 : M≠G) :
  Calls Try.prog 14 #[.pointer (some ⟨r,0,none⟩),.nilIface,.int .i64 m] w fun e w'=>∃ v',e = .returned (.tuple #[v',.int .i64 0])∧Kept (fun b=>b = G∨b = r) w w'∧w'.ownsRow w.heap.size 2 1 v' k ((rowV va n q k).map (Value.int .i64))∧RdAt w' r M G i true (q + k)∧GateAt w' G gp (upd f i (q + k - 1)):=by
 have hn:=hM.ring.pos
 have h2:=hM.ring.most
 have c0 : w.cell? ⟨r,0,none⟩ = some (.pointer (some ⟨M,0,none⟩)):=Blk.cell hr 0
 have HH:=Lib.hid (And.intro hr (And.intro hM hG))
 have HS:=Lib.hid (And.intro hk hst)
 have HD:=Lib.hid (And.intro d1 d2)
 clear hr hM hG hst d1 d2 hk
 obtain ⟨X1,e1⟩ : ∃ X1,(if m < 1 then 1 else m) = X1:=⟨_,rfl⟩
 obtain ⟨X2,e2⟩ : ∃ X2,(if (n : Int) < X1 then (n : Int) else X1) = X2:=⟨_,rfl⟩
 obtain ⟨x0,x1,x2⟩ : 1≤X2∧X2≤n∧X2 = min (max m 1) n:=by
  rw [← e2,← e1]
  split <;> split <;> omega
 have e3 : (if q + X2 - 1 < cur then q + X2 - 1 else cur) = q + k - 1:=by
  have:=HS.out.1
  split <;> omega
 have hkk : 1≤k∧q + k - 1≤cur∧k≤n:=by have:=HS.out.1; omega
 obtain ⟨hk1,hk2,hk3⟩:=hkk
 have HE3:=Lib.hid e3
 clear e3 x2
 go_enter Try.func14,Try.ntmps14
 go_wp2_with (first | (go_at_call 18; refine (reader_joined r G i true q HH.out.1).mono ?_; rintro e w' ⟨rfl,rfl⟩) | (go_at_call 28; refine (multi_size HH.out.2.1).mono ?_; rintro e w' ⟨rfl,rfl⟩) | (go_at_call 29; refine (multi_cursor M R C Sn 0 cur _ HH.out.2.1.mul HH.out.2.1.cw).mono ?_; rintro e w' ⟨rfl,rfl⟩))
 rename_i K0 hK0
 refine strictL ?_
 refine wp_region_held (S:=Kept (fun _=>False) w) (by kernel_rfl) ?_
 simp only [List.size_toArray,List.length_cons,List.length_nil,Nat.reduceAdd]
 have HW1 : Hid (Kept (fun _=>False) w { w with drawn:=w.drawn + 1 }):=Lib.hid (Kept.drew w)
 iterate 17
  first
  | refine rdL 0 20 32 ?_
  | refine rdL 1 19 33 ?_
  | refine rdL 2 18 34 ?_
  | refine rdL 3 17 35 ?_
  | refine rdL 5 16 37 ?_
  | refine rdL 6 15 38 ?_
  | refine rdL 7 14 39 ?_
  | refine rdL 8 13 40 ?_
  | refine rdL 9 12 41 ?_
  | refine rdL 10 11 42 ?_
  | refine rdL 11 10 43 ?_
  | refine rdL 12 9 44 ?_
  | refine rdL 13 8 45 ?_
  | refine rdL 14 7 46 ?_
  | refine rdL 15 6 47 ?_
  | refine rdL 16 5 48 ?_
  | refine rdL 17 4 49 ?_
  refine ⟨_,rfl,rfl,by kernel_rfl,by kernel_rfl,by kernel_rfl,(fun c a w h=>by cases h.1),rfl,HW1.out,?_⟩
  apply Exists.intro
  refine ⟨fun wq hw=>?_,?_⟩
  ·have hb : Blk wq r 40 _:=Blk.kept HH.out.1 hw id
   have c0 : wq.cell? ⟨r,0,none⟩ = some (.pointer (some ⟨M,0,none⟩)):=hb.cell 0
   have c4 : wq.cell? ⟨r,4,none⟩ = some (.int .i64 q):=hb.cell 4
   clear hb
   go_simp
   rfl
  simp only [Act.put,List.setIfInBounds_toArray,List.set_cons_zero,List.set_cons_succ]
 have e3:=HE3.out
 refine rdL 18 3 50 ?_
 refine ⟨_,rfl,rfl,by kernel_rfl,by kernel_rfl,by kernel_rfl,(fun c a w h=>by cases h.1),rfl,HW1.out,?_⟩
 refine ⟨.int .i64 (q + k - 1),fun wq hw=>?_,?_⟩
 ·go_simp
  rw [IntWalk.i64_in (q + X2) (by omega),IntWalk.i64_in (q + X2 - 1) (by omega),e3]
 simp only [Act.put,List.setIfInBounds_toArray,List.set_cons_zero,List.set_cons_succ]
 have hkd : Kept (fun _=>False) w { w with drawn:=w.drawn + 1 }:=Kept.drew w
 clear HW1 c0 e3
 generalize ({ w with drawn:=w.drawn + 1 } : World) = wd at hkd ⊢
 have HY:=Lib.hid hkd
 clear hkd
 have hMd : MulAt wd M R Rs C Sn n st va cur seen:=HH.out.2.1.turned (HH.out.2.1.ring.kept HY.out id id) HY.out id id id
 have HMd:=Lib.hid hMd
 clear hMd
 refine oneL (i:=4) (fuel:=2) (by kernel_rfl) rfl rfl fun K hK'=>?_
 unfold Oper.wp
 go_simp
 refine (multi_ring HMd.out).mono ?_
 rintro e w' ⟨rfl,rfl⟩
 dsimp only
 refine hK' _ _ HY.out ?_
 clear hK' K
 refine oneL (i:=19) (fuel:=1) (by kernel_rfl) rfl rfl fun K hK'=>?_
 unfold Oper.wp
 go_simp
 refine (highest_x Stepper.none slots_step_none 0 R Rs n st va q (q + k - 1) wd HMd.out.ring h0 (by omega) (by omega) (by omega) trivial id id).mono ?_
 rintro e w2 ⟨rfl,k2,s2,-⟩
 rw [show highN n q (q + k - 1) = k from by unfold highN; omega,highR_all st n k q HS.out.2]
 dsimp only
 have hk2' : Kept (fun _=>False) w w2:=HY.out.trans k2
 have H2:=Lib.hid hk2'
 clear k2 s2 hk2'
 refine hK' _ _ H2.out ?_
 clear hK' K
 refine oneL (i:=20) (fuel:=0) (by kernel_rfl) rfl rfl fun K hK'=>?_
 unfold Oper.wp
 go_simp
 refine hK' _ _ H2.out ?_
 clear hK' K
 refine wpAnyH_done (by kernel_rfl) ⟨rfl,?_⟩ _
 refine hK0 _ _ ?_
 clear hK0 K0 HMd HY wd
 have r2 : RdAt w2 r M G i true q:=Blk.kept HH.out.1 H2.out id
 have c4 : w2.cell? ⟨r,4,none⟩ = some (.int .i64 q):=Blk.cell r2 4
 have HR2:=Lib.hid r2
 clear r2
 go_wp2_with fail
 clear c4
 obtain ⟨t0,hi0,hz0,hz1,hz2⟩:=info_parts Try.infoI64
 go_loopw [10,11] (fun l p wr=>∃ j : Nat,j≤k∧p = .int .i64 (q + j)∧Hid (wr.ownsRow w.heap.size 2 1 l j ((rowV va n q j).map (Value.int .i64))∧Kept (fun b=>w.heap.size≤b) w2 wr)) (fun l p _=>k - (intOf p - q).toNat)
 case atStart=>exact ⟨0,by omega,by simp,Lib.hid ⟨World.ownsRow_nil _ _ _ _,Kept.refl _ _⟩⟩
 case round =>
  obtain ⟨j,hj,rfl,HR⟩:=hrel
  have hkz : Kept (fun b=>w.heap.size≤b) w wr:=(H2.out.mono fun _ _ z=>z.elim).trans HR.out.2
  have HKZ:=Lib.hid hkz
  clear hkz
  obtain ⟨oA,oc,rfl⟩:=own_slice HR.out.1
  by_cases hlt : j < k
  ·have hMr : MulAt wr M R Rs C Sn n st va cur seen:=HH.out.2.1.turned (HH.out.2.1.ring.kept HKZ.out (fun z=>by have:=HH.out.2.1.ring.rlt; omega) (fun z=>by have:=HH.out.2.1.ring.glt; omega)) HKZ.out (fun z=>by have:=HH.out.2.1.mul.lt; omega) (fun z=>by have:=HH.out.2.1.cw.lt; omega) (fun z=>by have:=HH.out.2.1.sw.lt; omega)
   have hRr : Blk wr r 40 _:=Blk.kept HH.out.1 HKZ.out (fun z=>by have:=Blk.lt HH.out.1; omega)
   have c0 : wr.cell? ⟨r,0,none⟩ = some (.pointer (some ⟨M,0,none⟩)):=hRr.cell 0
   have HMr:=Lib.hid hMr
   clear hMr hRr
   go_wp2_with (go_at_call 30; refine (multi_ring HMr.out).mono ?_; rintro e w' ⟨rfl,rfl⟩)
   refine (get_ok Stepper.none slots_step_none 0 R Rs n st va (q + j) wr HMr.out.ring (by omega) (by omega) (HS.out.2 j hlt) trivial id id).mono ?_
   rintro e w3 ⟨rfl,k3,s3,-⟩
   have HG:=Lib.hid (rowV_succ va n q j)
   generalize va ((q + j) % n).toNat = x at HG
   have HO:=Lib.hid (own_kept HR.out.1 k3 (fun _ _ z=>z))
   have HK3:=Lib.hid (HR.out.2.trans (k3.mono fun _ _ z=>z.elim))
   have hsz : w.heap.size≤w3.heap.size:=Nat.le_trans HKZ.out.size k3.size
   clear k3 s3 c0
   go_wp2_with (at_builtin; refine wpList_append_own _ rfl _ _ 35 rfl w.heap.size 2 t0 (.int .i64 0) 1 8 Try.underlying35 hi0 hz0 hz1 hz2 rfl (by decide) _ _ _ rfl (HO.out.alloc _) ⟨w3.heap.size,0,none⟩ 1 1 [.int .i64 x] rfl rfl ?c1 ?c2 ?c3 ?c4 ?c5 ?_)
   case c1=>exact cell_new1 _ _ _
   case c2=>simp [Value.oneCell']
   case c3=>unfold maxLen; omega
   case c4=>omega
   case c5=>simp; omega
   intro v' w4 hown1 hg1 _
   have ho1 : w4.ownsRow w.heap.size 2 1 v' (j + 1) ((rowV va n q (j + 1)).map (Value.int .i64)):=by
    rw [HG.out,List.map_append]
    exact hown1
   have hk4 : Kept (fun b=>w.heap.size≤b) w3 w4:=(Kept.alloc _ _).trans (Kept.grown hg1 (fun b hb=>(HO.out.lt b hb).1))
   have HO2:=Lib.hid (And.intro ho1 (HK3.out.trans hk4))
   clear hown1 hg1 ho1 hk4
   obtain ⟨oA',oc',rfl⟩:=own_slice HO2.out.1
   go_wp2
   go_roundw
   case rel=>exact ⟨j + 1,by omega,by go_num,HO2⟩
   case measure=>simp [intOf]; omega
  ·have hjk : j = k:=by omega
   subst hjk
   have HRr:=Lib.hid (show RdAt wr r M G i true q from Blk.kept HH.out.1 HKZ.out (fun z=>by have:=Blk.lt HH.out.1; omega))
   go_wp2_with fail
   rename_i K0 hK0
   refine strictL ?_
   refine wp_region_held (S:=Kept (fun b=>b = G) wr) (by kernel_rfl) ?_
   simp only [List.size_toArray,List.length_cons,List.length_nil,Nat.reduceAdd]
   have HW1 : Hid (Kept (fun b=>b = G) wr { wr with drawn:=wr.drawn + 1 }):=Lib.hid (Kept.drew wr)
   iterate 10
    first
    | refine rdL 0 10 84 ?_
    | refine rdL 1 9 85 ?_
    | refine rdL 2 8 86 ?_
    | refine rdL 3 7 87 ?_
    | refine rdL 4 6 88 ?_
    | refine rdL 5 5 89 ?_
    | refine rdL 6 4 90 ?_
    | refine rdL 7 3 91 ?_
    | refine rdL 8 2 92 ?_
    | refine rdL 9 1 93 ?_
    refine ⟨_,rfl,rfl,by kernel_rfl,by kernel_rfl,by kernel_rfl,(fun c a w h=>by cases h.1),rfl,HW1.out,?_⟩
    apply Exists.intro
    refine ⟨fun wq hw=>?_,?_⟩
    ·have hb : Blk wq r 40 _:=Blk.kept HRr.out hw HD.out.1
     have c1 : wq.cell? ⟨r,1,none⟩ = some (.pointer (some ⟨G,0,none⟩)):=hb.cell 1
     have c2 : wq.cell? ⟨r,2,none⟩ = some (.int .i64 i):=hb.cell 2
     clear hb
     go_simp
     rfl
    simp only [Act.put,List.setIfInBounds_toArray,List.set_cons_zero,List.set_cons_succ]
   have hkd : Kept (fun _=>False) wr { wr with drawn:=wr.drawn + 1 }:=Kept.drew wr
   clear HW1
   generalize ({ wr with drawn:=wr.drawn + 1 } : World) = wd at hkd ⊢
   have HY:=Lib.hid hkd
   clear hkd
   have HGd:=Lib.hid ((HH.out.2.2.kept HKZ.out (fun z=>by have:=HH.out.2.2.lt; omega)).kept HY.out id)
   refine oneL (i:=10) (fuel:=0) (by kernel_rfl) rfl rfl fun K' hK'=>?_
   unfold Oper.wp
   go_simp
   refine (gate_set G i _ _ (q + j - 1) wd HGd.out hi).mono ?_
   rintro e w5 ⟨rfl,hw5⟩
   dsimp only
   have k5 : Kept (fun b=>b = G) wd w5:=hw5 ▸ Kept.setCell (S:=fun b=>b = G) wd (p:=⟨G,1 + i,none⟩) (by rfl) _
   have g5 : GateAt w5 G gp (upd f i (q + j - 1)):=hw5 ▸ HGd.out.setNum hi (q + j - 1)
   have H5:=Lib.hid (And.intro ((HY.out.mono fun _ _ z=>z.elim).trans k5) g5)
   clear k5 g5 hw5
   refine hK' _ _ H5.out.1 ?_
   clear hK' K'
   refine wpAnyH_done (by kernel_rfl) ⟨rfl,?_⟩ _
   refine hK0 _ _ ?_
   clear hK0 K0
   have r5 : Blk w5 r 40 _:=Blk.kept HRr.out H5.out.1 HD.out.1
   have c4 : w5.cell? ⟨r,4,none⟩ = some (.int .i64 q):=r5.cell 4
   have z4 : w5.frozen? ⟨r,4,none⟩ = false:=r5.frozen 4
   have r6:=r5.set_ 4 (.int .i64 (q + j))
   have k6 : Kept (fun b=>b = r) w5 (w5.setCell ⟨r,4,none⟩ (.int .i64 (q + j))):=Kept.setCell (S:=fun b=>b = r) w5 (p:=⟨r,4,none⟩) rfl _
   have H6:=Lib.hid (And.intro r6 k6)
   have H4:=Lib.hid c4
   have hw6 : wrap64 (q + j - 1 + 1) = q + j:=by rw [show q + (j : Int) - 1 + 1 = q + j from by omega]; exact IntWalk.wrap64_in _ (by omega)
   clear r5 r6 k6
   go_wp2
   go_ret2
   obtain ⟨r6,k6⟩:=H6.out
   have hrlt:=Blk.lt HH.out.1
   have hGlt:=HH.out.2.2.lt
   have kall : Kept (fun b=>b = G∨b = r) w (w5.setCell ⟨r,4,none⟩ (.int .i64 (q + j))):=((HKZ.out.mono (S':=fun b=>b = G∨b = r∨w.heap.size≤b) fun _ _ z=>.inr (.inr z)).trans ((H5.out.1.mono fun _ _ z=>.inl z).trans (k6.mono fun _ _ z=>.inr (.inl z)))).mono fun x hx z=>by
    rcases z with z | z | z
    ·exact .inl z
    ·exact .inr z
    ·omega
   exact ⟨_,rfl,kall,own_kept (own_kept HR.out.1 H5.out.1 (fun b hb z=>by have z : b = G:=z; omega)) k6 (fun b hb z=>by have z : b = r:=z; omega),r6,H5.out.2.kept k6 (fun z=>HD.out.1 z.symm)⟩
end Go.Proofs.Ytlhbonnminlnlaa
namespace Go.Proofs.Ytlhbonnminlnlaa
open Go.RowKit Go.Turn Go.Tame Go.Conc
structure MulS where
 st : Nat→Int
 va : Nat→Int
 cur : Int
 seen : Int
structure MulX (I : MIds) (S : MulS) (O : Nat→Prop) (w : World) : Prop where
 mul : Blk w I.mb 73 #[.pointer (some ⟨I.rb,0,none⟩),.int .i64 I.first,.pointer (some ⟨I.cb,0,none⟩),.pointer (some ⟨I.eb,0,none⟩)]
 ring : RingAt w I.rb I.gb I.n S.st S.va
 cw : Blk w I.cb 121 #[.int .i64 S.cur]
 sw : Blk w I.eb 121 #[.int .i64 S.seen]
 d1 : I.gb≠I.mb∧I.gb≠I.cb∧I.gb≠I.eb
 d2 : I.cb≠I.mb∧I.cb≠I.eb∧I.cb≠I.rb
 d3 : I.eb≠I.mb∧I.eb≠I.rb
 own : ∀ b,O b→b≠I.mb∧b≠I.rb∧b≠I.gb∧b≠I.cb∧b≠I.eb
 f0 : 0≤I.first
 f1 : I.first < 4611686018427387904
 c0 : -1≤S.cur
 c1 : S.cur < 4611686018427387904
section
variable {I : MIds} {S : MulS} {O : Nat→Prop} {w w' : World}
theorem MulX.kept {Z : Nat→Prop} (h : MulX I S O w) (k : Kept Z w w') (h1 : ¬ Z I.mb) (h2 : ¬ Z I.rb) (h3 : ¬ Z I.gb) (h4 : ¬ Z I.cb) (h5 : ¬ Z I.eb) : MulX I S O w':=
 ⟨h.mul.kept k h1,h.ring.kept k h2 h3,h.cw.kept k h4,h.sw.kept k h5,h.d1,h.d2,h.d3,h.own,h.f0,h.f1,h.c0,h.c1⟩
theorem MulX.step (h : MulX I S O w) (k : Kept O w w') : MulX I S O w':=
 h.kept k (fun z=>(h.own _ z).1 rfl) (fun z=>(h.own _ z).2.1 rfl) (fun z=>(h.own _ z).2.2.1 rfl) (fun z=>(h.own _ z).2.2.2.1 rfl) (fun z=>(h.own _ z).2.2.2.2 rfl)
theorem MulX.keep {Z : Nat→Prop} (h : MulX I S O w) (k : Kept Z w w') (hz : ∀ b,b < w.heap.size→¬ Z b) : MulX I S O w':=
 h.kept k (hz _ h.mul.lt) (hz _ h.ring.rlt) (hz _ h.ring.glt) (hz _ h.cw.lt) (hz _ h.sw.lt)
end
set_option maxRecDepth 100000 in
theorem wload_x (X : Stepper) (hs : X.Steps Try.prog 75) (t b : Nat) (v : Int) (w : World) (h : Blk w b 121 #[.int .i64 v]) (hb : ¬ X.own b) (A : X.at_ t w) :
  Calls Try.prog 47 #[.pointer (some ⟨b,0,none⟩),X.v] w fun e w'=>e = .returned (.int .i64 v)∧Kept X.own w w'∧w'.heap.size = w.heap.size∧X.at_ (t + 1) w':=by
 have HH:=Lib.hid (And.intro h hb)
 clear h hb
 go_enter Try.func47,Try.ntmps47
 go_wp2_with (go_at_call 75; refine (hs t w A).mono ?_; rintro e w1 ⟨rfl,a1,k1,z1⟩)
 have c1:=(HH.out.1.kept k1 HH.out.2).cell 0
 simp only [List.getElem?_toArray,List.getElem?_cons_zero] at c1
 have H1:=Lib.hid (And.intro k1 (And.intro z1 a1))
 clear k1 z1 a1
 go_wp2_with (go_at_call 52; refine (atomic_load _ _ _ c1).mono ?_; rintro e w' ⟨rfl,hw'⟩; subst hw')
 go_ret
 exact ⟨rfl,H1.out⟩
set_option maxRecDepth 100000 in
theorem wstore_x (X : Stepper) (hs : X.Steps Try.prog 75) (t b : Nat) (v u : Int) (w : World) (h : Blk w b 121 #[.int .i64 u]) (hb : ¬ X.own b) (A : X.at_ t w) :
  Calls Try.prog 86 #[.pointer (some ⟨b,0,none⟩),X.v,.int .i64 v] w fun e w'=>e = .returned (.tuple #[])∧Blk w' b 121 #[.int .i64 v]∧Kept (fun c=>c = b∨X.own c) w w'∧w'.heap.size = w.heap.size∧X.at_ (t + 1) w':=by
 have HH:=Lib.hid (And.intro h hb)
 clear h hb
 go_enter Try.func86,Try.ntmps86
 go_wp2_with (go_at_call 75; refine (hs t w A).mono ?_; rintro e w1 ⟨rfl,a1,k1,z1⟩)
 have hb1:=HH.out.1.kept k1 HH.out.2
 have c1:=hb1.cell 0
 have y1:=hb1.frozen 0
 simp only [List.getElem?_toArray,List.getElem?_cons_zero] at c1
 have H1:=Lib.hid (And.intro k1 (And.intro z1 (And.intro a1 hb1)))
 clear k1 z1 a1 hb1
 go_wp2_with (go_at_call 27; refine (atomic_store _ v u _ c1 y1).mono ?_; rintro e w' ⟨rfl,rfl⟩)
 go_end0
 obtain ⟨k1,z1,a1,hb1⟩:=H1.out
 have ks:=Kept.setCell (S:=fun c=>c = b) w1 (p:=⟨b,0,none⟩) rfl (.int .i64 v)
 refine ⟨rfl,hb1.set_ 0 _,(k1.mono fun _ _ z=>.inr z).trans (ks.mono fun _ _ z=>.inl z),by simpa [World.setCell] using z1,X.keep a1 ks fun c hc e=>HH.out.2 (e ▸ hc)⟩
set_option maxRecDepth 100000 in
theorem wcas_x (X : Stepper) (hs : X.Steps Try.prog 75) (t b : Nat) (v u : Int) (w : World) (h : Blk w b 121 #[.int .i64 u]) (hb : ¬ X.own b) (A : X.at_ t w) :
  Calls Try.prog 73 #[.pointer (some ⟨b,0,none⟩),X.v,.int .i64 u,.int .i64 v] w fun e w'=>e = .returned (.bool true)∧Blk w' b 121 #[.int .i64 v]∧Kept (fun c=>c = b∨X.own c) w w'∧w'.heap.size = w.heap.size∧X.at_ (t + 1) w':=by
 have HH:=Lib.hid (And.intro h hb)
 clear h hb
 go_enter Try.func73,Try.ntmps73
 go_wp2_with (go_at_call 75; refine (hs t w A).mono ?_; rintro e w1 ⟨rfl,a1,k1,z1⟩)
 have hb1:=HH.out.1.kept k1 HH.out.2
 have c1:=hb1.cell 0
 have y1:=hb1.frozen 0
 simp only [List.getElem?_toArray,List.getElem?_cons_zero] at c1
 have H1:=Lib.hid (And.intro k1 (And.intro z1 (And.intro a1 hb1)))
 clear k1 z1 a1 hb1
 go_wp2_with (go_at_call 87; refine (atomic_cas _ u v u _ c1 y1).mono ?_; rintro e w' ⟨rfl,hw'⟩; rw [show (u == u) = true by simp] at hw' ⊢; rw [if_pos rfl] at hw'; subst hw')
 go_ret
 obtain ⟨k1,z1,a1,hb1⟩:=H1.out
 have ks:=Kept.setCell (S:=fun c=>c = b) w1 (p:=⟨b,0,none⟩) rfl (.int .i64 v)
 refine ⟨rfl,hb1.set_ 0 _,(k1.mono fun _ _ z=>.inr z).trans (ks.mono fun _ _ z=>.inl z),by simpa [World.setCell] using z1,X.keep a1 ks fun c hc e=>HH.out.2 (e ▸ hc)⟩
abbrev FrX : Type:=MulS→Int→Int→Bool × Int × Nat
def wrX (st : Nat→Int) (n : Nat) (fs : Int) : Nat→Int→Bool × Nat
 | 0,_=>(true,0)
 | m + 1,q=>if fs≤q then (if st (q % n).toNat = 2 * (q / n) then ((wrX st n fs m (q + 1)).1,(wrX st n fs m (q + 1)).2 + 1) else (false,1)) else wrX st n fs m (q + 1)
set_option maxHeartbeats 2000000 in
set_option maxRecDepth 100000 in
theorem written_x (X : Stepper) (hs2 : X.Steps Try.prog 51) (I : MIds) (t : Nat) (S : MulS) (w : World) (h : MulX I S X.own w) (A : X.at_ t w) (m : Nat) (hm : m≤I.n) (hcn : S.cur + m < 4611686018427387904) :
  Calls Try.prog 72 #[.pointer (some ⟨I.mb,0,none⟩),X.v,.int .i64 S.cur,.int .i64 m] w fun e w'=>e = .returned (.bool (wrX S.st I.n I.first m (S.cur + 1 - I.n)).1)∧Kept X.own w w'∧w'.heap.size = w.heap.size∧X.at_ (t + (wrX S.st I.n I.first m (S.cur + 1 - I.n)).2) w':=by
 have hp:=h.ring.pos
 have hmo:=h.ring.most
 have hc0:=h.c0
 have hf0:=h.f0
 have hf1:=h.f1
 have b0 : w.cell? ⟨I.mb,0,none⟩ = some (.pointer (some ⟨I.rb,0,none⟩)):=h.mul.cell 0
 have r0:=h.ring.ring
 obtain ⟨st,va,c,g⟩:=S
 dsimp only at hc0 hcn ⊢
 have HH:=Lib.hid h
 have HA:=Lib.hid A
 clear h A
 go_enter Try.func72,Try.ntmps72
 go_wp2_with (go_at_call 28; refine (multi_sizeM _ _ _ _ _ _ b0 r0).mono ?_; rintro e w' ⟨rfl,hw'⟩; subst hw')
 clear b0 r0
 obtain ⟨q0,hq0⟩ : ∃ q0,q0 = c + 1 - (I.n : Int):=⟨_,rfl⟩
 rw [← hq0]
 have HQ:=Lib.hid hq0
 clear hq0
 go_loopw [9] (fun q wr=>∃ j : Nat,j≤m∧q = .int .i64 (q0 + j)∧Kept X.own w wr∧wr.heap.size = w.heap.size∧∃ k,X.at_ (t + k) wr∧(wrX st I.n I.first m q0).1 = (wrX st I.n I.first (m - j) (q0 + j)).1∧(wrX st I.n I.first m q0).2 = k + (wrX st I.n I.first (m - j) (q0 + j)).2) (fun q _=>(c + m + 1 - intOf q).toNat)
 case atStart=>exact ⟨0,Nat.zero_le _,by simp,Kept.refl _ _,rfl,0,HA.out,by simp,by simp⟩
 case round =>
  obtain ⟨j,hj,rfl,hk,hz,k,ha,e1,e2⟩:=hrel
  obtain ⟨q,hq⟩ : ∃ q,q = q0 + (j : Int):=⟨_,rfl⟩
  rw [← hq]
  have HE:=Lib.hid (And.intro hk (And.intro hz (And.intro ha (And.intro e1 e2))))
  have hqb : -65536≤q∧q < 4611686018427387904:=by have:=HQ.out; omega
  have hqr : q = c + 1 - I.n + j:=by have:=HQ.out; omega
  have HJ:=Lib.hid (And.intro hq hqr)
  have H1:=Lib.hid (HH.out.step hk)
  have b0 : wr.cell? ⟨I.mb,0,none⟩ = some (.pointer (some ⟨I.rb,0,none⟩)):=H1.out.mul.cell 0
  have b1 : wr.cell? ⟨I.mb,1,none⟩ = some (.int .i64 I.first):=H1.out.mul.cell 1
  have r0:=H1.out.ring.ring
  by_cases hlt : j < m
  ·have d1 : decide (q≤c + (m : Int) - I.n) = true:=decide_eq_true (by omega)
   have hqm : q≤c + m:=by omega
   have hNX:=Lib.hid (show m - j = (m - (j + 1)) + 1 by omega)
   clear hk hz ha e1 e2 hq hqr
   by_cases hf : I.first≤q
   ·have d2 : decide (I.first≤q) = true:=decide_eq_true hf
    go_wp2_with (go_at_call 28; refine (multi_sizeM _ _ _ _ _ _ b0 r0).mono ?_; rintro e w' ⟨rfl,hw'⟩; subst hw')
    refine (there_x X hs2 (t + k) I.rb I.gb I.n st va q _ H1.out.ring (by omega) hqb.2 HE.out.2.2.1 (fun z=>(H1.out.own _ z).2.1 rfl) (fun z=>(H1.out.own _ z).2.2.1 rfl)).mono ?_
    rintro e w2 ⟨rfl,k2,z2,a2⟩
    by_cases hst : st (q % I.n).toNat = 2 * (q / I.n)
    ·rw [show (st (q % (I.n : Int)).toNat == 2 * (q / I.n)) = true by simpa using hst]
     have H2:=Lib.hid (And.intro k2 (And.intro z2 (And.intro a2 hst)))
     clear k2 z2 a2 hst b0 b1 r0 d2
     go_wp2
     go_roundw
     case rel =>
      obtain ⟨hk,hz,ha,e1,e2⟩:=HE.out
      obtain ⟨k2,z2,a2,hst⟩:=H2.out
      have hq:=HJ.out.1
      have e3 : wrX st I.n I.first (m - j) (q0 + j) = ((wrX st I.n I.first (m - (j + 1)) (q + 1)).1,(wrX st I.n I.first (m - (j + 1)) (q + 1)).2 + 1):=by
       rw [hNX.out,← hq]
       show (if I.first≤q then (if st (q % I.n).toNat = 2 * (q / I.n) then _ else _) else _) = _
       rw [if_pos hf,if_pos hst]
      have e4 : q0 + ((j + 1 : Nat) : Int) = q + 1:=by omega
      refine ⟨j + 1,hlt,by rw [e4],hk.trans k2,z2.trans hz,k + 1,a2,?_,?_⟩
      ·rw [e4,e1,e3]
      ·rw [e4,e2,e3]; show _ + (_ + 1) = _; omega
     case measure=>simp [intOf]; omega
    ·rw [show (st (q % (I.n : Int)).toNat == 2 * (q / I.n)) = false by simpa using hst]
     have H2:=Lib.hid (And.intro k2 (And.intro z2 (And.intro a2 hst)))
     clear k2 z2 a2 hst b0 b1 r0 d2
     go_wp2
     go_ret
     obtain ⟨hk,hz,ha,e1,e2⟩:=HE.out
     obtain ⟨k2,z2,a2,hst⟩:=H2.out
     have e3 : wrX st I.n I.first (m - j) (q0 + j) = (false,1):=by
      rw [hNX.out,← HJ.out.1]
      show (if I.first≤q then (if st (q % I.n).toNat = 2 * (q / I.n) then _ else _) else _) = _
      rw [if_pos hf,if_neg hst]
     rw [← HQ.out,e1,e2,e3]
     exact ⟨rfl,hk.trans k2,z2.trans hz,a2⟩
   ·have d2 : decide (I.first≤q) = false:=decide_eq_false hf
    go_wp2_with (go_at_call 28; refine (multi_sizeM _ _ _ _ _ _ b0 r0).mono ?_; rintro e w' ⟨rfl,hw'⟩; subst hw')
    clear b0 r0 b1
    go_roundw
    case rel =>
     obtain ⟨hk,hz,ha,e1,e2⟩:=HE.out
     have hq:=HJ.out.1
     have e3 : wrX st I.n I.first (m - j) (q0 + j) = wrX st I.n I.first (m - (j + 1)) (q + 1):=by
      rw [hNX.out,← hq]
      show (if I.first≤q then (if st (q % I.n).toNat = 2 * (q / I.n) then _ else _) else _) = _
      rw [if_neg (by omega)]
     have e4 : q0 + ((j + 1 : Nat) : Int) = q + 1:=by omega
     exact ⟨j + 1,hlt,by rw [e4],hk,hz,k,ha,by rw [e4,e1,e3],by rw [e4,e2,e3]⟩
    case measure=>simp [intOf]; omega
  ·obtain rfl : j = m:=by omega
   have d1 : decide (q≤c + (j : Int) - I.n) = false:=decide_eq_false (by omega)
   clear hk hz ha e1 e2 hq hqr
   go_wp2_with (go_at_call 28; refine (multi_sizeM _ _ _ _ _ _ b0 r0).mono ?_; rintro e w' ⟨rfl,hw'⟩; subst hw')
   go_ret
   obtain ⟨hk,hz,ha,e1,e2⟩:=HE.out
   rw [Nat.sub_self] at e1 e2
   rw [← HQ.out,e1,e2]
   exact ⟨rfl,hk,hz,ha⟩
def claimX (fr : FrX) (N : Nat) (fs : Int) (S : MulS) (m : Int) : Int × Int × MulS × Nat:=
 if m < 1∨(N : Int) < m then (0,1,S,0)
 else if 4611686018427387904≤S.cur + m then (0,8,S,1)
 else if (fr S S.cur m).1 = false then (0,3,{ S with seen:=(fr S S.cur m).2.1 },1 + (fr S S.cur m).2.2)
 else if (wrX S.st N fs m.toNat (S.cur + 1 - N)).1 = false then (0,3,{ S with seen:=(fr S S.cur m).2.1 },1 + (fr S S.cur m).2.2 + (wrX S.st N fs m.toNat (S.cur + 1 - N)).2 + 1)
 else (S.cur + m,0,{ S with seen:=(fr S S.cur m).2.1,cur:=S.cur + m },1 + (fr S S.cur m).2.2 + (wrX S.st N fs m.toNat (S.cur + 1 - N)).2 + 1)
theorem MulX.setCur {X : Stepper} {I : MIds} {S : MulS} {w w' : World} (h : MulX I S X.own w) {c : Int} (s2 : Blk w' I.cb 121 #[.int .i64 c]) (k2 : Kept (fun b=>b = I.cb∨X.own b) w w') (h0 : -1≤c) (h1 : c < 4611686018427387904) : MulX I { S with cur:=c } X.own w':=by
 have no : ∀ b,b≠I.cb→¬ X.own b→¬ (b = I.cb∨X.own b):=fun b h1 h2 z=>z.elim h1 h2
 have o:=h.own
 exact ⟨h.mul.kept k2 (no _ h.d2.1.symm fun z=>(o _ z).1 rfl),h.ring.kept k2 (no _ h.d2.2.2.symm fun z=>(o _ z).2.1 rfl) (no _ h.d1.2.1 fun z=>(o _ z).2.2.1 rfl),s2,h.sw.kept k2 (no _ h.d2.2.1.symm fun z=>(o _ z).2.2.2.2 rfl),h.d1,h.d2,h.d3,o,h.f0,h.f1,h0,h1⟩
def OutM (I : MIds) (O : Nat→Prop) (b : Nat) : Prop:=b = I.cb∨b = I.eb∨b = I.gb∨O b
def putS (S : MulS) (n : Nat) (q v : Int) : MulS:={ S with st:=upd S.st (q % n).toNat (2 * (q / n)),va:=upd S.va (q % n).toNat v }
def putsS (n : Nat) : MulS→Int→List Int→MulS
 | S,_,[]=>S
 | S,q,v :: vs=>putsS n (putS S n q v) (q + 1) vs
theorem MulX.put {X : Stepper} {I : MIds} {S : MulS} {w w' : World} (h : MulX I S X.own w) {q v : Int} (r : RingAt w' I.rb I.gb I.n (upd S.st (q % I.n).toNat (2 * (q / I.n))) (upd S.va (q % I.n).toNat v)) (k2 : Kept (fun b=>b = I.gb∨X.own b) w w') : MulX I (putS S I.n q v) X.own w':=by
 have no : ∀ b,b≠I.gb→¬ X.own b→¬ (b = I.gb∨X.own b):=fun b h1 h2 z=>z.elim h1 h2
 have o:=h.own
 exact ⟨h.mul.kept k2 (no _ h.d1.1.symm fun z=>(o _ z).1 rfl),r,h.cw.kept k2 (no _ h.d1.2.1.symm fun z=>(o _ z).2.2.2.1 rfl),h.sw.kept k2 (no _ h.d1.2.2.symm fun z=>(o _ z).2.2.2.2 rfl),h.d1,h.d2,h.d3,o,h.f0,h.f1,h.c0,h.c1⟩
set_option maxRecDepth 100000 in
theorem write_x (X : Stepper) (hs2 : X.Steps Try.prog 51) (I : MIds) (t : Nat) (S : MulS) (w : World) (h : MulX I S X.own w) (A : X.at_ t w) (q v : Int) (h0 : 0≤q) (h1 : q < 4611686018427387904) :
  Calls Try.prog 43 #[.pointer (some ⟨I.mb,0,none⟩),X.v,.int .i64 q,.int .i64 v] w fun e w'=>e = .returned (.int .i64 0)∧MulX I (putS S I.n q v) X.own w'∧Kept (fun b=>b = I.gb∨X.own b) w w'∧w'.heap.size = w.heap.size∧X.at_ (t + 3) w':=by
 have b0 : w.cell? ⟨I.mb,0,none⟩ = some (.pointer (some ⟨I.rb,0,none⟩)):=h.mul.cell 0
 have HH:=Lib.hid h
 have HA:=Lib.hid A
 clear h A
 go_enter Try.func43,Try.ntmps43
 go_wp2_with (go_at_call 45; refine (multi_noM _ _ _ b0).mono ?_; rintro e w' ⟨rfl,hw'⟩; subst hw')
 refine (put_x X hs2 t I.rb I.gb I.n S.st S.va q v _ HH.out.ring h0 h1 HA.out (fun z=>(HH.out.own _ z).2.1 rfl) (fun z=>(HH.out.own _ z).2.2.1 rfl)).mono ?_
 rintro e w1 ⟨rfl,r1,k1,z1,a1⟩
 have H1:=Lib.hid (And.intro r1 (And.intro k1 (And.intro z1 a1)))
 clear r1 k1 z1 a1
 go_wp2
 go_ret
 exact ⟨rfl,HH.out.put H1.out.1 H1.out.2.1,H1.out.2.1,H1.out.2.2.1,H1.out.2.2.2⟩
def offerX (fr : FrX) (N : Nat) (fs : Int) (S : MulS) (vs : List Int) : Int × Int × MulS × Nat:=
 if (claimX fr N fs S vs.length).2.1 = 0 then ((claimX fr N fs S vs.length).1,0,putsS N (claimX fr N fs S vs.length).2.2.1 ((claimX fr N fs S vs.length).1 - vs.length + 1) vs,(claimX fr N fs S vs.length).2.2.2 + 3 * vs.length)
 else (0,(claimX fr N fs S vs.length).2.1,(claimX fr N fs S vs.length).2.2)
theorem claimX_ok {fr : FrX} {N : Nat} {fs : Int} {S : MulS} {m : Int} (h : (claimX fr N fs S m).2.1 = 0) : 1≤m∧m≤N∧S.cur + m < 4611686018427387904∧(claimX fr N fs S m).1 = S.cur + m:=by
 unfold claimX at h ⊢
 by_cases h1 : m < 1∨(N : Int) < m
 ·rw [if_pos h1] at h; exact absurd h (show ¬ ((1 : Int) = 0) by decide)
 rw [if_neg h1] at h ⊢
 by_cases h2 : 4611686018427387904≤S.cur + m
 ·rw [if_pos h2] at h; exact absurd h (show ¬ ((8 : Int) = 0) by decide)
 rw [if_neg h2] at h ⊢
 by_cases h3 : (fr S S.cur m).1 = false
 ·rw [if_pos h3] at h; exact absurd h (show ¬ ((3 : Int) = 0) by decide)
 rw [if_neg h3] at h ⊢
 by_cases h4 : (wrX S.st N fs m.toNat (S.cur + 1 - N)).1 = false
 ·rw [if_pos h4] at h; exact absurd h (show ¬ ((3 : Int) = 0) by decide)
 rw [if_neg h4]
 exact ⟨by omega,by omega,by omega,rfl⟩
structure RdX (I : MIds) (O : Nat→Prop) (w : World) (A : Option Addr) (vs : List Int) : Prop where
 cell : ∀ i,i < vs.length→∃ b o,A = some ⟨b,o,none⟩∧¬ OutM I O b∧w.cell? ⟨b,o + i,none⟩ = some (.int .i64 (vs.getD i 0))
theorem RdX.kept {I : MIds} {O : Nat→Prop} {w w' : World} {A : Option Addr} {vs : List Int} (h : RdX I O w A vs) (k : Kept (OutM I O) w w') : RdX I O w' A vs:=
 ⟨fun i hi=>by
   obtain ⟨b,o,h1,h2,h3⟩:=h.cell i hi
   exact ⟨b,o,h1,h2,(World.cell?_of_block (w:=w) (a:=⟨b,o + i,none⟩) (k.block b (lt_of_cell h3) h2)).trans h3⟩⟩
structure FreeG (X : Stepper) (I : MIds) (hval : Value) (fr : FrX) : Prop where
 law : ∀ (t : Nat) (S : MulS) (w : World),MulX I S X.own w→X.at_ t w→∀ n : Int,1≤n→n≤I.n→S.cur + n < 4611686018427387904 →
  Calls Try.prog 71 #[.pointer (some ⟨I.mb,0,none⟩),X.v,hval,.int .i64 S.cur,.int .i64 n] w fun e w'=>e = .returned (.bool (fr S S.cur n).1)∧MulX I { S with seen:=(fr S S.cur n).2.1 } X.own w'∧Kept (fun b=>b = I.eb∨X.own b) w w'∧X.at_ (t + (fr S S.cur n).2.2) w'
set_option maxHeartbeats 2000000 in
set_option maxRecDepth 100000 in
theorem claim_g (X : Stepper) (hs : X.Steps Try.prog 75) (hs2 : X.Steps Try.prog 51) (I : MIds) {hval : Value} {fr : FrX} (hF : FreeG X I hval fr) (t : Nat) (S : MulS) (w : World) (h : MulX I S X.own w) (A : X.at_ t w) (n : Int) :
  Calls Try.prog 42 #[.pointer (some ⟨I.mb,0,none⟩),X.v,hval,.int .i64 n] w fun e w'=>e = .returned (.tuple #[.int .i64 (claimX fr I.n I.first S n).1,.int .i64 (claimX fr I.n I.first S n).2.1])∧MulX I (claimX fr I.n I.first S n).2.2.1 X.own w'∧Kept (OutM I X.own) w w'∧X.at_ (t + (claimX fr I.n I.first S n).2.2.2) w':=by
 have hp:=h.ring.pos
 have hmo:=h.ring.most
 have hc0:=h.c0
 have hc1:=h.c1
 have b0 : w.cell? ⟨I.mb,0,none⟩ = some (.pointer (some ⟨I.rb,0,none⟩)):=h.mul.cell 0
 have r0:=h.ring.ring
 have HH:=Lib.hid h
 have HA:=Lib.hid A
 clear h A
 unfold claimX
 by_cases h1 : n < 1
 ·rw [if_pos (.inl h1)]
  have d1 : decide (n < 1) = true:=decide_eq_true h1
  go_enter Try.func42,Try.ntmps42
  go_wp2_with (go_at_call 28; refine (multi_sizeM _ _ _ _ _ _ b0 r0).mono ?_; rintro e w' ⟨rfl,hw'⟩; subst hw')
  go_ret2
  exact ⟨rfl,HH.out,Kept.refl _ _,HA.out⟩
 have d1 : decide (n < 1) = false:=decide_eq_false h1
 by_cases h2 : (I.n : Int) < n
 ·rw [if_pos (.inr h2)]
  have d2 : decide ((I.n : Int) < n) = true:=decide_eq_true h2
  go_enter Try.func42,Try.ntmps42
  go_wp2_with (go_at_call 28; refine (multi_sizeM _ _ _ _ _ _ b0 r0).mono ?_; rintro e w' ⟨rfl,hw'⟩; subst hw')
  go_ret2
  exact ⟨rfl,HH.out,Kept.refl _ _,HA.out⟩
 have d2 : decide ((I.n : Int) < n) = false:=decide_eq_false h2
 rw [if_neg (by omega)]
 obtain ⟨m,rfl⟩ : ∃ m : Nat,n = m:=⟨n.toNat,by omega⟩
 have hm1 : 1≤m:=by omega
 have hm2 : m≤I.n:=by omega
 clear h1 h2
 rw [Int.toNat_natCast]
 have HFR:=Lib.hid (hF.law)
 by_cases h3 : 4611686018427387904≤S.cur + (m : Int)
 ·rw [if_pos h3]
  have d3 : decide (4611686018427387904≤S.cur + (m : Int)) = true:=decide_eq_true h3
  go_enter Try.func42,Try.ntmps42
  go_wp2_with (go_at_call 28; refine (multi_sizeM _ _ _ _ _ _ b0 r0).mono ?_; rintro e w' ⟨rfl,hw'⟩; subst hw')
  clear b0 r0
  go_loopw [10] (fun _ wr=>wr = w) (fun _ _=>0)
  case atStart=>trivial
  case round =>
   subst hrel
   have b2 : World.cell? _ ⟨I.mb,2,none⟩ = some (.pointer (some ⟨I.cb,0,none⟩)):=HH.out.mul.cell 2
   go_wp2_with fail
   refine (wload_x X hs t I.cb _ _ HH.out.cw (fun z=>(HH.out.own _ z).2.2.2.1 rfl) HA.out).mono ?_
   rintro e w1 ⟨rfl,k1,z1,a1⟩
   have H1:=Lib.hid (And.intro k1 (And.intro z1 a1))
   clear k1 z1 a1 b2
   go_wp2
   go_ret2
   exact ⟨rfl,HH.out.step H1.out.1,H1.out.1.mono fun _ _ z=>.inr (.inr (.inr z)),H1.out.2.2⟩
 rw [if_neg h3]
 have d3 : decide (4611686018427387904≤S.cur + (m : Int)) = false:=decide_eq_false h3
 obtain ⟨fb,fs,fk,hfr⟩ : ∃ fb fs fk,fr S S.cur m = (fb,fs,fk):=⟨_,_,_,rfl⟩
 obtain ⟨wb,wk,hwr⟩ : ∃ wb wk,wrX S.st I.n I.first m (S.cur + 1 - I.n) = (wb,wk):=⟨_,_,rfl⟩
 rw [hfr,hwr]
 have HE:=Lib.hid (And.intro hfr hwr)
 clear hfr hwr
 dsimp only
 cases fb with
 | false =>
   rw [if_pos rfl]
   go_enter Try.func42,Try.ntmps42
   go_wp2_with (go_at_call 28; refine (multi_sizeM _ _ _ _ _ _ b0 r0).mono ?_; rintro e w' ⟨rfl,hw'⟩; subst hw')
   clear b0 r0
   go_loopw [10] (fun _ wr=>wr = w) (fun _ _=>0)
   case atStart=>trivial
   case round =>
    subst hrel
    have b2 : World.cell? _ ⟨I.mb,2,none⟩ = some (.pointer (some ⟨I.cb,0,none⟩)):=HH.out.mul.cell 2
    go_wp2_with fail
    refine (wload_x X hs t I.cb _ _ HH.out.cw (fun z=>(HH.out.own _ z).2.2.2.1 rfl) HA.out).mono ?_
    rintro e w1 ⟨rfl,k1,z1,a1⟩
    have H1:=Lib.hid (And.intro (HH.out.step k1) (And.intro k1 (And.intro z1 a1)))
    clear k1 z1 a1 b2
    go_wp2_with fail
    have hfl:=HFR.out (t + 1) S w1 H1.out.1 H1.out.2.2.2 m (by omega) (by omega) (by omega)
    rw [HE.out.1] at hfl
    refine hfl.mono ?_
    clear hfl
    rintro e w2 ⟨rfl,m2,k2,a2⟩
    dsimp only at m2 a2
    have H2:=Lib.hid (And.intro m2 (And.intro k2 a2))
    clear m2 k2 a2
    have kk2 : Kept (OutM I X.own) _ w2:=(H1.out.2.1.mono fun _ _ z=>.inr (.inr (.inr z))).trans (H2.out.2.1.mono fun _ _ z=>z.elim (fun e=>.inr (.inl e)) fun z=>.inr (.inr (.inr z)))
    have HK2:=Lib.hid kk2
    clear kk2
    dsimp only
    go_wp2
    go_ret2
    exact ⟨rfl,H2.out.1,HK2.out,by have:=H2.out.2.2; rwa [Nat.add_assoc] at this⟩
 | true =>
 rw [if_neg (by decide)]
 cases wb with
 | false =>
   rw [if_pos rfl]
   go_enter Try.func42,Try.ntmps42
   go_wp2_with (go_at_call 28; refine (multi_sizeM _ _ _ _ _ _ b0 r0).mono ?_; rintro e w' ⟨rfl,hw'⟩; subst hw')
   clear b0 r0
   go_loopw [10] (fun _ wr=>wr = w) (fun _ _=>0)
   case atStart=>trivial
   case round =>
    subst hrel
    have b2 : World.cell? _ ⟨I.mb,2,none⟩ = some (.pointer (some ⟨I.cb,0,none⟩)):=HH.out.mul.cell 2
    go_wp2_with fail
    refine (wload_x X hs t I.cb _ _ HH.out.cw (fun z=>(HH.out.own _ z).2.2.2.1 rfl) HA.out).mono ?_
    rintro e w1 ⟨rfl,k1,z1,a1⟩
    have H1:=Lib.hid (And.intro (HH.out.step k1) (And.intro k1 (And.intro z1 a1)))
    clear k1 z1 a1 b2
    go_wp2_with fail
    have hfl:=HFR.out (t + 1) S w1 H1.out.1 H1.out.2.2.2 m (by omega) (by omega) (by omega)
    rw [HE.out.1] at hfl
    refine hfl.mono ?_
    clear hfl
    rintro e w2 ⟨rfl,m2,k2,a2⟩
    dsimp only at m2 a2
    have H2:=Lib.hid (And.intro m2 (And.intro k2 a2))
    clear m2 k2 a2
    have kk2 : Kept (OutM I X.own) _ w2:=(H1.out.2.1.mono fun _ _ z=>.inr (.inr (.inr z))).trans (H2.out.2.1.mono fun _ _ z=>z.elim (fun e=>.inr (.inl e)) fun z=>.inr (.inr (.inr z)))
    have HK2:=Lib.hid kk2
    clear kk2
    dsimp only
    go_wp2_with fail
    have hwl:=written_x X hs2 I (t + 1 + fk) { S with seen:=fs } w2 H2.out.1 H2.out.2.2 m hm2 (by show S.cur + _ < _; omega)
    dsimp only at hwl
    rw [HE.out.2] at hwl
    refine hwl.mono ?_
    clear hwl
    rintro e w3 ⟨rfl,k3,z3,a3⟩
    have m3:=H2.out.1.step k3
    have b2 : w3.cell? ⟨I.mb,2,none⟩ = some (.pointer (some ⟨I.cb,0,none⟩)):=m3.mul.cell 2
    have H3:=Lib.hid (And.intro m3 (And.intro k3 (And.intro z3 a3)))
    clear m3 k3 z3 a3
    dsimp only
    go_wp2_with fail
    refine (wload_x X hs _ I.cb S.cur _ H3.out.1.cw (fun z=>(HH.out.own _ z).2.2.2.1 rfl) H3.out.2.2.2).mono ?_
    rintro e w4 ⟨rfl,k4,z4,a4⟩
    have H4:=Lib.hid (And.intro k4 (And.intro z4 a4))
    clear k4 z4 a4 b2
    go_wp2
    go_ret2
    refine ⟨rfl,H3.out.1.step H4.out.1,(HK2.out.trans (H3.out.2.1.mono fun _ _ z=>.inr (.inr (.inr z)))).trans (H4.out.1.mono fun _ _ z=>.inr (.inr (.inr z))),?_⟩
    have:=H4.out.2.2
    rw [show t + (1 + fk + wk + 1) = t + 1 + fk + wk + 1 by omega]
    exact this
 | true =>
   rw [if_neg (by decide)]
   go_enter Try.func42,Try.ntmps42
   go_wp2_with (go_at_call 28; refine (multi_sizeM _ _ _ _ _ _ b0 r0).mono ?_; rintro e w' ⟨rfl,hw'⟩; subst hw')
   clear b0 r0
   go_loopw [10] (fun _ wr=>wr = w) (fun _ _=>0)
   case atStart=>trivial
   case round =>
    subst hrel
    have b2 : World.cell? _ ⟨I.mb,2,none⟩ = some (.pointer (some ⟨I.cb,0,none⟩)):=HH.out.mul.cell 2
    go_wp2_with fail
    refine (wload_x X hs t I.cb _ _ HH.out.cw (fun z=>(HH.out.own _ z).2.2.2.1 rfl) HA.out).mono ?_
    rintro e w1 ⟨rfl,k1,z1,a1⟩
    have H1:=Lib.hid (And.intro (HH.out.step k1) (And.intro k1 (And.intro z1 a1)))
    clear k1 z1 a1 b2
    go_wp2_with fail
    have hfl:=HFR.out (t + 1) S w1 H1.out.1 H1.out.2.2.2 m (by omega) (by omega) (by omega)
    rw [HE.out.1] at hfl
    refine hfl.mono ?_
    clear hfl
    rintro e w2 ⟨rfl,m2,k2,a2⟩
    dsimp only at m2 a2
    have H2:=Lib.hid (And.intro m2 (And.intro k2 a2))
    clear m2 k2 a2
    have kk2 : Kept (OutM I X.own) _ w2:=(H1.out.2.1.mono fun _ _ z=>.inr (.inr (.inr z))).trans (H2.out.2.1.mono fun _ _ z=>z.elim (fun e=>.inr (.inl e)) fun z=>.inr (.inr (.inr z)))
    have HK2:=Lib.hid kk2
    clear kk2
    dsimp only
    go_wp2_with fail
    have hwl:=written_x X hs2 I (t + 1 + fk) { S with seen:=fs } w2 H2.out.1 H2.out.2.2 m hm2 (by show S.cur + _ < _; omega)
    dsimp only at hwl
    rw [HE.out.2] at hwl
    refine hwl.mono ?_
    clear hwl
    rintro e w3 ⟨rfl,k3,z3,a3⟩
    have m3:=H2.out.1.step k3
    have b2 : w3.cell? ⟨I.mb,2,none⟩ = some (.pointer (some ⟨I.cb,0,none⟩)):=m3.mul.cell 2
    have H3:=Lib.hid (And.intro m3 (And.intro k3 (And.intro z3 a3)))
    clear m3 k3 z3 a3
    dsimp only
    go_wp2_with fail
    refine (wcas_x X hs _ I.cb (S.cur + m) S.cur _ H3.out.1.cw (fun z=>(HH.out.own _ z).2.2.2.1 rfl) H3.out.2.2.2).mono ?_
    rintro e w4 ⟨rfl,s4,k4,z4,a4⟩
    have H4:=Lib.hid (And.intro s4 (And.intro k4 (And.intro z4 a4)))
    clear s4 k4 z4 a4 b2
    go_wp2
    go_ret2
    refine ⟨rfl,(H3.out.1.setCur H4.out.1 H4.out.2.1 (by omega) (by omega)),(HK2.out.trans (H3.out.2.1.mono fun _ _ z=>.inr (.inr (.inr z)))).trans (H4.out.2.1.mono fun _ _ z=>z.elim .inl fun z=>.inr (.inr (.inr z))),?_⟩
    have:=H4.out.2.2.2
    rw [show t + (1 + fk + wk + 1) = t + 1 + fk + wk + 1 by omega]
    exact this
set_option maxHeartbeats 2000000 in
set_option maxRecDepth 100000 in
theorem offer_g (X : Stepper) (hs : X.Steps Try.prog 75) (hs2 : X.Steps Try.prog 51) (I : MIds) {hval : Value} {fr : FrX} (hF : FreeG X I hval fr) (t : Nat) (S : MulS) (w : World) (h : MulX I S X.own w) (A : X.at_ t w) (vA : Option Addr) (vc : Nat) (vs : List Int) (hv : RdX I X.own w vA vs) (hvl : vs.length≤maxLen) :
  Calls Try.prog 23 #[.pointer (some ⟨I.mb,0,none⟩),X.v,hval,.slice vA vs.length vc] w fun e w'=>e = .returned (.tuple #[.int .i64 (offerX fr I.n I.first S vs).1,.int .i64 (offerX fr I.n I.first S vs).2.1])∧MulX I (offerX fr I.n I.first S vs).2.2.1 X.own w'∧Kept (OutM I X.own) w w'∧X.at_ (t + (offerX fr I.n I.first S vs).2.2.2) w':=by
 have hc0:=h.c0
 have hmo:=h.ring.most
 have hcl:=claim_g X hs hs2 I hF t S w h A vs.length
 have HV:=Lib.hid hv
 have HCL:=Lib.hid hcl
 have HOK:=Lib.hid (claimX_ok (fr:=fr) (N:=I.n) (fs:=I.first) (S:=S) (m:=vs.length))
 clear h A hv hcl
 unfold offerX
 unfold maxLen at hvl
 obtain ⟨x,e,S',k,hr⟩ : ∃ x e S' k,claimX fr I.n I.first S vs.length = (x,e,S',k):=⟨_,_,_,_,rfl⟩
 have hcl:=HCL.out
 have hok:=HOK.out
 rw [hr] at hcl hok ⊢
 dsimp only at hcl hok ⊢
 have HCL:=Lib.hid hcl
 have HOK:=Lib.hid hok
 clear hcl hok hr
 obtain ⟨n,hn⟩ : ∃ n,n = vs.length:=⟨_,rfl⟩
 have HN:=Lib.hid hn
 rw [← hn] at hvl HCL HOK ⊢
 clear hn
 by_cases he : e = 0
 ·subst he
  rw [if_pos rfl]
  obtain ⟨hx0,hx1⟩ : (0 : Int)≤x - n + 1∧x < 4611686018427387904:=by obtain ⟨o1,o2,o3,o4⟩:=HOK.out rfl; omega
  have hn16 : n≤65536:=by obtain ⟨o1,o2,o3,o4⟩:=HOK.out rfl; omega
  clear HOK hvl
  go_enter Try.func23,Try.ntmps23
  go_wp2_with fail
  refine HCL.out.mono ?_
  rintro e w1 ⟨rfl,m1,k1,a1⟩
  have H1:=Lib.hid (And.intro m1 (And.intro k1 a1))
  clear m1 k1 a1
  go_wp2
  go_loopw [30] (fun i wr=>∃ j : Nat,j≤n∧i = .int .i64 j∧∃ T,MulX I T X.own wr∧putsS I.n T (x - n + 1 + j) (vs.drop j) = putsS I.n S' (x - n + 1) vs∧Kept (OutM I X.own) w wr∧X.at_ (t + (k + 3 * j)) wr) (fun i _=>n - (intOf i).toNat)
  case atStart=>exact ⟨0,Nat.zero_le _,rfl,S',H1.out.1,by simp,H1.out.2.1,H1.out.2.2⟩
  case round =>
   obtain ⟨j,hj,rfl,T,mT,eT,kT,aT⟩:=hrel
   have HT:=Lib.hid (And.intro mT (And.intro eT (And.intro kT aT)))
   have HRD:=Lib.hid (HV.out.kept kT)
   clear mT eT kT aT
   by_cases hlt : j < n
   ·obtain ⟨g,o,rfl,hno,hc⟩:=HRD.out.cell j (by have:=HN.out; omega)
    have hjl : j < vs.length:=by have:=HN.out; omega
    have hdr:=List.drop_eq_getElem_cons hjl
    obtain ⟨v,hv⟩ : ∃ v,v = vs.getD j 0:=⟨_,rfl⟩
    rw [← hv] at hc
    have HW:=Lib.hid (And.intro hv hdr)
    clear hv hdr hno
    go_wp2_with fail
    refine (write_x X hs2 I _ T _ HT.out.1 HT.out.2.2.2 (x - n + 1 + j) v (by omega) (by omega)).mono ?_
    rintro e w2 ⟨rfl,m2,k2,z2,a2⟩
    have H2:=Lib.hid (And.intro m2 (And.intro k2 (And.intro z2 a2)))
    clear m2 k2 z2 a2 hc
    go_wp2
    go_roundw
    case rel =>
     obtain ⟨mT,eT,kT,aT⟩:=HT.out
     obtain ⟨m2,k2,z2,a2⟩:=H2.out
     obtain ⟨hv,hdr⟩:=HW.out
     refine ⟨j + 1,by omega,by go_num,_,m2,?_,kT.trans (k2.mono fun _ _ z=>z.elim (fun e=>.inr (.inr (.inl e))) fun z=>.inr (.inr (.inr z))),by rw [show t + (k + 3 * (j + 1)) = t + (k + 3 * j) + 3 by omega]; exact a2⟩
     rw [← eT,hdr,show vs[j] = v by rw [hv,List.getD_eq_getElem?_getD,List.getElem?_eq_getElem hjl]; rfl]
     show _ = putsS I.n (putS T I.n (x - n + 1 + j) v) (x - n + 1 + j + 1) (vs.drop (j + 1))
     congr 1
     omega
    case measure=>simp [intOf]; omega
   ·obtain rfl : j = n:=by omega
    go_wp2
    go_ret2
    obtain ⟨mT,eT,kT,aT⟩:=HT.out
    rw [List.drop_eq_nil_of_le (by have:=HN.out; omega)] at eT
    have eT : T = putsS I.n S' (x - j + 1) vs:=eT
    rw [← eT]
    exact ⟨rfl,mT,kT,aT⟩
 ·rw [if_neg he]
  have hd : (e == 0) = false:=by simpa using he
  have hd2 : (e != 0) = true:=by simpa using he
  clear he HOK
  go_enter Try.func23,Try.ntmps23
  go_wp2_with fail
  refine HCL.out.mono ?_
  rintro e' w1 ⟨rfl,m1,k1,a1⟩
  have H1:=Lib.hid (And.intro m1 (And.intro k1 a1))
  clear m1 k1 a1
  go_wp2
  go_ret2
  exact ⟨rfl,H1.out⟩
theorem cell_step_none : Stepper.none.Steps Try.prog 75:=fun k w _=>by
 have h : Calls Try.prog 75 #[.nilIface] w fun e w'=>e = .returned (.tuple #[])∧w = w':=by
  go_enter Try.func75,Try.ntmps75
  go_wp2
  go_end0
  exact ⟨rfl,rfl⟩
 exact h.mono fun _ _ ⟨h,hw⟩=>⟨h,trivial,hw ▸ Kept.refl _ _,by rw [hw]⟩
section
variable {N : Nat} (hN : 0 < N) (hN2 : N≤65536)
include hN hN2
omit hN hN2 in
end
end Go.Proofs.Ytlhbonnminlnlaa
namespace Go.Proofs.Ytlhbonnminlnlaa
open Go.RowKit
theorem gate_method (n : Nat) (a : Addr) (w : World) : (method (n + 1) 27 (.pointer (some a)) "Least").run Try.prog w = .ok (108,.pointer (some a)) w:=by kernel_rfl
theorem gate_list (G : Nat) (gp : Option Addr) (mv : Value) (ml : List Int) (f : Nat→Int) (w : World) (hg : GateAt w G gp f) (hb : BoxV 162 gp mv w) (hm : MembersAt w mv ml) (hml : ml.length≤64) :
  Calls Try.prog 85 #[.pointer (some ⟨G,0,none⟩),.nilIface] w fun e w'=>∃ v',e = .returned v'∧Kept (fun _=>False) w w'∧w'.ownsRow w.heap.size 3 1 v' ml.length (ml.map (Value.int .i64)):=by
 have HG:=Lib.hid hg
 have HM:=Lib.hid (And.intro hb hm)
 clear hg hb hm
 go_enter Try.func85,Try.ntmps85
 go_wp2_with fail
 refine (box_load_mb ⟨G,0,none⟩ gp _ HG.out.hd HM.out.1.held).mono ?_
 rintro e w1 ⟨rfl,k1⟩
 have H1:=Lib.hid k1
 clear k1
 go_wp2_with fail
 refine (held_value_mb (some ⟨G,0,none⟩) gp mv _ (HM.out.1.kept H1.out)).mono ?_
 rintro e w2 ⟨rfl,k2⟩
 have H2:=Lib.hid (H1.out.trans k2)
 clear k2
 go_wp2_with fail
 refine (clone_ok mv ml _ (HM.out.2.kept H2.out) hml).mono ?_
 rintro e w3 ⟨v',rfl,k3,o3⟩
 have H3:=Lib.hid (And.intro (H2.out.trans k3) (own_baseL o3 H2.out.size))
 clear k3 o3
 go_wp2
 go_ret
 exact ⟨_,rfl,H3.out⟩
theorem gate_get (G i : Nat) (p : Option Addr) (f : Nat→Int) (w : World) (h : GateAt w G p f) (hi : i < 64) : Calls Try.prog 109 #[.pointer (some ⟨G,0,none⟩),.nilIface,.int .i64 i] w fun e w'=>e = .returned (.tuple #[.int .i64 (f i),.int .i64 0])∧w = w':=by
 have c:=h.num i hi
 have h0 : (0 : Int)≤i:=by omega
 have h1 : (i : Int) < 64:=by omega
 clear h
 generalize f i = x at c ⊢
 go_enter Try.func109,Try.ntmps109
 go_wp2_with (first | (go_at_call 53; refine (refused_no _ i _ hi).mono ?_; rintro e w' ⟨rfl,rfl⟩) | (go_at_call 59; refine (gstep_nil _).mono ?_; rintro e w' ⟨rfl,rfl⟩) | (go_at_call 52; refine (atomic_load _ x _ c).mono ?_; rintro e w' ⟨rfl,rfl⟩))
 go_ret2
 exact ⟨rfl,rfl⟩
set_option maxHeartbeats 4000000 in
set_option maxRecDepth 100000 in
theorem gate_least (G : Nat) (x none_ : Int) (gp : Option Addr) (mv : Value) (ml : List Int) (f : Nat→Int) (w : World) (hg : GateAt w G gp f) (hb : BoxV 162 gp mv w) (hm : MembersAt w mv ml) (hml : ml.length≤64) (h0 : 0 < ml.length)
  (hf : ∀ j (h : j < ml.length),∃ i : Nat,i < 64∧ml[j] = (i : Int)∧f i = x) :
  Calls Try.prog 108 #[.pointer (some ⟨G,0,none⟩),.nilIface,.int .i64 none_] w fun e w'=>(∃ p : Int,e = .returned (.tuple #[.int .i64 x,.int .i64 p]))∧Kept (fun _=>False) w w':=by
 have HG:=Lib.hid hg
 have HM:=Lib.hid (And.intro hb hm)
 have HF:=Lib.hid hf
 clear hg hb hm hf
 go_enter Try.func108,Try.ntmps108
 go_wp2_with fail
 refine (gate_list G gp mv ml f w HG.out HM.out.1 HM.out.2 hml).mono ?_
 rintro e w1 ⟨v',rfl,k1,o1⟩
 obtain ⟨vA,vc,rfl⟩:=own_slice o1
 obtain ⟨n,hn⟩ : ∃ n,n = ml.length:=⟨_,rfl⟩
 rw [← hn] at o1 hml h0 ⊢
 obtain ⟨m,rfl⟩ : ∃ m,n = m + 1:=⟨n - 1,by omega⟩
 obtain ⟨L,rfl,l1,l2,l3,l4⟩:=own_succ o1
 have HK:=Lib.hid (And.intro k1 (And.intro l1 (And.intro l2 (And.intro l3 (fun j (h : j < ml.length)=>l4 j _ (by rw [List.getElem?_map,List.getElem?_eq_getElem h]; rfl))))))
 have HN:=Lib.hid hn
 clear k1 o1 l1 l2 l3 l4 hn
 go_wp2_with fail
 go_loopw [8,9,19] (fun le pl q wr=>∃ j : Nat,j≤m + 1∧q = .int .i64 j∧wr = w1∧((j = 0∧le = .int .i64 none_∧pl = .int .i64 (-1))∨(0 < j∧le = .int .i64 x∧∃ p : Nat,p < 64∧pl = .int .i64 p))) (fun _ _ q _=>m + 1 - (intOf q).toNat)
 case atStart=>exact ⟨0,Nat.zero_le _,rfl,rfl,.inl ⟨rfl,rfl,rfl⟩⟩
 case round =>
  obtain ⟨j,hj,rfl,rfl,hh⟩:=hrel
  by_cases hlt : j < m + 1
  ·have b1 : (j : Int) < ((m + 1 : Nat) : Int):=by omega
   have hjl : j < ml.length:=by have:=HN.out; omega
   have c1:=HK.out.2.2.2.2 j hjl
   obtain ⟨i,hi,hij,hfi⟩:=HF.out j hjl
   rw [hij] at c1
   have HFI:=Lib.hid hfi
   clear hij hfi
   have i0 : (0 : Int)≤i:=by omega
   have i1 : (i : Int) < 64:=by omega
   rcases hh with ⟨rfl,rfl,rfl⟩ | ⟨hj0,rfl,p,hp,rfl⟩
   ·go_wp2_with (go_at_call 109; refine (gate_get G i gp f _ (HG.out.kept HK.out.1 id) hi).mono ?_; rintro e w' ⟨rfl,rfl⟩; rw [HFI.out])
    go_roundw
    case rel=>exact ⟨1,by omega,by go_num,trivial,.inr ⟨by omega,rfl,i,hi,rfl⟩⟩
    case measure=>simp [intOf]
   ·have p0 : ¬ (p : Int) < 0:=by omega
    have xx : ¬ x < x:=by omega
    go_wp2_with (go_at_call 109; refine (gate_get G i gp f _ (HG.out.kept HK.out.1 id) hi).mono ?_; rintro e w' ⟨rfl,rfl⟩; rw [HFI.out])
    go_roundw
    case rel=>exact ⟨j + 1,by omega,by go_num,trivial,.inr ⟨by omega,rfl,p,hp,rfl⟩⟩
    case measure=>simp [intOf]; omega
  ·have ej : j = m + 1:=by omega
   subst ej
   rcases hh with ⟨hx,-⟩ | ⟨-,rfl,p,hp,rfl⟩
   ·omega
   go_wp2
   go_ret2
   exact ⟨⟨_,rfl⟩,HK.out.1⟩
end Go.Proofs.Ytlhbonnminlnlaa
namespace Go.Proofs.Ytlhbonnminlnlaa
open Go.RowKit Go.Turn Go.Tame Go.Conc
theorem BoxV.keptZ {Z : Nat→Prop} {t : TypeId} {p : Option Addr} {v : Value} {w w' : World} (h : BoxV t p v w) (k : Kept Z w w') (hz : ∀ K,p = some ⟨K,0,none⟩→¬ Z K) : BoxV t p v w':=by
 rcases h with h | ⟨K,b,h1,h2⟩
 ·exact .inl h
 ·exact .inr ⟨K,b,h1,h2.kept k (hz K h1)⟩
theorem MembersAt.keptZ {Z : Nat→Prop} {w w' : World} {v : Value} {l : List Int} (h : MembersAt w v l) (k : Kept Z w w') (hz : ∀ A n c,v = .slice (some A) n c→0 < l.length→¬ Z A.block) : MembersAt w' v l:=by
 obtain ⟨A,c,h1,h2,h3,h4,h5⟩:=h
 exact ⟨A,c,h1,h2,h3,h4,fun i hi=>by
  obtain ⟨L,k1,k2⟩:=h5 i hi
  exact ⟨L,k1,cell_keep k2 k (hz ⟨L,0,none⟩ _ _ (by rw [h1,k1]) (by omega))⟩⟩
def gX (G : Nat) (gp : Option Addr) (mv : Value) (ml : List Int) (f : Nat→Int) : Stepper where
 v:=.nilIface
 own:=fun b=>b = G∨(∃ K,gp = some ⟨K,0,none⟩∧b = K)∨∃ A n c,mv = .slice (some A) n c∧0 < ml.length∧b = A.block
 at_:=fun _ w=>GateAt w G gp f∧BoxV 162 gp mv w∧MembersAt w mv ml
 keep:=fun h k hz=>⟨h.1.kept k (hz _ (.inl rfl)),h.2.1.keptZ k fun K e=>hz _ (.inr (.inl ⟨K,e,rfl⟩)),h.2.2.keptZ k fun A n c e hl=>hz _ (.inr (.inr ⟨A,n,c,e,hl,rfl⟩))⟩
 old:=fun h e=>by
  obtain ⟨h1,h2,h3⟩:=h
  rcases e with rfl | ⟨K,e,rfl⟩ | ⟨A,n,c,e,hl,rfl⟩
  ·exact h1.lt
  ·rcases h2 with ⟨h2,-⟩ | ⟨K2,b,h2,h4⟩
   ·rw [e] at h2; cases h2
   ·rw [e] at h2; cases h2; exact h4.lt
  ·obtain ⟨A',c',k1,-,-,-,k5⟩:=h3
   obtain ⟨L,q1,q2⟩:=k5 0 hl
   rw [e] at k1
   cases k1
   cases q1
   exact lt_of_cell q2
theorem gX_cell {G : Nat} {gp : Option Addr} {mv : Value} {ml : List Int} {f : Nat→Int} : (gX G gp mv ml f).Steps Try.prog 75:=fun k w h=>(cell_step_none k w trivial).mono fun e w' ⟨h1,_,h2,h3⟩=>⟨h1,(gX G gp mv ml f).keep h h2 fun _ _ z=>z,h2.mono fun _ _ z=>z.elim,h3⟩
theorem gX_slots {G : Nat} {gp : Option Addr} {mv : Value} {ml : List Int} {f : Nat→Int} : (gX G gp mv ml f).Steps Try.prog 51:=fun k w h=>(slots_step_none k w trivial).mono fun e w' ⟨h1,_,h2,h3⟩=>⟨h1,(gX G gp mv ml f).keep h h2 fun _ _ z=>z,h2.mono fun _ _ z=>z.elim,h3⟩
set_option maxHeartbeats 4000000 in
set_option maxRecDepth 100000 in
theorem gate_least0 (G : Nat) (none_ : Int) (gp : Option Addr) (mv : Value) (f : Nat→Int) (w : World) (hg : GateAt w G gp f) (hb : BoxV 162 gp mv w) (hm : MembersAt w mv []) :
  Calls Try.prog 108 #[.pointer (some ⟨G,0,none⟩),.nilIface,.int .i64 none_] w fun e w'=>(∃ p : Int,e = .returned (.tuple #[.int .i64 none_,.int .i64 p]))∧Kept (fun _=>False) w w':=by
 have HG:=Lib.hid hg
 have HM:=Lib.hid (And.intro hb hm)
 clear hg hb hm
 go_enter Try.func108,Try.ntmps108
 go_wp2_with fail
 refine (gate_list G gp mv [] f w HG.out HM.out.1 HM.out.2 (by simp)).mono ?_
 rintro e w1 ⟨v',rfl,k1,o1⟩
 obtain ⟨vA,vc,rfl⟩:=own_slice o1
 have HK:=Lib.hid k1
 clear k1 o1
 simp only [List.length_nil]
 go_wp2_with fail
 go_loopw [8,9,19] (fun le pl q wr=>q = .int .i64 0∧wr = w1∧le = .int .i64 none_∧pl = .int .i64 (-1)) (fun _ _ q _=>0)
 case atStart=>exact ⟨rfl,rfl,rfl,rfl⟩
 case round =>
  obtain ⟨rfl,rfl,rfl,rfl⟩:=hrel
  go_wp2
  go_ret2
  exact ⟨⟨_,rfl⟩,HK.out⟩
def HoldO (ml : List Int) (f : Nat→Int) (o : Option Int) : Prop:=(ml = []∧o = none)∨∃ x,o = some x∧0 < ml.length∧∀ j (h : j < ml.length),∃ i : Nat,i < 64∧ml[j] = (i : Int)∧f i = x
theorem gate_leastO (G : Nat) (none_ : Int) (gp : Option Addr) (mv : Value) (ml : List Int) (f : Nat→Int) (o : Option Int) (w : World) (hg : GateAt w G gp f) (hb : BoxV 162 gp mv w) (hm : MembersAt w mv ml) (hml : ml.length≤64) (ho : HoldO ml f o) :
  Calls Try.prog 108 #[.pointer (some ⟨G,0,none⟩),.nilIface,.int .i64 none_] w fun e w'=>(∃ p : Int,e = .returned (.tuple #[.int .i64 (o.getD none_),.int .i64 p]))∧Kept (fun _=>False) w w':=by
 rcases ho with ⟨rfl,rfl⟩ | ⟨x,rfl,h0,hf⟩
 ·exact gate_least0 G none_ gp mv f w hg hb hm
 ·exact gate_least G x none_ gp mv ml f w hg hb hm hml h0 hf
def frGt (n : Nat) (o : Option Int) : FrX:=fun S c m=>if c + m - n≤S.seen then (true,S.seen,0) else (decide (c + m - n≤min (o.getD c) c),min (o.getD c) c,0)
set_option maxHeartbeats 2000000 in
set_option maxRecDepth 100000 in
theorem free_G (I : MIds) (G : Nat) (gp : Option Addr) (mv : Value) (ml : List Int) (f : Nat→Int) (o : Option Int) (hml : ml.length≤64) (ho : HoldO ml f o) : FreeG (gX G gp mv ml f) I (.iface 27 (.pointer (some ⟨G,0,none⟩))) (frGt I.n o) where
 law:=by
  intro t S w h A n hn1 hn2 hcn
  have hp:=h.ring.pos
  have hm:=h.ring.most
  have hc0:=h.c0
  have b0 : w.cell? ⟨I.mb,0,none⟩ = some (.pointer (some ⟨I.rb,0,none⟩)):=h.mul.cell 0
  have b3 : w.cell? ⟨I.mb,3,none⟩ = some (.pointer (some ⟨I.eb,0,none⟩)):=h.mul.cell 3
  have r0:=h.ring.ring
  obtain ⟨st,va,cc,g⟩:=S
  dsimp only at hc0 hcn
  have HO:=Lib.hid ho
  have HH:=Lib.hid h
  have HA:=Lib.hid A
  clear h A ho
  unfold frGt
  dsimp only
  by_cases hg : cc + n - I.n≤g
  ·rw [if_pos hg]
   have d1 : decide (cc + n - (I.n : Int)≤g) = true:=decide_eq_true hg
   clear hg
   go_enter Try.func71,Try.ntmps71
   go_wp2_with (go_at_call 28; refine (multi_sizeM _ _ _ _ _ _ b0 r0).mono ?_; rintro e w' ⟨rfl,hw'⟩; subst hw')
   refine (wload_x (gX G gp mv ml f) gX_cell t I.eb g _ HH.out.sw (fun z=>(HH.out.own _ z).2.2.2.2 rfl) HA.out).mono ?_
   rintro e w1 ⟨rfl,k1,z1,a1⟩
   have H1:=Lib.hid (And.intro k1 (And.intro z1 a1))
   clear k1 z1 a1
   go_wp2
   go_ret
   exact ⟨rfl,HH.out.step H1.out.1,H1.out.1.mono fun _ _ z=>.inr z,H1.out.2.2⟩
  ·rw [if_neg hg]
   have d1 : decide (cc + n - (I.n : Int)≤g) = false:=decide_eq_false hg
   clear hg
   obtain ⟨td,htd⟩ : ∃ td,td = o.getD cc:=⟨_,rfl⟩
   have hmn : (if cc < td then cc else td) = min td cc:=by split <;> omega
   rw [← htd]
   obtain ⟨ls,hls⟩ : ∃ ls,ls = min td cc:=⟨_,rfl⟩
   rw [← hls] at hmn ⊢
   have HTD:=Lib.hid htd
   clear htd hls
   have hmt:=fun wx=>gate_method 307 ⟨G,0,none⟩ wx
   go_enter Try.func71,Try.ntmps71
   go_wp2_with (go_at_call 28; refine (multi_sizeM _ _ _ _ _ _ b0 r0).mono ?_; rintro e w' ⟨rfl,hw'⟩; subst hw')
   refine (wload_x (gX G gp mv ml f) gX_cell t I.eb g _ HH.out.sw (fun z=>(HH.out.own _ z).2.2.2.2 rfl) HA.out).mono ?_
   rintro e w1 ⟨rfl,k1,z1,a1⟩
   have H1:=Lib.hid (And.intro k1 (And.intro z1 (And.intro a1 (HH.out.step k1))))
   clear k1 z1 a1 b0 b3 r0
   go_wp2_with fail
   have hlo:=gate_leastO G cc gp mv ml f o w1 H1.out.2.2.1.1 H1.out.2.2.1.2.1 H1.out.2.2.1.2.2 hml HO.out
   rw [← HTD.out] at hlo
   refine hlo.mono ?_
   clear hlo
   rintro e w2 ⟨⟨p,rfl⟩,k2⟩
   have m2:=H1.out.2.2.2.kept k2 id id id id id
   have b3 : w2.cell? ⟨I.mb,3,none⟩ = some (.pointer (some ⟨I.eb,0,none⟩)):=m2.mul.cell 3
   have H2:=Lib.hid (And.intro (H1.out.1.trans (k2.mono fun _ _ z=>z.elim)) (And.intro ((gX G gp mv ml f).keep H1.out.2.2.1 k2 fun _ _ z=>z) m2))
   clear k2 m2 H1
   go_wp2_with fail
   refine (wstore_x (gX G gp mv ml f) gX_cell (t + 1) I.eb ls g _ H2.out.2.2.sw (fun z=>(HH.out.own _ z).2.2.2.2 rfl) H2.out.2.1).mono ?_
   rintro e w3 ⟨rfl,s3,k3,z3,a3⟩
   have H3:=Lib.hid (And.intro s3 (And.intro k3 a3))
   clear s3 k3 z3 a3 b3
   go_wp2
   go_ret
   obtain ⟨k2,a2,m2⟩:=H2.out
   obtain ⟨s3,k3,a3⟩:=H3.out
   have no : ∀ b,b≠I.eb→¬ (gX G gp mv ml f).own b→¬ (b = I.eb∨(gX G gp mv ml f).own b):=fun b h1 h2 z=>z.elim h1 h2
   have o:=m2.own
   exact ⟨rfl,⟨m2.mul.kept k3 (no _ m2.d3.1.symm fun z=>(o _ z).1 rfl),m2.ring.kept k3 (no _ m2.d3.2.symm fun z=>(o _ z).2.1 rfl) (no _ m2.d1.2.2 fun z=>(o _ z).2.2.1 rfl),m2.cw.kept k3 (no _ m2.d2.2.1 fun z=>(o _ z).2.2.2.1 rfl),s3,m2.d1,m2.d2,m2.d3,o,m2.f0,m2.f1,m2.c0,m2.c1⟩,(k2.mono fun _ _ z=>.inr z).trans k3,a3⟩
structure FullS (N : Nat) (S : MulS) (V : Int→Int) : Prop where
 lo : -1≤S.cur
 st : ∀ q : Int,0≤q→S.cur - N < q→q≤S.cur→S.st (q % N).toNat = 2 * (q / N)∧S.va (q % N).toNat = V q
theorem mod_ne {N : Nat} (hN : 0 < N) {q c : Int} (h1 : q < c) (h2 : c < q + N) : (q % (N : Int)).toNat≠(c % (N : Int)).toNat:=by
 intro z
 have p1:=Int.emod_nonneg q (show (N : Int)≠0 by omega)
 have p2:=Int.emod_nonneg c (show (N : Int)≠0 by omega)
 have z : q % (N : Int) = c % (N : Int):=by omega
 have e1:=Int.mul_ediv_add_emod q N
 have e2:=Int.mul_ediv_add_emod c N
 have e3 : (N : Int) * (c / N - q / N) = c - q:=by rw [Int.mul_sub]; omega
 generalize c / (N : Int) - q / (N : Int) = d at e3
 rcases Int.lt_or_le 0 d with hd | hd
 ·have : (N : Int) * 1≤N * d:=Int.mul_le_mul_of_nonneg_left (by omega) (by omega)
  omega
 ·have : (N : Int) * d≤N * 0:=Int.mul_le_mul_of_nonneg_left hd (by omega)
  omega
section
variable {N : Nat} (hN : 0 < N)
include hN
theorem full_put {S : MulS} {V V' : Int→Int} (h : FullS N S V) (v g : Int) (hV : ∀ q,q≤S.cur→V' q = V q) (hv : V' (S.cur + 1) = v) : FullS N (putS { S with seen:=g,cur:=S.cur + 1 } N (S.cur + 1) v) V':=by
 have hlo:=h.lo
 refine ⟨by show -1≤S.cur + 1; omega,fun q h0 h1 h2=>?_⟩
 have h1 : S.cur + 1 - N < q:=h1
 have h2 : q≤S.cur + 1:=h2
 show upd S.st _ _ _ = _∧upd S.va _ _ _ = _
 simp only [upd]
 by_cases e : q = S.cur + 1
 ·subst e
  rw [if_pos rfl,if_pos rfl]
  exact ⟨rfl,hv.symm⟩
 ·have hne:=mod_ne hN (q:=q) (c:=S.cur + 1) (by omega) (by omega)
  rw [if_neg hne,if_neg hne,hV q (by omega)]
  exact h.st q h0 (by omega) (by omega)
theorem offerG (S : MulS) (V : Int→Int) (o : Option Int) (v : Int) (h : FullS N S V) (h1 : S.cur + 1 < 4611686018427387904) :
  ((frGt N o S S.cur 1).1 = true→∃ k,offerX (frGt N o) N 0 S [v] = (S.cur + 1,0,putS { S with seen:=(frGt N o S S.cur 1).2.1,cur:=S.cur + 1 } N (S.cur + 1) v,k)) ∧
  ((frGt N o S S.cur 1).1 = false→∃ k,offerX (frGt N o) N 0 S [v] = (0,3,{ S with seen:=(frGt N o S S.cur 1).2.1 },k)):=by
 have hlo:=h.lo
 have hwr : (wrX S.st N 0 1 (S.cur + 1 - N)).1 = true:=by
  show (if (0 : Int)≤S.cur + 1 - N then (if S.st ((S.cur + 1 - N) % N).toNat = 2 * ((S.cur + 1 - N) / N) then ((true,0).1,(true,0).2 + 1) else (false,1)) else (true,0) : Bool × Nat).1 = _
  by_cases a : (0 : Int)≤S.cur + 1 - N
  ·rw [if_pos a,if_pos (h.st _ a (by omega) (by omega)).1]
  ·rw [if_neg a]
 constructor
 ·intro hf
  have hcl : ∃ k,claimX (frGt N o) N 0 S 1 = (S.cur + 1,0,{ S with seen:=(frGt N o S S.cur 1).2.1,cur:=S.cur + 1 },k):=by
   unfold claimX
   rw [if_neg (by omega),if_neg (by omega),if_neg (by rw [hf]; decide),if_neg (by rw [show (1 : Int).toNat = 1 from rfl,hwr]; decide)]
   exact ⟨_,rfl⟩
  obtain ⟨k,hcl⟩:=hcl
  refine ⟨k + 3 * 1,?_⟩
  show (if (claimX (frGt N o) N 0 S 1).2.1 = 0 then ((claimX (frGt N o) N 0 S 1).1,0,putsS N (claimX (frGt N o) N 0 S 1).2.2.1 ((claimX (frGt N o) N 0 S 1).1 - 1 + 1) [v],(claimX (frGt N o) N 0 S 1).2.2.2 + 3 * 1) else _ : Int × Int × MulS × Nat) = _
  rw [hcl,if_pos rfl]
  show (S.cur + 1,0,putS _ N (S.cur + 1 - 1 + 1) v,k + 3 * 1) = _
  rw [show S.cur + 1 - 1 + 1 = S.cur + 1 by omega]
 ·intro hf
  have hcl : ∃ k,claimX (frGt N o) N 0 S 1 = (0,3,{ S with seen:=(frGt N o S S.cur 1).2.1 },k):=by
   unfold claimX
   rw [if_neg (by omega),if_neg (by omega),if_pos hf]
   exact ⟨_,rfl⟩
  obtain ⟨k,hcl⟩:=hcl
  refine ⟨k,?_⟩
  show (if (claimX (frGt N o) N 0 S 1).2.1 = 0 then _ else (0,(claimX (frGt N o) N 0 S 1).2.1,(claimX (frGt N o) N 0 S 1).2.2) : Int × Int × MulS × Nat) = _
  rw [hcl,if_neg (show ¬ ((3 : Int) = 0) by decide)]
theorem offer_room {S : MulS} {V V' : Int→Int} {o : Option Int} {b c : Int} (v : Int) (h : FullS N S V) (hc : S.cur = c) (h1 : c + 1 < 4611686018427387904) (hs : S.seen≤b) (hb : min (o.getD c) c≤b) (hr : c + 1 - N≤min (o.getD c) c)
  (hV : ∀ q,q≤c→V' q = V q) (hv : V' (c + 1) = v) : ∃ S' k,offerX (frGt N o) N 0 S [v] = (c + 1,0,S',k)∧FullS N S' V'∧S'.cur = c + 1∧S'.seen≤b:=by
 subst hc
 have hf : (frGt N o S S.cur 1).1 = true∧(frGt N o S S.cur 1).2.1≤b:=by
  unfold frGt
  by_cases a : S.cur + 1 - N≤S.seen
  ·rw [if_pos a]; exact ⟨rfl,hs⟩
  ·rw [if_neg a]; exact ⟨decide_eq_true hr,hb⟩
 obtain ⟨k,e⟩:=(offerG hN S V o v h h1).1 hf.1
 exact ⟨_,k,e,full_put hN h v _ hV hv,rfl,hf.2⟩
theorem offer_back {S : MulS} {V : Int→Int} {o : Option Int} {b c : Int} (v : Int) (h : FullS N S V) (hc : S.cur = c) (h1 : c + 1 < 4611686018427387904) (hs : S.seen≤b) (hb : min (o.getD c) c≤b) (hr : b < c + 1 - N) :
  ∃ S' k,offerX (frGt N o) N 0 S [v] = (0,3,S',k)∧FullS N S' V∧S'.cur = c∧S'.seen≤b:=by
 subst hc
 have hf : (frGt N o S S.cur 1).1 = false∧(frGt N o S S.cur 1).2.1≤b:=by
  unfold frGt
  rw [if_neg (show ¬ S.cur + 1 - N≤S.seen by omega)]
  exact ⟨decide_eq_false (by omega),hb⟩
 obtain ⟨k,e⟩:=(offerG hN S V o v h h1).2 hf.1
 exact ⟨_,k,e,⟨h.lo,h.st⟩,rfl,hf.2⟩
end
structure HwAt (I : MIds) (G : Nat) (gp : Option Addr) (mv : Value) (ml : List Int) (f : Nat→Int) (S : MulS) (w : World) : Prop where
 m : MulX I S (gX G gp mv ml f).own w
 g : (gX G gp mv ml f).at_ 0 w
theorem HwAt.keep {I : MIds} {G : Nat} {gp : Option Addr} {mv : Value} {ml : List Int} {f : Nat→Int} {S : MulS} {w w' : World} (h : HwAt I G gp mv ml f S w) {Z : Nat→Prop} (k : Kept Z w w') (hz : ∀ b,b < w.heap.size→Z b→¬ (b = I.mb∨b = I.rb∨b = I.gb∨b = I.cb∨b = I.eb)∧¬ (gX G gp mv ml f).own b) : HwAt I G gp mv ml f S w':=
 ⟨h.m.kept k (fun z=>(hz _ h.m.mul.lt z).1 (.inl rfl)) (fun z=>(hz _ h.m.ring.rlt z).1 (.inr (.inl rfl))) (fun z=>(hz _ h.m.ring.glt z).1 (.inr (.inr (.inl rfl)))) (fun z=>(hz _ h.m.cw.lt z).1 (.inr (.inr (.inr (.inl rfl))))) (fun z=>(hz _ h.m.sw.lt z).1 (.inr (.inr (.inr (.inr rfl))))),
   (gX G gp mv ml f).keep h.g k fun b hb z=>(hz b ((gX G gp mv ml f).old h.g hb) z).2 hb⟩
theorem hw_offer {I : MIds} {G : Nat} {gp : Option Addr} {mv : Value} {ml : List Int} {f : Nat→Int} {o : Option Int} {S : MulS} {w : World} (hml : ml.length≤64) (ho : HoldO ml f o) (h : HwAt I G gp mv ml f S w) (v x e : Int) {S' : MulS} {k : Nat} (he : offerX (frGt I.n o) I.n I.first S [v] = (x,e,S',k)) :
  Calls Try.prog 23 #[.pointer (some ⟨I.mb,0,none⟩),.nilIface,.iface 27 (.pointer (some ⟨G,0,none⟩)),.slice (some ⟨w.heap.size,0,none⟩) 1 1] (w.alloc (.cells #[.int .i64 v] 2)) fun r w'=>r = .returned (.tuple #[.int .i64 x,.int .i64 e])∧HwAt I G gp mv ml f S' w'∧Kept (OutM I (gX G gp mv ml f).own) w w':=by
 have k0 : Kept (fun _=>False) w (w.alloc (.cells #[.int .i64 v] 2)):=Kept.alloc _ _
 have h1:=h.keep k0 fun _ _ z=>z.elim
 have hno : ¬ OutM I (gX G gp mv ml f).own w.heap.size:=by
  have a:=h.m.cw.lt
  have b:=h.m.sw.lt
  have c:=h.m.ring.glt
  rintro (z | z | z | z)
  ·omega
  ·omega
  ·omega
  ·exact absurd ((gX G gp mv ml f).old h.g z) (Nat.lt_irrefl _)
 have hv : RdX I (gX G gp mv ml f).own (w.alloc (.cells #[.int .i64 v] 2)) (some ⟨w.heap.size,0,none⟩) [v]:=⟨fun i hi=>by
  have : i = 0:=by simpa using hi
  subst this
  exact ⟨_,_,rfl,hno,(Blk.new w 2 #[.int .i64 v]).cell 0⟩⟩
 have hc:=offer_g (gX G gp mv ml f) gX_cell gX_slots I (free_G I G gp mv ml f o hml ho) 0 S _ h1.m h1.g _ 1 [v] hv (by unfold maxLen; show 1≤_; decide)
 rw [he] at hc
 exact hc.mono fun r w' ⟨q1,q2,q3,q4⟩=>⟨q1,⟨q2,q4⟩,(k0.mono fun _ _ z=>z.elim).trans q3⟩
end Go.Proofs.Ytlhbonnminlnlaa
