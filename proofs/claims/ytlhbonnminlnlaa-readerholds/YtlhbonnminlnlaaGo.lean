/- DERIVED. A run by a schedule of readers (package reader: Play), goroutine 0 alone. -/
import Derived.Test.YtlhbonnminlnlaaGn
import Derived.Test.YtlhbonnminlnlaaGl
import Derived.Test.YtlhbonnminlnlaaGi
import Derived.Test.YtlhbonnminlnlaaGh
import Derived.Test.YtlhbonnminlnlaaGd
set_option linter.unusedVariables false
set_option linter.unusedSectionVars false
set_option linter.unusedSimpArgs false
namespace Go.Proofs.Ytlhbonnminlnlaa
open Go.RowKit Go.Turn Go.Tame Go.Conc
open Go.ConcN (upd upd_ne upd_same)
abbrev rdCells (mb gt : Nat) (i : Nat) : Array Value:=#[.pointer (some ⟨mb,0,none⟩),.pointer (some ⟨gt,0,none⟩),.int .i64 i,.bool false,.int .i64 0]
abbrev foCells (mb : Nat) (fs : Int) (i : Nat) : Array Value:=#[.pointer (some ⟨mb,0,none⟩),.int .i64 fs]
abbrev woCells (mb gt : Nat) (r f : Value) : Array Value:=#[.pointer (some ⟨mb,0,none⟩),.pointer (some ⟨gt,0,none⟩),r,f]
theorem Try.rdInfo : (Try.prog.info? 29).map (fun i=>(i.zero,i.size,i.bytes)) = some (some (.pointer none),1,8):=by kernel_rfl
theorem Try.foInfo : (Try.prog.info? 32).map (fun i=>(i.zero,i.size,i.bytes)) = some (some (.pointer none),1,8):=by kernel_rfl
def WoS (z : Nat) (w : World) : Prop:=w.cell? ⟨z + 1,0,none⟩ = some (.pointer (some ⟨z + 6,0,none⟩))∧w.cell? ⟨z + 1,1,none⟩ = some (.pointer (some ⟨z,0,none⟩))
theorem WoS.of {z : Nat} {w : World} {r f : Value} (h : Blk w (z + 1) 149 (woCells (z + 6) z r f)) : WoS z w:=⟨h.cell 0,h.cell 1⟩
def WoL (z : Nat) (r f : Value) (w : World) : Prop:=w.cell? ⟨z + 1,2,none⟩ = some r∧w.cell? ⟨z + 1,3,none⟩ = some f
theorem WoL.of {z : Nat} {w : World} {r f : Value} (h : Blk w (z + 1) 149 (woCells (z + 6) z r f)) : WoL z r f w:=⟨h.cell 2,h.cell 3⟩
structure MadeJ (w : World) (z : Nat) (fs : Int) (j : Nat) (r f : Value) (rs gs : List Nat) : Prop where
 pr : PRow w (z + 7) 29 40 (rdCells (z + 6) z) j r rs
 pf : PRow w (z + 7) 32 91 (foCells (z + 6) fs) j f gs
 wo : Blk w (z + 1) 149 (woCells (z + 6) z r f)
 sz : z + 7≤w.heap.size
theorem rmade_at {w w2 w3 wr : World} {z n K : Nat} {fs : Int} {ss : List Int} {rA fA : Option Addr} {rc fc : Nat} {rs gs : List Nat}
  (R2 : RingAt w2 (z + 2 + 1) (z + 2) n (fun _=>-2) (fun _=>0)) (N20 : NearB w2 (z + 2)) (N21 : NearB w2 (z + 2 + 1)) (B2 : Blk w2 (z + 2 + 2) 121 #[.int .i64 (fs - 1)]) (B3 : Blk w2 (z + 2 + 3) 121 #[.int .i64 (fs - 1)])
  (B4 : Blk w2 (z + 2 + 4) 73 #[.pointer (some ⟨z + 2 + 1,0,none⟩),.int .i64 fs,.pointer (some ⟨z + 2 + 2,0,none⟩),.pointer (some ⟨z + 2 + 3,0,none⟩)]) (G2 : GateAt w2 z none (fun _=>-1)) (N2 : NearB w2 z) (kw : Kept (fun _=>False) w w2) (Z2 : w2.heap.size = z + 2 + 5) (hz : w.heap.size = z)
  (hw3 : w3 = w2.setCell ⟨z + 1,0,none⟩ (.pointer (some ⟨z + 6,0,none⟩))) (hfs : fs = firstO ss) (h0 : 0 < n) (h2 : n≤65536) (hf0 : 0≤fs) (hf1 : fs < 4611686018427387904) (hk64 : K≤64)
  (hJ : MadeJ wr z fs K (.slice rA K rc) (.slice fA K fc) rs gs) (hkp : Kept (fun b=>b = z + 1) w3 wr) :
  ∃ I : RIds,(Ending.returned (.pointer (some ⟨z + 1,0,none⟩)) : Ending) = .returned (.pointer (some ⟨I.wb,0,none⟩))∧(I.Ok∧I.M.n = n∧I.M.first = firstO ss∧I.k = K)∧(readY I).At (r0O ss) wr∧(∀ b,(readY I).BI b→(∃ c t r,wr.heap[b]? = some (.cells c t r)∧r.2 < big)∧w.heap.size≤b)∧Below w.heap.size w wr:=by
 have k23 : Kept (fun b=>b = z + 1) w2 w3:=hw3 ▸ Kept.setCell (S:=fun b=>b = z + 1) w2 (p:=⟨z + 1,0,none⟩) rfl _
 have k:=k23.trans hkp
 have hrow : 0 < K→∃ g,rA = some ⟨g,0,none⟩∧z + 7≤g∧∃ c,wr.heap[g]? = some (.cells c 29 (0,0)):=fun hk=>by
  rcases hJ.pr.row.2 with ⟨e,zz⟩ | ⟨g,cap,cur,e,hg,hh,_⟩
  ·omega
  ·cases e; exact ⟨g,rfl,hg,_,hh⟩
 have hfow : 0 < K→∃ g,fA = some ⟨g,0,none⟩∧z + 7≤g∧∃ c,wr.heap[g]? = some (.cells c 32 (0,0)):=fun hk=>by
  rcases hJ.pf.row.2 with ⟨e,zz⟩ | ⟨g,cap,cur,e,hg,hh,_⟩
  ·omega
  ·cases e; exact ⟨g,rfl,hg,_,hh⟩
 have capL : ∀ {B tp v n xs A c},v = .slice A n c→wr.ownsRow B tp 1 v n xs→n≤c∧c≤maxLen:=fun e h=>by
  subst e
  rcases h.2 with ⟨e,zz⟩ | ⟨g,cap,cur,e,hg,hh,h3,h4,_⟩
  ·simp only [Value.slice.injEq] at e; obtain ⟨_,e1,e2⟩:=e; exact ⟨by omega,by unfold maxLen; omega⟩
  ·cases e; exact ⟨h3,h4⟩
 have R:=R2.kept k (by omega) (by omega)
 have near : ∀ b,NearB w2 b→b≠z + 1→NearB wr b:=fun b ⟨c,t,h⟩ hb=>⟨c,t,(k.block b (lt_of_some h) hb).trans h⟩
 have C2:=B2.kept k (by omega)
 have C3:=B3.kept k (by omega)
 have C4:=B4.kept k (by omega)
 have G:=G2.kept k (by omega)
 have hlr : 0 < K→(rA.map (·.block)).getD 0 = (rA.map (·.block)).getD 0:=fun _=>rfl
 have hOk : RIds.Ok ⟨⟨z + 6,z + 3,z + 2,z + 4,z + 5,n,fs⟩,z + 1,z,(rA.map (·.block)).getD 0,(fA.map (·.block)).getD 0,fun j=>rs.getD j 0,fun j=>gs.getD j 0,K,rA,rc,fA,fc⟩:=by
  refine ⟨h0,h2,hf0,hf1,hk64,fun hk=>?_,?_,ids_inj (z:=z) rfl rfl rfl rfl rfl rfl rfl (fun hk=>?_) (fun i hi=>?_) (fun i j hi hj=>?_) (fun i j hi hj e=>hJ.pr.inj i j hi hj e) (fun i j hi hj e=>hJ.pf.inj i j hi hj e)⟩
  ·obtain ⟨g,rfl,_⟩:=hrow hk
   obtain ⟨g',rfl,_⟩:=hfow hk
   exact ⟨rfl,rfl⟩
  ·have h1:=capL rfl hJ.pr.row
   have h2:=capL rfl hJ.pf.row
   exact ⟨h1.1,h1.2,h2.1,h2.2⟩
  ·obtain ⟨g,rfl,hg,hh⟩:=hrow hk
   obtain ⟨g',rfl,hg',hh'⟩:=hfow hk
   exact ⟨hg,hg',typed_ne hh hh' (by decide)⟩
  ·have hi : i < K:=hi
   obtain ⟨g,rfl,hg,hh⟩:=hrow (by omega)
   obtain ⟨g',rfl,hg',hh'⟩:=hfow (by omega)
   exact ⟨hJ.pr.ge i hi,hJ.pf.ge i hi,typed_ne hh ⟨_,hJ.pr.blk i hi⟩ (by decide),typed_ne hh ⟨_,hJ.pf.blk i hi⟩ (by decide),typed_ne hh' ⟨_,hJ.pr.blk i hi⟩ (by decide),typed_ne hh' ⟨_,hJ.pf.blk i hi⟩ (by decide)⟩
  ·exact typed_ne ⟨_,hJ.pr.blk i hi⟩ ⟨_,hJ.pf.blk j hj⟩ (by decide)
 have hat : (readY ⟨⟨z + 6,z + 3,z + 2,z + 4,z + 5,n,fs⟩,z + 1,z,(rA.map (·.block)).getD 0,(fA.map (·.block)).getD 0,fun j=>rs.getD j 0,fun j=>gs.getD j 0,K,rA,rc,fA,fc⟩).At (r0O ss) wr:=by
  refine ⟨fun b o v hv0=>?_,fun b hb=>?_,⟨?_,?_,fun i=>⟨Int.le_refl _,by show (0 : Int)≤_; omega⟩,fun i=>⟨?_,?_⟩⟩⟩
  ·have hv : layR _ (r0O ss) b o = some v:=hv0
   clear hv0
   unfold layR at hv
   split at hv
   ·rename_i x hx
    obtain ⟨hvx,rfl⟩:=RIds.what_some hx
    rcases x with _ | _ | _ | _ | _ | _ | _ | _ | _ | j | j
    ·rcases o with _ | _ | _ | _ | o <;> first | (cases hv; done) | skip
     ·cases hv; exact hJ.wo.cell 0
     ·cases hv; exact hJ.wo.cell 1
     ·cases hv; exact hJ.wo.cell 2
     ·cases hv; exact hJ.wo.cell 3
    ·rcases o with _ | _ | _ | _ | o <;> first | (cases hv; done) | skip
     ·cases hv; exact C4.cell 0
     ·cases hv; exact C4.cell 1
     ·cases hv; exact C4.cell 2
     ·cases hv; exact C4.cell 3
    ·rcases o with _ | o <;> first | (cases hv; done) | skip
     cases hv; exact R.ring
    ·have hv : (if o < 2 * n then some (Value.int .i64 (if o % 2 = 0 then -2 else 0)) else none) = some v:=hv
     by_cases ho : o < 2 * n
     ·rw [if_pos ho] at hv
      rw [← hv]
      by_cases hp : o % 2 = 0
      ·rw [if_pos hp]
       have:=R.stamp (o / 2) (by omega)
       rw [show o / 2 * 2 = o by omega] at this
       exact this
      ·rw [if_neg hp]
       have:=R.value (o / 2) (by omega)
       rw [show o / 2 * 2 + 1 = o by omega] at this
       exact this
     ·rw [if_neg ho] at hv; cases hv
    ·rcases o with _ | o <;> first | (cases hv; done) | skip
     cases hv; have c:=C2.cell 0; rw [hfs] at c; exact c
    ·rcases o with _ | o <;> first | (cases hv; done) | skip
     cases hv; have c:=C3.cell 0; rw [hfs] at c; exact c
    ·rcases o with _ | o
     ·cases hv; exact G.hd
     ·have hv : (if o < 64 then some (Value.int .i64 (-1)) else none) = some v:=hv
      by_cases ho : o < 64
      ·rw [if_pos ho] at hv
       rw [← hv]
       have c:=G.num o ho
       rw [show 1 + o = o + 1 from Nat.add_comm _ _] at c
       exact c
      ·rw [if_neg ho] at hv; cases hv
    ·have hk : 0 < K:=hvx
     obtain ⟨g,rfl,hg,hh⟩:=hrow hk
     have hv : (if o < K then some (Value.pointer (some ⟨rs.getD o 0,0,none⟩)) else none) = some v:=hv
     by_cases ho : o < K
     ·rw [if_pos ho] at hv
      rw [← hv]
      refine (hJ.pr.row.cellAt (g:=g) o (by omega)).trans ?_
      rw [List.getElem?_map,List.getD_eq_getElem?_getD,List.getElem?_eq_getElem (by rw [hJ.pr.len]; exact ho)]
      rfl
     ·rw [if_neg ho] at hv; cases hv
    ·have hk : 0 < K:=hvx
     obtain ⟨g,rfl,hg,hh⟩:=hfow hk
     have hv : (if o < K then some (Value.pointer (some ⟨gs.getD o 0,0,none⟩)) else none) = some v:=hv
     by_cases ho : o < K
     ·rw [if_pos ho] at hv
      rw [← hv]
      refine (hJ.pf.row.cellAt (g:=g) o (by omega)).trans ?_
      rw [List.getElem?_map,List.getD_eq_getElem?_getD,List.getElem?_eq_getElem (by rw [hJ.pf.len]; exact ho)]
      rfl
     ·rw [if_neg ho] at hv; cases hv
    ·have b:=hJ.pr.blk j hvx
     rcases o with _ | _ | _ | _ | _ | o <;> first | (cases hv; done) | skip
     ·cases hv; exact b.cell 0
     ·cases hv; exact b.cell 1
     ·cases hv; exact b.cell 2
     ·cases hv; exact b.cell 3
     ·cases hv; exact b.cell 4
    ·have b:=hJ.pf.blk j hvx
     rcases o with _ | _ | o <;> first | (cases hv; done) | skip
     ·cases hv; exact b.cell 0
     ·cases hv; have c:=b.cell 1; rw [hfs] at c; exact c
   ·cases hv
  ·obtain ⟨x,hvx,rfl⟩:=hb
   rcases x with _ | _ | _ | _ | _ | _ | _ | _ | _ | j | j
   ·exact ⟨_,_,hJ.wo⟩
   ·exact ⟨_,_,C4⟩
   ·exact near (z + 3) N21 (by omega)
   ·exact near (z + 2) N20 (by omega)
   ·exact ⟨_,_,C2⟩
   ·exact ⟨_,_,C3⟩
   ·exact near z N2 (by omega)
   ·obtain ⟨g,rfl,hg,c,hh⟩:=hrow hvx
    exact ⟨_,_,hh⟩
   ·obtain ⟨g,rfl,hg,c,hh⟩:=hfow hvx
    exact ⟨_,_,hh⟩
   ·exact ⟨_,_,hJ.pr.blk j hvx⟩
   ·exact ⟨_,_,hJ.pf.blk j hvx⟩
  ·show -1≤firstO ss - 1; omega
  ·show firstO ss - 1 < _; omega
  ·show 0≤firstO ss; omega
  ·show firstO ss≤_; omega
 refine ⟨_,rfl,⟨hOk,rfl,hfs,rfl⟩,hat,fun b hb=>⟨?_,?_⟩,?_⟩
 ·obtain ⟨c,t,h⟩:=hat.near b hb
  exact ⟨c,t,_,h,by decide⟩
 ·obtain ⟨x,hvx,rfl⟩:=hb
  rw [hz]
  rcases x with _ | _ | _ | _ | _ | _ | _ | _ | _ | j | j
  ·show z≤z + 1; omega
  ·show z≤z + 6; omega
  ·show z≤z + 3; omega
  ·show z≤z + 2; omega
  ·show z≤z + 4; omega
  ·show z≤z + 5; omega
  ·show z≤z; omega
  ·obtain ⟨g,rfl,hg,c,hh⟩:=hrow hvx
   show z≤g; omega
  ·obtain ⟨g,rfl,hg,c,hh⟩:=hfow hvx
   show z≤g; omega
  ·have:=hJ.pr.ge j hvx
   show z≤rs.getD j 0; omega
  ·have:=hJ.pf.ge j hvx
   show z≤gs.getD j 0; omega
 ·have b1 : Below w.heap.size w w2:=kw.to_below (fun b hb=>hb.elim) (Nat.le_refl _)
  have b2 : Below w.heap.size w2 wr:=k.to_below (fun b hb=>by have hb : b = z + 1:=hb; omega) kw.size
  exact b1.trans b2
set_option maxHeartbeats 8000000 in
set_option maxRecDepth 100000 in
theorem reader_made (w : World) (A : Option Addr) (c : Nat) (ss : List Int) (n : Nat) (tA : Option Addr) (nt cp : Nat) (hnt : nt≤maxLen) (hx : NumsIn w A c ss) (hn : sizeO ss = n) (h0 : 0 < n) (h2 : n≤65536) (hb : (bits BinOp.and IntKind.i64 (n : Int) ((n : Int) - 1) != 0) = false) (hf0 : 0≤firstO ss) (hf1 : firstO ss < 4611686018427387904) (hl : 2≤ss.length) :
  Calls Try.prog 38 #[.slice A ss.length c,.slice tA nt cp] w (fun e w'=>∃ I : RIds,e = .returned (.pointer (some ⟨I.wb,0,none⟩))∧(I.Ok∧I.M.n = n∧I.M.first = firstO ss∧I.k = min nt 64)∧(readY I).At (r0O ss) w'∧(∀ b,(readY I).BI b→(∃ c t r,w'.heap[b]? = some (.cells c t r)∧r.2 < big)∧w.heap.size≤b)∧Below w.heap.size w w'):=by
 obtain ⟨i0,hi0,hz0,hz1,hz2⟩:=info_parts Try.rdInfo
 obtain ⟨j0,hj0,hy0,hy1,hy2⟩:=info_parts Try.foInfo
 obtain ⟨L,hL⟩ : ∃ L,L = ss.length:=⟨_,rfl⟩
 have hLm : L≤maxLen:=by have:=hx.le; have:=hx.max; omega
 obtain ⟨ab,ao,rfl,c0⟩:=hx.cells 0 (by omega)
 obtain ⟨ab',ao',hab,c1⟩:=hx.cells 1 (by omega)
 cases hab
 have hn' : ss.getD 0 0 = n:=by rw [← hn]; unfold sizeO; rw [List.getD_eq_getElem?_getD,List.getD_eq_getElem?_getD,List.getElem?_eq_getElem (by omega)]; rfl
 rw [hn',Nat.add_zero] at c0
 have hfe : ss.getD 1 0 = firstO ss:=rfl
 rw [hfe] at c1
 obtain ⟨fs,hfs⟩ : ∃ fs,fs = firstO ss:=⟨_,rfl⟩
 rw [← hfs] at c1 hf0 hf1
 have HFS:=Lib.hid hfs
 rw [← hL] at hl ⊢
 clear hx hL hfs hn hn' hfe
 have b0 : decide (0 < L) = true:=decide_eq_true (by omega)
 have b1 : decide (1 < L) = true:=decide_eq_true (by omega)
 have b2 : (1 : Int) < L:=by omega
 obtain ⟨K,hK⟩ : ∃ K,min nt 64 = K:=⟨_,rfl⟩
 have eK : (if (64 : Int) < nt then 64 else (nt : Int)) = (K : Int):=by rw [← hK]; split <;> omega
 have hK64 : K≤64:=by omega
 rw [hK]
 clear hK
 go_enter Try.func38,Try.ntmps38
 go_wp2_with (go_at_call 8; refine (gate_newN _).mono ?_; rintro e w1 ⟨rfl,G1,k1,s1,N1⟩)
 refine (multi_newF n fs _ h0 h2 hb hf0 hf1).mono ?_
 rintro e w2 ⟨rfl,R2,N20,N21,B2,B3,B4,B5,Z2⟩
 dsimp only
 obtain ⟨z,hz⟩ : ∃ z,w.heap.size = z:=⟨_,rfl⟩
 have hsz : (w1.alloc (.cells #[.pointer none,.pointer (some ⟨w.heap.size,0,none⟩),.slice none 0 0,.slice none 0 0] 149)).heap.size = z + 2:=by simp [s1,hz]
 have hwo:=Blk.new w1 149 #[.pointer none,.pointer (some ⟨w.heap.size,0,none⟩),.slice none 0 0,.slice none 0 0]
 have k12 : Kept (fun _=>False) (w1.alloc (.cells #[.pointer none,.pointer (some ⟨w.heap.size,0,none⟩),.slice none 0 0,.slice none 0 0] 149)) w2:=Kept.of_below B5
 rw [hsz] at R2 N20 N21 B2 B3 B4 Z2 ⊢
 clear hsz B5
 have kA:=Kept.alloc (S:=fun _=>False) w1 (.cells #[.pointer none,.pointer (some ⟨w.heap.size,0,none⟩),.slice none 0 0,.slice none 0 0] 149)
 have wo2:=hwo.kept k12 id
 have kw:=k1.trans (kA.trans k12)
 have G2:=G1.kept (kA.trans k12) id
 have N2 : NearB w2 w.heap.size:=by obtain ⟨c',t',h'⟩:=N1; exact ⟨c',t',((kA.trans k12).block _ (lt_of_some h') id).trans h'⟩
 rw [s1] at wo2
 rw [hz] at wo2 G2 N2 ⊢
 clear k1 s1 N1 G1 hwo k12 kA
 have p0 : w2.cell? ⟨z + 1,0,none⟩ = some (.pointer none):=wo2.cell 0
 have p1 : w2.frozen? ⟨z + 1,0,none⟩ = false:=wo2.frozen 0
 have HK:=Lib.hid (And.intro R2 (And.intro N20 (And.intro N21 (And.intro B2 (And.intro B3 (And.intro B4 (And.intro wo2 (And.intro G2 (And.intro N2 (And.intro kw (And.intro Z2 hz)))))))))))
 clear R2 N20 N21 B2 B3 B4 wo2 G2 N2 kw Z2 hz c0 c1 hb b0 b1 b2
 rw [show z + 2 + 4 = z + 6 from rfl]
 go_wp2
 have wo3 : Blk (w2.setCell ⟨z + 1,0,none⟩ (.pointer (some ⟨z + 6,0,none⟩))) (z + 1) 149 (woCells (z + 6) z (.slice none 0 0) (.slice none 0 0)):=HK.out.2.2.2.2.2.2.1.set_ 0 _
 obtain ⟨w3,hw3⟩ : ∃ w3,w3 = w2.setCell ⟨z + 1,0,none⟩ (.pointer (some ⟨z + 6,0,none⟩)):=⟨_,rfl⟩
 rw [← hw3] at wo3 ⊢
 have HW3:=Lib.hid hw3
 have HWO:=Lib.hid wo3
 clear hw3 wo3 p0 p1
 go_loopw [46] (fun i wr=>∃ j : Nat,j≤K∧i = .int .i64 j∧∃ r f rs gs,Hid (MadeJ wr z fs j r f rs gs)∧Hid (Kept (fun b=>b = z + 1) w3 wr)) (fun i _=>K - (intOf i).toNat)
 case atStart=>exact ⟨0,Nat.zero_le _,rfl,.slice none 0 0,.slice none 0 0,[],[],Lib.hid ⟨PRow.nil,PRow.nil,HWO.out,by rw [HW3.out]; have:=HK.out.2.2.2.2.2.2.2.2.2.2.1; simp [World.setCell]; omega⟩,Lib.hid (Kept.refl _ _)⟩
 case round =>
  obtain ⟨j,hj,rfl,r,f,rs,gs,HJ,HKP⟩:=hrel
  obtain ⟨rA,rc,rfl⟩:=own_slice HJ.out.pr.row
  obtain ⟨fA,fc,rfl⟩:=own_slice HJ.out.pf.row
  by_cases hlt : j < K
  ·have d1 : decide (j < K) = true:=decide_eq_true hlt
   go_wp2_with fail
   rename_i K0 hK0
   refine strictL ?_
   refine wp_region_held (S:=WoS z) (by kernel_rfl) ?_
   simp only [List.size_toArray,List.length_cons,List.length_nil,Nat.reduceAdd]
   have hkd : Kept (fun _=>False) wr { wr with drawn:=wr.drawn + 1 }:=Kept.drew wr
   have hw:=HJ.out.wo.kept hkd id
   generalize ({ wr with drawn:=wr.drawn + 1 } : World) = wd at hkd hw ⊢
   have HY:=Lib.hid hkd
   have HW:=Lib.hid hw
   clear hkd hw
   refine rdL 0 14 50 ?_
   refine ⟨_,rfl,rfl,by kernel_rfl,by kernel_rfl,by kernel_rfl,(fun c a w h=>by cases h.1),rfl,WoS.of HW.out,?_⟩
   apply Exists.intro
   refine ⟨fun wq hw=>?_,?_⟩
   ·obtain ⟨hw0,hw1⟩:=hw
    go_simp
    rfl
   simp only [Act.put,List.setIfInBounds_toArray,List.set_cons_zero,List.set_cons_succ]
   refine rdL 1 13 51 ?_
   refine ⟨_,rfl,rfl,by kernel_rfl,by kernel_rfl,by kernel_rfl,(fun c a w h=>by cases h.1),rfl,WoS.of HW.out,?_⟩
   apply Exists.intro
   refine ⟨fun wq hw=>?_,?_⟩
   ·obtain ⟨hw0,hw1⟩:=hw
    go_simp
    rfl
   simp only [Act.put,List.setIfInBounds_toArray,List.set_cons_zero,List.set_cons_succ]
   refine rdL 2 12 52 ?_
   refine ⟨_,rfl,rfl,by kernel_rfl,by kernel_rfl,by kernel_rfl,(fun c a w h=>by cases h.1),rfl,WoS.of HW.out,?_⟩
   apply Exists.intro
   refine ⟨fun wq hw=>?_,?_⟩
   ·obtain ⟨hw0,hw1⟩:=hw
    go_simp
    rfl
   simp only [Act.put,List.setIfInBounds_toArray,List.set_cons_zero,List.set_cons_succ]
   refine rdL 3 11 53 ?_
   refine ⟨_,rfl,rfl,by kernel_rfl,by kernel_rfl,by kernel_rfl,(fun c a w h=>by cases h.1),rfl,WoS.of HW.out,?_⟩
   apply Exists.intro
   refine ⟨fun wq hw=>?_,?_⟩
   ·obtain ⟨hw0,hw1⟩:=hw
    go_simp
    rfl
   simp only [Act.put,List.setIfInBounds_toArray,List.set_cons_zero,List.set_cons_succ]
   refine rdL 4 10 54 ?_
   refine ⟨_,rfl,rfl,by kernel_rfl,by kernel_rfl,by kernel_rfl,(fun c a w h=>by cases h.1),rfl,WoS.of HW.out,?_⟩
   apply Exists.intro
   refine ⟨fun wq hw=>?_,?_⟩
   ·obtain ⟨hw0,hw1⟩:=hw
    go_simp
    rfl
   simp only [Act.put,List.setIfInBounds_toArray,List.set_cons_zero,List.set_cons_succ]
   refine rdL 5 9 55 ?_
   refine ⟨_,rfl,rfl,by kernel_rfl,by kernel_rfl,by kernel_rfl,(fun c a w h=>by cases h.1),rfl,WoS.of HW.out,?_⟩
   apply Exists.intro
   refine ⟨fun wq hw=>?_,?_⟩
   ·obtain ⟨hw0,hw1⟩:=hw
    go_simp
    rfl
   simp only [Act.put,List.setIfInBounds_toArray,List.set_cons_zero,List.set_cons_succ]
   refine rdL 6 8 56 ?_
   refine ⟨_,rfl,rfl,by kernel_rfl,by kernel_rfl,by kernel_rfl,(fun c a w h=>by cases h.1),rfl,WoS.of HW.out,?_⟩
   apply Exists.intro
   refine ⟨fun wq hw=>?_,?_⟩
   ·obtain ⟨hw0,hw1⟩:=hw
    go_simp
    rfl
   simp only [Act.put,List.setIfInBounds_toArray,List.set_cons_zero,List.set_cons_succ]
   refine rdL 7 7 57 ?_
   refine ⟨_,rfl,rfl,by kernel_rfl,by kernel_rfl,by kernel_rfl,(fun c a w h=>by cases h.1),rfl,WoS.of HW.out,?_⟩
   apply Exists.intro
   refine ⟨fun wq hw=>?_,?_⟩
   ·obtain ⟨hw0,hw1⟩:=hw
    go_simp
    rfl
   simp only [Act.put,List.setIfInBounds_toArray,List.set_cons_zero,List.set_cons_succ]
   refine rdL 8 6 58 ?_
   refine ⟨_,rfl,rfl,by kernel_rfl,by kernel_rfl,by kernel_rfl,(fun c a w h=>by cases h.1),rfl,WoS.of HW.out,?_⟩
   apply Exists.intro
   refine ⟨fun wq hw=>?_,?_⟩
   ·obtain ⟨hw0,hw1⟩:=hw
    go_simp
    rfl
   simp only [Act.put,List.setIfInBounds_toArray,List.set_cons_zero,List.set_cons_succ]
   refine oneL (i:=9) (fuel:=5) (by kernel_rfl) rfl rfl fun K hK'=>?_
   unfold Oper.wp
   go_simp
   refine (reader_newT (z + 6) z j wd (by omega)).mono ?_
   rintro e w4 ⟨rfl,hw4⟩
   dsimp only
   have k4 : Kept (fun _=>False) wd w4:=hw4 ▸ Kept.alloc _ _
   have b4 : Blk w4 wd.heap.size 40 (rdCells (z + 6) z j):=hw4 ▸ Blk.new wd _ _
   have hw:=HW.out.kept k4 id
   have hq : wr.heap.size≤wd.heap.size:=HY.out.size
   clear hw4 HW
   have HW:=Lib.hid hw
   have HY4:=Lib.hid (HY.out.trans k4)
   obtain ⟨q,hqe⟩ : ∃ q,wd.heap.size = q:=⟨_,rfl⟩
   rw [hqe] at b4 hq ⊢
   have HB4:=Lib.hid b4
   clear hw k4 b4 hqe HY
   refine hK' _ _ (WoS.of HW.out) ?_
   clear hK' K
   refine rdL 10 4 49 ?_
   refine ⟨_,rfl,rfl,by kernel_rfl,by kernel_rfl,by kernel_rfl,(fun c a w h=>by cases h.1),rfl,WoS.of HW.out,?_⟩
   apply Exists.intro
   refine ⟨fun wq hw=>?_,?_⟩
   ·obtain ⟨hw0,hw1⟩:=hw
    go_simp
    rfl
   simp only [Act.put,List.setIfInBounds_toArray,List.set_cons_zero,List.set_cons_succ]
   refine rdL 11 3 60 ?_
   refine ⟨_,rfl,rfl,by kernel_rfl,by kernel_rfl,by kernel_rfl,(fun c a w h=>by cases h.1),rfl,WoS.of HW.out,?_⟩
   apply Exists.intro
   refine ⟨fun wq hw=>?_,?_⟩
   ·obtain ⟨hw0,hw1⟩:=hw
    go_simp
    rfl
   simp only [Act.put,List.setIfInBounds_toArray,List.set_cons_zero,List.set_cons_succ]
   refine rdL 12 2 61 ?_
   refine ⟨_,rfl,rfl,by kernel_rfl,by kernel_rfl,by kernel_rfl,(fun c a w h=>by cases h.1),rfl,WoS.of HW.out,?_⟩
   apply Exists.intro
   refine ⟨fun wq hw=>?_,?_⟩
   ·obtain ⟨hw0,hw1⟩:=hw
    go_simp
    rfl
   simp only [Act.put,List.setIfInBounds_toArray,List.set_cons_zero,List.set_cons_succ]
   refine rdL 13 1 9 ?_
   refine ⟨_,rfl,rfl,by kernel_rfl,by kernel_rfl,by kernel_rfl,(fun c a w h=>by cases h.1),rfl,WoS.of HW.out,?_⟩
   apply Exists.intro
   refine ⟨fun wq hw=>?_,?_⟩
   ·obtain ⟨hw0,hw1⟩:=hw
    go_simp
    rfl
   simp only [Act.put,List.setIfInBounds_toArray,List.set_cons_zero,List.set_cons_succ]
   refine rdL 14 0 10 ?_
   refine ⟨_,rfl,rfl,by kernel_rfl,by kernel_rfl,by kernel_rfl,(fun c a w h=>by cases h.1),rfl,WoS.of HW.out,?_⟩
   apply Exists.intro
   refine ⟨fun wq hw=>?_,?_⟩
   ·obtain ⟨hw0,hw1⟩:=hw
    go_simp
    rfl
   simp only [Act.put,List.setIfInBounds_toArray,List.set_cons_zero,List.set_cons_succ]
   refine wpAnyH_done (by kernel_rfl) ⟨rfl,?_⟩ _
   refine hK0 _ _ ?_
   clear hK0 K0
   have p0 : w4.cell? ⟨z + 1,0,none⟩ = some (.pointer (some ⟨z + 6,0,none⟩)):=HW.out.cell 0
   go_wp2_with (go_at_call 10; refine (reader_follow (z + 6) fs _ hf0 hf1).mono ?_; rintro e w5 ⟨rfl,hw5⟩)
   clear p0
   have k5 : Kept (fun _=>False) w4 w5:=hw5 ▸ Kept.alloc _ _
   have b5 : Blk w5 w4.heap.size 91 (foCells (z + 6) fs j):=hw5 ▸ Blk.new w4 _ _
   have hq4:=HB4.out.lt
   clear hw5
   obtain ⟨p,hpe⟩ : ∃ p,w4.heap.size = p:=⟨_,rfl⟩
   rw [hpe] at b5 hq4 ⊢
   have hwp : wr.heap.size≤p:=by rw [← hpe]; exact HY4.out.size
   clear hpe
   rename_i K0 hK0
   refine strictL ?_
   refine wp_region_V 18 (WoL z (.slice rA j rc) (.slice fA j fc)) (by kernel_rfl) ?_
   simp only [List.size_toArray,List.length_cons,List.length_nil,Nat.reduceAdd]
   have hkd : Kept (fun _=>False) w5 { w5 with drawn:=w5.drawn + 1 }:=Kept.drew w5
   have hka:=HY4.out.trans (k5.trans hkd)
   have hb4:=(HB4.out.kept k5 id).kept hkd id
   have hb5:=b5.kept hkd id
   clear HW HB4
   generalize ({ w5 with drawn:=w5.drawn + 1 } : World) = x at hka hb4 hb5 ⊢
   have HPR:=Lib.hid (HJ.out.pr.kept hka fun _ _ h=>h)
   have HPF:=Lib.hid (HJ.out.pf.kept hka fun _ _ h=>h)
   have HWO:=Lib.hid (HJ.out.wo.kept hka id)
   have HKX : RowKit.Hid (Kept (fun b=>z + 7≤b) wr x):=Lib.hid (hka.mono fun _ _ h=>h.elim)
   have HB4:=Lib.hid hb4
   have HB5:=Lib.hid hb5
   have hsz:=HJ.out.sz
   clear hka hb4 hb5 b5 k5 hkd
   refine rdU 0 21 71 ?_
   refine ⟨_,rfl,rfl,by decide,by kernel_rfl,by kernel_rfl,by kernel_rfl,(fun c a w h=>by cases h.1),rfl,fun _=>WoL.of HWO.out,?_⟩
   apply Exists.intro
   refine ⟨fun wq=>?_,?_⟩
   ·go_simp
    rfl
   simp only [Act.put,List.setIfInBounds_toArray,List.set_cons_zero,List.set_cons_succ]
   refine rdU 1 20 72 ?_
   refine ⟨_,rfl,rfl,by decide,by kernel_rfl,by kernel_rfl,by kernel_rfl,(fun c a w h=>by cases h.1),rfl,fun _=>WoL.of HWO.out,?_⟩
   apply Exists.intro
   refine ⟨fun wq=>?_,?_⟩
   ·go_simp
    rfl
   simp only [Act.put,List.setIfInBounds_toArray,List.set_cons_zero,List.set_cons_succ]
   refine rdU 2 19 73 ?_
   refine ⟨_,rfl,rfl,by decide,by kernel_rfl,by kernel_rfl,by kernel_rfl,(fun c a w h=>by cases h.1),rfl,fun _=>WoL.of HWO.out,?_⟩
   apply Exists.intro
   refine ⟨fun wq=>?_,?_⟩
   ·go_simp
    rfl
   simp only [Act.put,List.setIfInBounds_toArray,List.set_cons_zero,List.set_cons_succ]
   refine rdU 3 18 74 ?_
   refine ⟨_,rfl,rfl,by decide,by kernel_rfl,by kernel_rfl,by kernel_rfl,(fun c a w h=>by cases h.1),rfl,fun _=>WoL.of HWO.out,?_⟩
   apply Exists.intro
   refine ⟨fun wq=>?_,?_⟩
   ·go_simp
    rfl
   simp only [Act.put,List.setIfInBounds_toArray,List.set_cons_zero,List.set_cons_succ]
   refine rdU 4 17 75 ?_
   refine ⟨_,rfl,rfl,by decide,by kernel_rfl,by kernel_rfl,by kernel_rfl,(fun c a w h=>by cases h.1),rfl,fun _=>WoL.of HWO.out,?_⟩
   apply Exists.intro
   refine ⟨fun wq=>?_,?_⟩
   ·go_simp
    rfl
   simp only [Act.put,List.setIfInBounds_toArray,List.set_cons_zero,List.set_cons_succ]
   refine rdV 5 16 76 ?_
   refine ⟨_,rfl,rfl,by kernel_rfl,by kernel_rfl,by kernel_rfl,by kernel_rfl,(fun c a w h=>by cases h.1),rfl,WoL.of HWO.out,?_⟩
   apply Exists.intro
   refine ⟨fun wq hw=>?_,?_⟩
   ·obtain ⟨hw0,hw1⟩:=hw
    go_simp
    rfl
   simp only [Act.put,List.setIfInBounds_toArray,List.set_cons_zero,List.set_cons_succ]
   refine rdU 6 15 77 ?_
   refine ⟨_,rfl,rfl,by decide,by kernel_rfl,by kernel_rfl,by kernel_rfl,(fun c a w h=>by cases h.1),rfl,fun _=>WoL.of HWO.out,?_⟩
   apply Exists.intro
   refine ⟨fun wq=>?_,?_⟩
   ·go_simp
    rfl
   simp only [Act.put,List.setIfInBounds_toArray,List.set_cons_zero,List.set_cons_succ]
   refine rdU 9 14 80 ?_
   refine ⟨_,rfl,rfl,by decide,by kernel_rfl,by kernel_rfl,by kernel_rfl,(fun c a w h=>by cases h.1),rfl,fun _=>WoL.of HWO.out,?_⟩
   apply Exists.intro
   refine ⟨fun wq=>?_,?_⟩
   ·go_simp
    rfl
   simp only [Act.put,List.setIfInBounds_toArray,List.set_cons_zero,List.set_cons_succ]
   refine rdU 10 13 81 ?_
   refine ⟨_,rfl,rfl,by decide,by kernel_rfl,by kernel_rfl,by kernel_rfl,(fun c a w h=>by cases h.1),rfl,fun _=>WoL.of HWO.out,?_⟩
   apply Exists.intro
   refine ⟨fun wq=>?_,?_⟩
   ·go_simp
    rfl
   simp only [Act.put,List.setIfInBounds_toArray,List.set_cons_zero,List.set_cons_succ]
   refine rdU 11 12 82 ?_
   refine ⟨_,rfl,rfl,by decide,by kernel_rfl,by kernel_rfl,by kernel_rfl,(fun c a w h=>by cases h.1),rfl,fun _=>WoL.of HWO.out,?_⟩
   apply Exists.intro
   refine ⟨fun wq=>?_,?_⟩
   ·go_simp
    rfl
   simp only [Act.put,List.setIfInBounds_toArray,List.set_cons_zero,List.set_cons_succ]
   refine rdV 12 11 83 ?_
   refine ⟨_,rfl,rfl,by kernel_rfl,by kernel_rfl,by kernel_rfl,by kernel_rfl,(fun c a w h=>by cases h.1),rfl,WoL.of HWO.out,?_⟩
   apply Exists.intro
   refine ⟨fun wq hw=>?_,?_⟩
   ·obtain ⟨hw0,hw1⟩:=hw
    go_simp
    rfl
   simp only [Act.put,List.setIfInBounds_toArray,List.set_cons_zero,List.set_cons_succ]
   refine rdU 13 10 84 ?_
   refine ⟨_,rfl,rfl,by decide,by kernel_rfl,by kernel_rfl,by kernel_rfl,(fun c a w h=>by cases h.1),rfl,fun _=>WoL.of HWO.out,?_⟩
   apply Exists.intro
   refine ⟨fun wq=>?_,?_⟩
   ·go_simp
    rfl
   simp only [Act.put,List.setIfInBounds_toArray,List.set_cons_zero,List.set_cons_succ]
   refine allV (rs:=[7,14]) (fuel:=9) (by kernel_rfl) (by simp) fun i' hi'=>?_
   simp only [List.mem_cons,List.not_mem_nil,or_false] at hi'
   rcases hi' with rfl | rfl
   case' inr =>
    refine opL rfl rfl ?_
    unfold Oper.wp
    go_simp
    have ka:=Kept.alloc (S:=fun _=>False) x (.cells #[.pointer (some ⟨p,0,none⟩)] 32)
    have hnn:=Blk.new x 32 #[.pointer (some ⟨p,0,none⟩)]
    have HPR:=Lib.hid (HPR.out.kept ka fun _ _ h=>h)
    have HPF:=Lib.hid (HPF.out.kept ka fun _ _ h=>h)
    have HWO:=Lib.hid (HWO.out.kept ka id)
    have HKX:=Lib.hid (HKX.out.trans (ka.mono fun _ _ h=>h.elim))
    have HB5:=Lib.hid (HB5.out.kept ka id)
    try have HB4:=Lib.hid (HB4.out.kept ka id)
    try have HN1:=Lib.hid (HN1.out.kept ka id)
    try have HN2:=Lib.hid (HN2.out.kept ka id)
    obtain ⟨x1,hx1⟩ : ∃ y,x.alloc (.cells #[.pointer (some ⟨p,0,none⟩)] 32) = y:=⟨_,rfl⟩
    rw [hx1] at ka hnn HPR HPF HWO HKX HB5 ⊢
    try rw [hx1] at HB4
    try rw [hx1] at HN1
    try rw [hx1] at HN2
    clear hx1
    obtain ⟨n2,hn2⟩ : ∃ y,x.heap.size = y:=⟨_,rfl⟩
    rw [hn2] at hnn ⊢
    clear hn2
    have HN2:=Lib.hid hnn
    clear hnn
    refine ⟨WoL.of HWO.out,?_⟩
    refine oneV (i:=7) (fuel:=8) (by kernel_rfl) ?_
    refine opL rfl rfl ?_
    unfold Oper.wp
    go_simp
    have ka:=Kept.alloc (S:=fun _=>False) x1 (.cells #[.pointer (some ⟨q,0,none⟩)] 29)
    have hnn:=Blk.new x1 29 #[.pointer (some ⟨q,0,none⟩)]
    have HPR:=Lib.hid (HPR.out.kept ka fun _ _ h=>h)
    have HPF:=Lib.hid (HPF.out.kept ka fun _ _ h=>h)
    have HWO:=Lib.hid (HWO.out.kept ka id)
    have HKX:=Lib.hid (HKX.out.trans (ka.mono fun _ _ h=>h.elim))
    have HB5:=Lib.hid (HB5.out.kept ka id)
    try have HB4:=Lib.hid (HB4.out.kept ka id)
    try have HN1:=Lib.hid (HN1.out.kept ka id)
    try have HN2:=Lib.hid (HN2.out.kept ka id)
    obtain ⟨x2,hx2⟩ : ∃ y,x1.alloc (.cells #[.pointer (some ⟨q,0,none⟩)] 29) = y:=⟨_,rfl⟩
    rw [hx2] at ka hnn HPR HPF HWO HKX HB5 ⊢
    try rw [hx2] at HB4
    try rw [hx2] at HN1
    try rw [hx2] at HN2
    clear hx2
    obtain ⟨n1,hn1⟩ : ∃ y,x1.heap.size = y:=⟨_,rfl⟩
    rw [hn1] at hnn ⊢
    clear hn1
    have HN1:=Lib.hid hnn
    clear hnn
    refine ⟨WoL.of HWO.out,?_⟩
    refine oneV (i:=8) (fuel:=7) (by kernel_rfl) ?_
    refine opL rfl rfl ?_
    have hbX : z + 7≤x2.heap.size:=Nat.le_trans hsz HKX.out.size
    refine wp_append_own x2 _ _ 41 rfl (z + 7) 29 i0 (.pointer none) 1 8 Try.underlying41 hi0 hz0 hz1 hz2 rfl (by decide) (.slice rA j rc) j (rs.map fun q=>Value.pointer (some ⟨q,0,none⟩)) rfl HPR.out.row ⟨n1,0,none⟩ 1 1 [.pointer (some ⟨q,0,none⟩)] rfl rfl (World.news_of_block (cs:=#[.pointer (some ⟨q,0,none⟩)]) (t:=29) (fr:=(0,0)) HN1.out) (by simp [Value.oneCell']) (by unfold maxLen; omega) (by omega) hbX ?_
    intro v' x3 hown8 hg8 _
    obtain ⟨A8,c8,rfl⟩:=own_slice hown8
    have kg : Kept (fun b=>(Value.slice rA j rc).ownBlock = some b) x2 x3:=Kept.grown hg8 fun k hk=>hk
    have hPR:=HPR.out.snoc (by decide) HB4.out (fun i hi e=>by have h:=(HJ.out.pr.blk i hi).lt; omega) (by omega) hg8 hown8
    have HPF:=Lib.hid (HPF.out.other HPR.out.row (by decide) (by decide) hg8)
    have HWO:=Lib.hid (HWO.out.kept kg fun zz=>by have:=HPR.out.row_ge zz; omega)
    have HB5:=Lib.hid (HB5.out.kept kg fun zz=>typed_ne (own_typed HPR.out.row zz) ⟨_,HB5.out⟩ (by decide) rfl)
    try have HN2:=Lib.hid (HN2.out.kept kg fun zz=>typed_ne (own_typed HPR.out.row zz) ⟨_,HN2.out⟩ (by decide) rfl)
    have HKX:=Lib.hid (HKX.out.trans (kg.mono fun b _ h=>HPR.out.row_ge h))
    clear HPR HB4 HN1 hown8 hg8 kg hbX
    have HPR:=Lib.hid hPR
    clear hPR
    refine ⟨fun _=>WoL.of HWO.out,?_⟩
    simp only [Act.put,List.setIfInBounds_toArray,List.set_cons_zero,List.set_cons_succ]
   case' inl =>
    refine opL rfl rfl ?_
    unfold Oper.wp
    go_simp
    have ka:=Kept.alloc (S:=fun _=>False) x (.cells #[.pointer (some ⟨q,0,none⟩)] 29)
    have hnn:=Blk.new x 29 #[.pointer (some ⟨q,0,none⟩)]
    have HPR:=Lib.hid (HPR.out.kept ka fun _ _ h=>h)
    have HPF:=Lib.hid (HPF.out.kept ka fun _ _ h=>h)
    have HWO:=Lib.hid (HWO.out.kept ka id)
    have HKX:=Lib.hid (HKX.out.trans (ka.mono fun _ _ h=>h.elim))
    have HB5:=Lib.hid (HB5.out.kept ka id)
    try have HB4:=Lib.hid (HB4.out.kept ka id)
    try have HN1:=Lib.hid (HN1.out.kept ka id)
    try have HN2:=Lib.hid (HN2.out.kept ka id)
    obtain ⟨x1,hx1⟩ : ∃ y,x.alloc (.cells #[.pointer (some ⟨q,0,none⟩)] 29) = y:=⟨_,rfl⟩
    rw [hx1] at ka hnn HPR HPF HWO HKX HB5 ⊢
    try rw [hx1] at HB4
    try rw [hx1] at HN1
    try rw [hx1] at HN2
    clear hx1
    obtain ⟨n1,hn1⟩ : ∃ y,x.heap.size = y:=⟨_,rfl⟩
    rw [hn1] at hnn ⊢
    clear hn1
    have HN1:=Lib.hid hnn
    clear hnn
    refine ⟨WoL.of HWO.out,?_⟩
    refine allV (rs:=[8,14]) (fuel:=8) (by kernel_rfl) (by simp) fun i' hi'=>?_
    simp only [List.mem_cons,List.not_mem_nil,or_false] at hi'
    rcases hi' with rfl | rfl
    case' inr =>
     refine opL rfl rfl ?_
     unfold Oper.wp
     go_simp
     have ka:=Kept.alloc (S:=fun _=>False) x1 (.cells #[.pointer (some ⟨p,0,none⟩)] 32)
     have hnn:=Blk.new x1 32 #[.pointer (some ⟨p,0,none⟩)]
     have HPR:=Lib.hid (HPR.out.kept ka fun _ _ h=>h)
     have HPF:=Lib.hid (HPF.out.kept ka fun _ _ h=>h)
     have HWO:=Lib.hid (HWO.out.kept ka id)
     have HKX:=Lib.hid (HKX.out.trans (ka.mono fun _ _ h=>h.elim))
     have HB5:=Lib.hid (HB5.out.kept ka id)
     try have HB4:=Lib.hid (HB4.out.kept ka id)
     try have HN1:=Lib.hid (HN1.out.kept ka id)
     try have HN2:=Lib.hid (HN2.out.kept ka id)
     obtain ⟨x2,hx2⟩ : ∃ y,x1.alloc (.cells #[.pointer (some ⟨p,0,none⟩)] 32) = y:=⟨_,rfl⟩
     rw [hx2] at ka hnn HPR HPF HWO HKX HB5 ⊢
     try rw [hx2] at HB4
     try rw [hx2] at HN1
     try rw [hx2] at HN2
     clear hx2
     obtain ⟨n2,hn2⟩ : ∃ y,x1.heap.size = y:=⟨_,rfl⟩
     rw [hn2] at hnn ⊢
     clear hn2
     have HN2:=Lib.hid hnn
     clear hnn
     refine ⟨WoL.of HWO.out,?_⟩
     refine oneV (i:=8) (fuel:=7) (by kernel_rfl) ?_
     refine opL rfl rfl ?_
     have hbX : z + 7≤x2.heap.size:=Nat.le_trans hsz HKX.out.size
     refine wp_append_own x2 _ _ 41 rfl (z + 7) 29 i0 (.pointer none) 1 8 Try.underlying41 hi0 hz0 hz1 hz2 rfl (by decide) (.slice rA j rc) j (rs.map fun q=>Value.pointer (some ⟨q,0,none⟩)) rfl HPR.out.row ⟨n1,0,none⟩ 1 1 [.pointer (some ⟨q,0,none⟩)] rfl rfl (World.news_of_block (cs:=#[.pointer (some ⟨q,0,none⟩)]) (t:=29) (fr:=(0,0)) HN1.out) (by simp [Value.oneCell']) (by unfold maxLen; omega) (by omega) hbX ?_
     intro v' x3 hown8 hg8 _
     obtain ⟨A8,c8,rfl⟩:=own_slice hown8
     have kg : Kept (fun b=>(Value.slice rA j rc).ownBlock = some b) x2 x3:=Kept.grown hg8 fun k hk=>hk
     have hPR:=HPR.out.snoc (by decide) HB4.out (fun i hi e=>by have h:=(HJ.out.pr.blk i hi).lt; omega) (by omega) hg8 hown8
     have HPF:=Lib.hid (HPF.out.other HPR.out.row (by decide) (by decide) hg8)
     have HWO:=Lib.hid (HWO.out.kept kg fun zz=>by have:=HPR.out.row_ge zz; omega)
     have HB5:=Lib.hid (HB5.out.kept kg fun zz=>typed_ne (own_typed HPR.out.row zz) ⟨_,HB5.out⟩ (by decide) rfl)
     try have HN2:=Lib.hid (HN2.out.kept kg fun zz=>typed_ne (own_typed HPR.out.row zz) ⟨_,HN2.out⟩ (by decide) rfl)
     have HKX:=Lib.hid (HKX.out.trans (kg.mono fun b _ h=>HPR.out.row_ge h))
     clear HPR HB4 HN1 hown8 hg8 kg hbX
     have HPR:=Lib.hid hPR
     clear hPR
     refine ⟨fun _=>WoL.of HWO.out,?_⟩
     simp only [Act.put,List.setIfInBounds_toArray,List.set_cons_zero,List.set_cons_succ]
    case' inl =>
     refine opL rfl rfl ?_
     have hbX : z + 7≤x1.heap.size:=Nat.le_trans hsz HKX.out.size
     refine wp_append_own x1 _ _ 41 rfl (z + 7) 29 i0 (.pointer none) 1 8 Try.underlying41 hi0 hz0 hz1 hz2 rfl (by decide) (.slice rA j rc) j (rs.map fun q=>Value.pointer (some ⟨q,0,none⟩)) rfl HPR.out.row ⟨n1,0,none⟩ 1 1 [.pointer (some ⟨q,0,none⟩)] rfl rfl (World.news_of_block (cs:=#[.pointer (some ⟨q,0,none⟩)]) (t:=29) (fr:=(0,0)) HN1.out) (by simp [Value.oneCell']) (by unfold maxLen; omega) (by omega) hbX ?_
     intro v' x2 hown8 hg8 _
     obtain ⟨A8,c8,rfl⟩:=own_slice hown8
     have kg : Kept (fun b=>(Value.slice rA j rc).ownBlock = some b) x1 x2:=Kept.grown hg8 fun k hk=>hk
     have hPR:=HPR.out.snoc (by decide) HB4.out (fun i hi e=>by have h:=(HJ.out.pr.blk i hi).lt; omega) (by omega) hg8 hown8
     have HPF:=Lib.hid (HPF.out.other HPR.out.row (by decide) (by decide) hg8)
     have HWO:=Lib.hid (HWO.out.kept kg fun zz=>by have:=HPR.out.row_ge zz; omega)
     have HB5:=Lib.hid (HB5.out.kept kg fun zz=>typed_ne (own_typed HPR.out.row zz) ⟨_,HB5.out⟩ (by decide) rfl)
     try have HN2:=Lib.hid (HN2.out.kept kg fun zz=>typed_ne (own_typed HPR.out.row zz) ⟨_,HN2.out⟩ (by decide) rfl)
     have HKX:=Lib.hid (HKX.out.trans (kg.mono fun b _ h=>HPR.out.row_ge h))
     clear HPR HB4 HN1 hown8 hg8 kg hbX
     have HPR:=Lib.hid hPR
     clear hPR
     refine ⟨fun _=>WoL.of HWO.out,?_⟩
     simp only [Act.put,List.setIfInBounds_toArray,List.set_cons_zero,List.set_cons_succ]
     refine oneV (i:=14) (fuel:=7) (by kernel_rfl) ?_
     refine opL rfl rfl ?_
     unfold Oper.wp
     go_simp
     have ka:=Kept.alloc (S:=fun _=>False) x2 (.cells #[.pointer (some ⟨p,0,none⟩)] 32)
     have hnn:=Blk.new x2 32 #[.pointer (some ⟨p,0,none⟩)]
     have HPR:=Lib.hid (HPR.out.kept ka fun _ _ h=>h)
     have HPF:=Lib.hid (HPF.out.kept ka fun _ _ h=>h)
     have HWO:=Lib.hid (HWO.out.kept ka id)
     have HKX:=Lib.hid (HKX.out.trans (ka.mono fun _ _ h=>h.elim))
     have HB5:=Lib.hid (HB5.out.kept ka id)
     try have HB4:=Lib.hid (HB4.out.kept ka id)
     try have HN1:=Lib.hid (HN1.out.kept ka id)
     try have HN2:=Lib.hid (HN2.out.kept ka id)
     obtain ⟨x3,hx3⟩ : ∃ y,x2.alloc (.cells #[.pointer (some ⟨p,0,none⟩)] 32) = y:=⟨_,rfl⟩
     rw [hx3] at ka hnn HPR HPF HWO HKX HB5 ⊢
     try rw [hx3] at HB4
     try rw [hx3] at HN1
     try rw [hx3] at HN2
     clear hx3
     obtain ⟨n2,hn2⟩ : ∃ y,x2.heap.size = y:=⟨_,rfl⟩
     rw [hn2] at hnn ⊢
     clear hn2
     have HN2:=Lib.hid hnn
     clear hnn
     refine ⟨WoL.of HWO.out,?_⟩
   all_goals
    refine oneV (i:=15) (fuel:=6) (by kernel_rfl) ?_
    refine opL rfl rfl ?_
    have hbX : z + 7≤x3.heap.size:=Nat.le_trans hsz HKX.out.size
    refine wp_append_own x3 _ _ 147 rfl (z + 7) 32 j0 (.pointer none) 1 8 Try.underlying147 hj0 hy0 hy1 hy2 rfl (by decide) (.slice fA j fc) j (gs.map fun q=>Value.pointer (some ⟨q,0,none⟩)) rfl HPF.out.row ⟨n2,0,none⟩ 1 1 [.pointer (some ⟨p,0,none⟩)] rfl rfl (World.news_of_block (cs:=#[.pointer (some ⟨p,0,none⟩)]) (t:=32) (fr:=(0,0)) HN2.out) (by simp [Value.oneCell']) (by unfold maxLen; omega) (by omega) hbX ?_
    intro v' x4 hown9 hg9 _
    obtain ⟨A9,c9,rfl⟩:=own_slice hown9
    have kg : Kept (fun b=>(Value.slice fA j fc).ownBlock = some b) x3 x4:=Kept.grown hg9 fun k hk=>hk
    have hPF:=HPF.out.snoc (by decide) HB5.out (fun i hi e=>by have h:=(HJ.out.pf.blk i hi).lt; omega) (by omega) hg9 hown9
    have HPR:=Lib.hid (HPR.out.other HPF.out.row (by decide) (by decide) hg9)
    have HWO:=Lib.hid (HWO.out.kept kg fun zz=>by have:=HPF.out.row_ge zz; omega)
    have HKX:=Lib.hid (HKX.out.trans (kg.mono fun b _ h=>HPF.out.row_ge h))
    clear HPF HB5 HN2 hown9 hg9 kg hbX
    have HPF:=Lib.hid hPF
    clear hPF
    refine ⟨fun _=>WoL.of HWO.out,?_⟩
    simp only [Act.put,List.setIfInBounds_toArray,List.set_cons_zero,List.set_cons_succ]
    refine rdU 16 5 87 ?_
    refine ⟨_,rfl,rfl,by decide,by kernel_rfl,by kernel_rfl,by kernel_rfl,(fun c a w h=>by cases h.1),rfl,fun _=>WoL.of HWO.out,?_⟩
    apply Exists.intro
    refine ⟨fun wq=>?_,?_⟩
    ·go_simp
     rfl
    simp only [Act.put,List.setIfInBounds_toArray,List.set_cons_zero,List.set_cons_succ]
    refine rdU 17 4 88 ?_
    refine ⟨_,rfl,rfl,by decide,by kernel_rfl,by kernel_rfl,by kernel_rfl,(fun c a w h=>by cases h.1),rfl,fun _=>WoL.of HWO.out,?_⟩
    apply Exists.intro
    refine ⟨fun wq=>?_,?_⟩
    ·go_simp
     rfl
    simp only [Act.put,List.setIfInBounds_toArray,List.set_cons_zero,List.set_cons_succ]
    refine oneV (i:=18) (fuel:=3) (by kernel_rfl) ?_
    refine opL rfl rfl ?_
    have s2 : x4.cell? ⟨z + 1,2,none⟩ = some (.slice rA j rc):=HWO.out.cell 2
    have z2:=HWO.out.frozen 2
    unfold Oper.wp
    go_simp
    clear s2 z2
    have HWO:=Lib.hid (HWO.out.set_ 2 (.slice A8 (j + 1) c8))
    have kc : Kept (fun b=>b = z + 1) x4 (x4.setCell ⟨z + 1,2,none⟩ (.slice A8 (j + 1) c8)):=Kept.setCell (S:=fun b=>b = z + 1) x4 (p:=⟨z + 1,2,none⟩) rfl _
    have HPR:=Lib.hid (HPR.out.kept kc fun b h e=>by omega)
    have HPF:=Lib.hid (HPF.out.kept kc fun b h e=>by omega)
    have HKX : RowKit.Hid (Kept (fun b=>b = z + 1∨z + 7≤b) wr _):=Lib.hid ((HKX.out.mono fun _ _ h=>.inr h).trans (kc.mono fun _ _ h=>.inl h))
    generalize x4.setCell ⟨z + 1,2,none⟩ (.slice A8 (j + 1) c8) = x5 at HWO HPR HPF HKX ⊢
    clear kc
    refine rdU 19 2 89 ?_
    refine ⟨_,rfl,rfl,by decide,by kernel_rfl,by kernel_rfl,by kernel_rfl,(fun c a w h=>by cases h.1),rfl,fun zz=>absurd zz (by decide),?_⟩
    apply Exists.intro
    refine ⟨fun wq=>?_,?_⟩
    ·go_simp
     rfl
    simp only [Act.put,List.setIfInBounds_toArray,List.set_cons_zero,List.set_cons_succ]
    refine rdU 20 1 90 ?_
    refine ⟨_,rfl,rfl,by decide,by kernel_rfl,by kernel_rfl,by kernel_rfl,(fun c a w h=>by cases h.1),rfl,fun zz=>absurd zz (by decide),?_⟩
    apply Exists.intro
    refine ⟨fun wq=>?_,?_⟩
    ·go_simp
     rfl
    simp only [Act.put,List.setIfInBounds_toArray,List.set_cons_zero,List.set_cons_succ]
    refine oneV (i:=21) (fuel:=0) (by kernel_rfl) ?_
    refine opL rfl rfl ?_
    have s2 : x5.cell? ⟨z + 1,3,none⟩ = some (.slice fA j fc):=HWO.out.cell 3
    have z2:=HWO.out.frozen 3
    unfold Oper.wp
    go_simp
    clear s2 z2
    have HWO:=Lib.hid (HWO.out.set_ 3 (.slice A9 (j + 1) c9))
    have kc : Kept (fun b=>b = z + 1) x5 (x5.setCell ⟨z + 1,3,none⟩ (.slice A9 (j + 1) c9)):=Kept.setCell (S:=fun b=>b = z + 1) x5 (p:=⟨z + 1,3,none⟩) rfl _
    have HPR:=Lib.hid (HPR.out.kept kc fun b h e=>by omega)
    have HPF:=Lib.hid (HPF.out.kept kc fun b h e=>by omega)
    have HKX:=Lib.hid (HKX.out.trans (kc.mono fun _ _ h=>.inl h))
    generalize x5.setCell ⟨z + 1,3,none⟩ (.slice A9 (j + 1) c9) = x6 at HWO HPR HPF HKX ⊢
    clear kc
    refine doneV (by kernel_rfl) ⟨rfl,?_⟩ _
    refine hK0 _ _ ?_
    clear hK0 K0
    go_wp2
    go_roundw
    case rel =>
     refine ⟨j + 1,by omega,by go_num,.slice A8 (j + 1) c8,.slice A9 (j + 1) c9,rs ++ [q],gs ++ [p],Lib.hid ⟨HPR.out,HPF.out,HWO.out,?_⟩,Lib.hid ?_⟩
     ·exact Nat.le_trans hsz HKX.out.size
     ·refine ((HKP.out.mono (S':=fun b=>b = z + 1∨z + 7≤b) fun _ _ h=>.inl h).trans HKX.out).mono fun b hb h=>?_
      rcases h with h | h
      ·exact h
      ·have h3 : w3.heap.size = z + 7:=by rw [HW3.out]; have:=HK.out.2.2.2.2.2.2.2.2.2.2.1; simp [World.setCell]; omega
       omega
    case measure=>simp [intOf]; omega
  ·obtain rfl : j = K:=by omega
   have FIN:=Lib.hid (rmade_at HK.out.1 HK.out.2.1 HK.out.2.2.1 HK.out.2.2.2.1 HK.out.2.2.2.2.1 HK.out.2.2.2.2.2.1 HK.out.2.2.2.2.2.2.2.1 HK.out.2.2.2.2.2.2.2.2.1 HK.out.2.2.2.2.2.2.2.2.2.1 HK.out.2.2.2.2.2.2.2.2.2.2.1 HK.out.2.2.2.2.2.2.2.2.2.2.2 HW3.out HFS.out h0 h2 hf0 hf1 hK64 HJ.out HKP.out)
   clear hlt
   go_wp2
   go_ret
   exact FIN.out
end Go.Proofs.Ytlhbonnminlnlaa
namespace Go.Proofs.Ytlhbonnminlnlaa
open Go.RowKit Go.Turn Go.Tame Go.Conc
open Go.ConcN (upd upd_ne upd_same)
def memsR (S : RdS) : List Int:=S.mem.getD []
def rdsL (S : RdS) : Nat→List Int
 | 0=>[]
 | j + 1=>rdsL S j ++ [if S.rj j then 1 else 0,S.rn j,S.fn j]
def stateR (k : Nat) (S : RdS) : List Int:=[S.cursor,(memsR S).length] ++ memsR S ++ rdsL S k
theorem rdsL_len (S : RdS) : ∀ k,(rdsL S k).length = 3 * k
 | 0=>rfl
 | k + 1=>by rw [rdsL,List.length_append,rdsL_len S k]; simp; omega
theorem gate_listT (G : Nat) (gp : Option Addr) (mv : Value) (ml : List Int) (f : Nat→Int) (w : World) (hg : GateAt w G gp f) (hb : BoxV 162 gp mv w) (hm : MembersAt w mv ml) (hml : ml.length≤64) :
  Calls Try.prog 85 #[.pointer (some ⟨G,0,none⟩),.nilIface] w fun e w'=>∃ v',e = .returned v'∧Kept (fun _=>False) w w'∧w'.ownsRow w.heap.size 3 1 v' ml.length (ml.map (Value.int .i64)):=by
 have HG:=Lib.hid hg
 have HM:=Lib.hid (And.intro hb hm)
 clear hg hb hm
 go_enter Try.func85,Try.ntmps85
 go_wp2_with fail
 refine (box_load_mb ⟨G,0,none⟩ gp _ HG.out.hd HM.out.1.held).mono ?_
 rintro e w1 ⟨rfl,k1⟩
 have H1:=Lib.hid k1
 clear k1
 go_wp2_with fail
 refine (held_value_mb (some ⟨G,0,none⟩) gp mv _ (HM.out.1.kept H1.out)).mono ?_
 rintro e w2 ⟨rfl,k2⟩
 have H2:=Lib.hid (H1.out.trans k2)
 clear k2
 go_wp2_with fail
 refine (clone_ok mv ml _ (HM.out.2.kept H2.out) hml).mono ?_
 rintro e w3 ⟨v',rfl,k3,o3⟩
 have H3:=Lib.hid (And.intro (H2.out.trans k3) (own_baseL o3 H2.out.size))
 clear k3 o3
 go_wp2
 go_ret
 exact ⟨_,rfl,H3.out⟩
theorem gate_membersT (G : Nat) (gp : Option Addr) (mv : Value) (ml : List Int) (f : Nat→Int) (w : World) (hg : GateAt w G gp f) (hb : BoxV 162 gp mv w) (hm : MembersAt w mv ml) (hml : ml.length≤64) :
  Calls Try.prog 70 #[.pointer (some ⟨G,0,none⟩)] w fun e w'=>∃ v',e = .returned v'∧Kept (fun _=>False) w w'∧w'.ownsRow w.heap.size 3 1 v' ml.length (ml.map (Value.int .i64)):=by
 have HG:=Lib.hid (And.intro hg (And.intro hb hm))
 clear hg hb hm
 go_enter Try.func70,Try.ntmps70
 go_wp2_with fail
 refine (gate_listT G gp mv ml f w HG.out.1 HG.out.2.1 HG.out.2.2 hml).mono ?_
 rintro e w1 ⟨v',rfl,k1,o1⟩
 have H1:=Lib.hid (And.intro k1 o1)
 clear k1 o1
 go_wp2
 go_ret
 exact ⟨_,rfl,H1.out⟩
theorem cursorC (M R C : Nat) (y : Int) (w : World) (h0 : w.cell? ⟨M,0,none⟩ = some (.pointer (some ⟨R,0,none⟩))) (h2 : w.cell? ⟨M,2,none⟩ = some (.pointer (some ⟨C,0,none⟩))) (hc : w.cell? ⟨C,0,none⟩ = some (.int .i64 y)) : Calls Try.prog 29 #[.pointer (some ⟨M,0,none⟩),.nilIface] w fun e w'=>e = .returned (.int .i64 y)∧w = w':=by
 go_enter Try.func29,Try.ntmps29
 go_wp2_with (first | (go_at_call 45; refine (multi_noM _ _ _ h0).mono ?_; rintro e w' ⟨rfl,rfl⟩) | (go_at_call 47; refine (word_load _ y _ hc).mono ?_; rintro e w' ⟨rfl,rfl⟩))
 go_ret
 exact ⟨rfl,rfl⟩
theorem nextC (r : Nat) (x : Int) (w : World) (h : w.cell? ⟨r,4,none⟩ = some (.int .i64 x)) : Calls Try.prog 19 #[.pointer (some ⟨r,0,none⟩)] w fun e w'=>e = .returned (.int .i64 x)∧w = w':=by
 go_enter Try.func19,Try.ntmps19
 go_wp2
 go_ret
 exact ⟨rfl,rfl⟩
theorem fnextC (r : Nat) (x : Int) (w : World) (h : w.cell? ⟨r,1,none⟩ = some (.int .i64 x)) : Calls Try.prog 12 #[.pointer (some ⟨r,0,none⟩)] w fun e w'=>e = .returned (.int .i64 x)∧w = w':=by
 go_enter Try.func12,Try.ntmps12
 go_wp2
 go_ret
 exact ⟨rfl,rfl⟩
structure StR (I : RIds) (S : RdS) (gp : Option Addr) (mv : Value) (w : World) : Prop where
 w0 : w.cell? ⟨I.wb,0,none⟩ = some (.pointer (some ⟨I.M.mb,0,none⟩))
 w1 : w.cell? ⟨I.wb,1,none⟩ = some (.pointer (some ⟨I.gt,0,none⟩))
 w2 : w.cell? ⟨I.wb,2,none⟩ = some (.slice I.rA I.k I.rc)
 w3 : w.cell? ⟨I.wb,3,none⟩ = some (.slice I.fA I.k I.fc)
 m0 : w.cell? ⟨I.M.mb,0,none⟩ = some (.pointer (some ⟨I.M.rb,0,none⟩))
 m2 : w.cell? ⟨I.M.mb,2,none⟩ = some (.pointer (some ⟨I.M.cb,0,none⟩))
 c : w.cell? ⟨I.M.cb,0,none⟩ = some (.int .i64 S.cursor)
 g : GateAt w I.gt gp S.num
 b : BoxV 162 gp mv w
 mm : MembersAt w mv (memsR S)
 l : ∀ j,j < I.k→w.cell? ⟨I.lr,j,none⟩ = some (.pointer (some ⟨I.rd j,0,none⟩))∧w.cell? ⟨I.lf,j,none⟩ = some (.pointer (some ⟨I.fo j,0,none⟩))∧w.cell? ⟨I.rd j,3,none⟩ = some (.bool (S.rj j))∧w.cell? ⟨I.rd j,4,none⟩ = some (.int .i64 (S.rn j))∧w.cell? ⟨I.fo j,1,none⟩ = some (.int .i64 (S.fn j))
theorem StR.kept {I : RIds} {S : RdS} {gp : Option Addr} {mv : Value} {w w' : World} (h : StR I S gp mv w) (k : Kept (fun _=>False) w w') : StR I S gp mv w':=
 ⟨cell_keep h.w0 k id,cell_keep h.w1 k id,cell_keep h.w2 k id,cell_keep h.w3 k id,cell_keep h.m0 k id,cell_keep h.m2 k id,cell_keep h.c k id,h.g.kept k id,h.b.kept k,h.mm.kept k,fun j hj=>by
   obtain ⟨h1,h2,h3,h4,h5⟩:=h.l j hj
   exact ⟨cell_keep h1 k id,cell_keep h2 k id,cell_keep h3 k id,cell_keep h4 k id,cell_keep h5 k id⟩⟩
theorem stR_of {I : RIds} (hI : I.Ok) {S : RdS} {G : Nat→Prop} {w : World} (h : (readY I).At S w) (hb : BoxR I.gt S G w) : (memsR S).length≤64∧∃ gp mv,StR I S gp mv w:=by
 have key : ∀ (x : Wh) o v,I.val x→cellR I S x o = some v→w.cell? ⟨I.blk x,o,none⟩ = some v:=fun x o v hx hv=>h.cell _ _ _ ((layR_at hI (x:=x) hx S o).trans hv)
 have hl : ∀ j,j < I.k→w.cell? ⟨I.lr,j,none⟩ = some (.pointer (some ⟨I.rd j,0,none⟩))∧w.cell? ⟨I.lf,j,none⟩ = some (.pointer (some ⟨I.fo j,0,none⟩))∧w.cell? ⟨I.rd j,3,none⟩ = some (.bool (S.rj j))∧w.cell? ⟨I.rd j,4,none⟩ = some (.int .i64 (S.rn j))∧w.cell? ⟨I.fo j,1,none⟩ = some (.int .i64 (S.fn j)):=fun j hj=>by
  have hk : 0 < I.k:=by omega
  refine ⟨key .lr j _ hk ?_,key .lf j _ hk ?_,key (.rd j) 3 _ hj rfl,key (.rd j) 4 _ hj rfl,key (.fo j) 1 _ hj rfl⟩
  ·show (if j < I.k then _ else _) = _; rw [if_pos hj]
  ·show (if j < I.k then _ else _) = _; rw [if_pos hj]
 have num : ∀ i,i < 64→w.cell? ⟨I.gt,1 + i,none⟩ = some (.int .i64 (S.num i)):=fun i hi=>key .ga (1 + i) _ trivial (by rw [Nat.add_comm]; show (if i < 64 then _ else _) = _; rw [if_pos hi])
 have fz : ∀ i,w.frozen? ⟨I.gt,i,none⟩ = false:=fun i=>h.free ⟨.ga,trivial,rfl⟩ i
 have mk : ∀ gp mv,w.cell? ⟨I.gt,0,none⟩ = some (.pointer gp)→BoxV 162 gp mv w→MembersAt w mv (memsR S)→StR I S gp mv w:=fun gp mv h1 h2 h3=>⟨key .wo 0 _ trivial rfl,key .wo 1 _ trivial rfl,key .wo 2 _ trivial rfl,key .wo 3 _ trivial rfl,key .mu 0 _ trivial rfl,key .mu 2 _ trivial rfl,key .cu 0 _ trivial rfl,⟨h1,num,fz⟩,h2,h3,hl⟩
 unfold BoxR at hb
 cases hm : S.mem with
 | none =>
   have hz : memsR S = []:=by unfold memsR; rw [hm]; rfl
   refine ⟨by rw [hz]; simp,none,.slice none 0 0,mk _ _ (key .ga 0 _ trivial (by show (match S.mem with | none=>some (Value.pointer none) | some _=>none) = _; rw [hm])) (.inl ⟨rfl,rfl⟩) ?_⟩
   rw [hz]
   exact ⟨none,0,rfl,Nat.le_refl _,by decide,fun _=>rfl,fun i h=>absurd h (by simp)⟩
 | some l =>
   rw [hm] at hb
   obtain ⟨p,q,c,cs,h1,h2,h3,h4,h5,h6,h7⟩:=hb
   have hz : memsR S = l:=by unfold memsR; rw [hm]; rfl
   refine ⟨by rw [hz]; exact h4.2,some ⟨p,0,none⟩,.slice (some ⟨q,0,none⟩) l.length c,mk _ _ h1 (.inr ⟨p,_,rfl,h2⟩) ?_⟩
   rw [hz]
   exact ⟨some ⟨q,0,none⟩,c,rfl,h4.1,h5,(fun z=>by cases z),fun i hi=>⟨q,rfl,(h3.cell i).trans (h6 i hi)⟩⟩
end Go.Proofs.Ytlhbonnminlnlaa
namespace Go.Proofs.Ytlhbonnminlnlaa
open Go.RowKit Go.Turn Go.Tame Go.Conc
open Go.ConcN (upd upd_ne upd_same)
theorem own_twoR (w : World) (a b : Int) (base : Nat) (hb : base≤w.heap.size) : (w.alloc (.cells #[.int .i64 a,.int .i64 b] 2)).ownsRow base 2 1 (.slice (some ⟨w.heap.size,0,none⟩) 2 2) 2 [.int .i64 a,.int .i64 b]:=
 ⟨rfl,.inr ⟨w.heap.size,2,#[.int .i64 a,.int .i64 b],rfl,hb,Blk.new w _ _,by omega,by unfold maxLen; omega,rfl,rfl⟩⟩
theorem own_other {w w' : World} {B B' n n' : Nat} {t t' : TypeId} {v v' : Value} {xs xs' : List Value} (h : w.ownsRow B t 1 v n xs) (h' : w.ownsRow B' t' 1 v' n' xs') (ht : t'≠t) (hg : w.grownBy w' v'.ownBlock) : w'.ownsRow B t 1 v n xs:=
 own_same h fun b hb=>hg.block b (h.lt b hb).2 fun z=>typed_ne (own_typed h' z.symm) (own_typed h hb) ht rfl
set_option maxHeartbeats 4000000 in
set_option maxRecDepth 100000 in
theorem reader_state (w : World) (I : RIds) (S : RdS) (G : Nat→Prop) (hI : I.Ok) (hat : (readY I).At S w) (hbox : BoxR I.gt S G w) : Calls Try.prog 41 #[.pointer (some ⟨I.wb,0,none⟩)] w (NumsRow w (stateR I.k S).length (stateR I.k S)):=by
 obtain ⟨hml,gp,mv,hst⟩:=stR_of hI hat hbox
 have hk64:=hI.k64
 have hrAk:=hI.rAk
 obtain ⟨i0,hi0,hz0,hz1,hz2⟩:=info_parts Try.infoI64
 have HH:=Lib.hid hst
 have p0:=hst.w0
 have p1:=hst.w1
 have HRA:=Lib.hid hrAk
 clear hst hat hbox hrAk
 obtain ⟨n,hn⟩ : ∃ n,(memsR S).length = n:=⟨_,rfl⟩
 have HNL:=Lib.hid hn
 rw [hn] at hml
 clear hn
 go_enter Try.func41,Try.ntmps41
 go_wp2_with fail
 refine (gate_membersT I.gt gp mv (memsR S) S.num w HH.out.g HH.out.b HH.out.mm (by rw [HNL.out]; exact hml)).mono ?_
 rintro e w1 ⟨v1,rfl,k1,o1⟩
 rw [HNL.out] at o1
 obtain ⟨mA,mc,rfl⟩:=own_slice o1
 have H1:=HH.out.kept k1
 have q0:=H1.w0
 have q1:=H1.m0
 have q2:=H1.m2
 have q3:=H1.c
 have HO1:=Lib.hid (And.intro o1 k1)
 clear o1 k1 p0 p1 H1
 go_wp2_with (go_at_call 29; refine (cursorC _ _ _ _ _ q1 q2 q3).mono ?_; rintro e w' ⟨rfl,hw'⟩; subst hw')
 clear q0 q1 q2 q3
 have o2:=own_twoR w1 S.cursor n w.heap.size HO1.out.2.size
 have b2 : Below w.heap.size w (w1.alloc (.cells #[.int .i64 S.cursor,.int .i64 n] 2)):=(HO1.out.2.trans (Kept.alloc _ _)).to_below (fun b hb=>hb.elim) (Nat.le_refl _)
 have o1:=own_kept HO1.out.1 (Kept.alloc (S:=fun _=>False) w1 (.cells #[.int .i64 S.cursor,.int .i64 n] 2)) (fun _ _ h=>h)
 have HX:=Lib.hid (And.intro o2 (And.intro o1 b2))
 clear o2 o1 b2
 generalize w1.alloc (.cells #[.int .i64 S.cursor,.int .i64 n] 2) = w2 at HX ⊢
 generalize w1.heap.size = g2 at HX ⊢
 go_loopw [4,30] (fun o i wr=>∃ j : Nat,j≤n∧i = .int .i64 j∧wr.ownsRow w.heap.size 2 1 o (2 + j) (([S.cursor,(n : Int)] ++ (memsR S).take j).map (Value.int .i64))∧wr.ownsRow w.heap.size 3 1 (.slice mA n mc) n ((memsR S).map (Value.int .i64))∧Below w.heap.size w wr) (fun _ i _=>n - (intOf i).toNat)
 case atStart=>exact ⟨0,Nat.zero_le _,rfl,HX.out.1,HX.out.2.1,HX.out.2.2⟩
 case round =>
  obtain ⟨j,hj,rfl,hown,hm,hb⟩:=hrel
  obtain ⟨A,cap,rfl⟩:=own_slice hown
  have HO:=Lib.hid hown
  have HM:=Lib.hid hm
  have HBW:=Lib.hid hb
  clear hown hm hb
  by_cases hlt : j < n
  ·have hd : decide (j < n) = true:=decide_eq_true hlt
   have hjl : j < (memsR S).length:=by rw [HNL.out]; exact hlt
   obtain ⟨L,hL⟩ : ∃ L,mA = some ⟨L,0,none⟩:=by
    rcases HM.out.2 with ⟨_,h0⟩ | ⟨g0,cap,cur,hv,_⟩
    ·omega
    ·simp only [Value.slice.injEq] at hv; exact ⟨g0,hv.1⟩
   obtain ⟨x,hx⟩ : ∃ x,x = (memsR S)[j]:=⟨_,rfl⟩
   have cx : wr.cell? ⟨L,j,none⟩ = some (.int .i64 x):=by
    have h:=HM.out
    rw [hL] at h
    refine (h.cellAt j (by omega)).trans ?_
    rw [List.getElem?_map,List.getElem?_eq_getElem hjl,hx]; rfl
   have HXX:=Lib.hid hx
   clear hx
   subst hL
   obtain ⟨ls,hls⟩ : ∃ ls,ls = [S.cursor,(n : Int)] ++ (memsR S).take j:=⟨_,rfl⟩
   have HO:=Lib.hid (show wr.ownsRow w.heap.size 2 1 (.slice A (2 + j) cap) (2 + j) (ls.map (Value.int .i64)) from hls ▸ HO.out)
   have HLS:=Lib.hid hls
   clear hls
   have hb0 : (0 : Int)≤j:=by omega
   have hb1 : (j : Int) < n:=by omega
   have hsz : w.heap.size≤wr.heap.size:=HBW.out.size
   have hw : wrap64 ((j : Int) + 1) = ((j + 1 : Nat) : Int):=by unfold wrap64; omega
   have NW:=Lib.hid hw
   clear hw
   go_wp2_with (at_builtin; refine wpList_append_own _ rfl _ _ 35 rfl w.heap.size 2 i0 (.int .i64 0) 1 8 Try.underlying35 hi0 hz0 hz1 hz2 rfl (by decide) _ _ _ rfl (HO.out.alloc _) ⟨wr.heap.size,0,none⟩ 1 1 [.int .i64 x] rfl rfl ?c1 ?c2 ?c3 ?c4 ?c5 ?_)
   case c1=>exact cell_one_new _ _ _
   case c2=>simp [Value.oneCell']
   case c3=>unfold maxLen; omega
   case c4=>omega
   case c5=>simp; omega
   intro v' w3 hown1 hg1 _
   have ho1 : w3.ownsRow w.heap.size 2 1 v' (2 + (j + 1)) (([S.cursor,(n : Int)] ++ (memsR S).take (j + 1)).map (Value.int .i64)):=by rw [show [S.cursor,(n : Int)] ++ (memsR S).take (j + 1) = ([S.cursor,(n : Int)] ++ (memsR S).take j) ++ [x] from by rw [List.take_succ_eq_append_getElem hjl,HXX.out,List.append_assoc],List.map_append,← HLS.out]; exact hown1
   have hm3:=own_other (HM.out.alloc (.cells #[.int .i64 x] 2)) (HO.out.alloc (.cells #[.int .i64 x] 2)) (by decide) hg1
   have hb3 : Below w.heap.size w w3:=(HBW.out.alloc HBW.out.size _).grown hg1 (by simp; omega) (fun k hk=>(HO.out.lt k hk).1)
   have HO2:=Lib.hid (And.intro ho1 (And.intro hm3 hb3))
   clear hown1 hg1 ho1 hb3 hm3 cx
   go_wp2
   go_roundw
   case rel=>exact ⟨j + 1,hlt,by go_num,HO2.out.1,HO2.out.2.1,HO2.out.2.2⟩
   case measure=>simp [intOf]; omega
  ·obtain rfl : j = n:=by omega
   have hd : decide (j < j) = false:=by simp
   obtain ⟨wq,rfl⟩ : ∃ wq,wq = wr:=⟨_,rfl⟩
   obtain ⟨n,rfl⟩ : ∃ n,n = j:=⟨_,rfl⟩
   have ho:=HO.out
   rw [show (memsR S).take n = memsR S from List.take_of_length_le (by rw [HNL.out]; exact Nat.le_refl _)] at ho
   have HO:=Lib.hid ho
   have c2:=(HH.out.kept (Kept.of_below (S:=fun _=>False) HBW.out)).w2
   clear ho HM hlt hj HX
   go_wp2
   clear c2 hd
   go_loopw [4,44] (fun o i wr=>∃ j : Nat,j≤I.k∧i = .int .i64 j∧wr.ownsRow w.heap.size 2 1 o (2 + n + 3 * j) (([S.cursor,(n : Int)] ++ memsR S ++ rdsL S j).map (Value.int .i64))∧Below w.heap.size w wr) (fun _ i _=>I.k - (intOf i).toNat)
   case atStart=>exact ⟨0,Nat.zero_le _,rfl,by rw [rdsL,List.append_nil]; exact HO.out,HBW.out⟩
   case round =>
    obtain ⟨j,hj,rfl,hown,hb⟩:=hrel
    clear HO HBW
    obtain ⟨A,cap,rfl⟩:=own_slice hown
    have HBW:=Lib.hid hb
    by_cases hlt : j < I.k
    ·have hd : decide (j < I.k) = true:=decide_eq_true hlt
     obtain ⟨ls,hls⟩ : ∃ ls,ls = [S.cursor,(n : Int)] ++ memsR S ++ rdsL S j:=⟨_,rfl⟩
     have HO:=Lib.hid (show wr.ownsRow w.heap.size 2 1 (.slice A (2 + n + 3 * j) cap) (2 + n + 3 * j) (ls.map (Value.int .i64)) from hls ▸ hown)
     have HLS:=Lib.hid hls
     clear hls hown hb
     have HI:=Lib.hid (HH.out.kept (Kept.of_below (S:=fun _=>False) HBW.out))
     have hrA:=HRA.out (by omega)
     have l1:=(HI.out.l j hlt).1
     have l3:=(HI.out.l j hlt).2.2.1
     have hb0 : (0 : Int)≤j:=by omega
     have hb1 : (j : Int) < I.k:=by omega
     rw [hrA.1]
     cases hrj : S.rj j with
     | true =>
       rw [hrj] at l3
       go_wp2_with (go_at_call 18; refine (joinedC _ _ _ l3).mono ?_; rintro e w' ⟨rfl,hw'⟩; subst hw')
       clear l1 l3
       rename_i K0 hK0
       refine strictL ?_
       refine wp_region_held (S:=StR I S gp mv) (by kernel_rfl) ?_
       simp only [List.size_toArray,List.length_cons,List.length_nil,Nat.reduceAdd]
       have hkd : Kept (fun _=>False) wr { wr with drawn:=wr.drawn + 1 }:=Kept.drew wr
       have HS:=Lib.hid (HI.out.kept hkd)
       have hb3:=HBW.out.size
       have hown:=own_kept HO.out hkd (fun _ _ h=>h)
       have hbd : Below w.heap.size w { wr with drawn:=wr.drawn + 1 }:=HBW.out.trans (hkd.to_below (fun b hb=>hb.elim) hb3)
       generalize ({ wr with drawn:=wr.drawn + 1 } : World) = x at HS hown hbd ⊢
       have HO:=Lib.hid hown
       have HBX:=Lib.hid hbd
       clear hkd hown hbd
       refine rdL 0 14 51 ?_
       refine ⟨_,rfl,rfl,by kernel_rfl,by kernel_rfl,by kernel_rfl,(fun c a w h=>by cases h.1),rfl,HS.out,?_⟩
       apply Exists.intro
       refine ⟨fun wq hw=>?_,?_⟩
       ·have hw0:=hw.w0
        have hw3:=hw.w3
        have hwf:=(hw.l j hlt).2.1
        rw [hrA.2] at hw3
        clear hw
        go_simp
        rfl
       simp only [Act.put,List.setIfInBounds_toArray,List.set_cons_zero,List.set_cons_succ]
       refine rdL 1 13 52 ?_
       refine ⟨_,rfl,rfl,by kernel_rfl,by kernel_rfl,by kernel_rfl,(fun c a w h=>by cases h.1),rfl,HS.out,?_⟩
       apply Exists.intro
       refine ⟨fun wq hw=>?_,?_⟩
       ·have hw0:=hw.w0
        have hw3:=hw.w3
        have hwf:=(hw.l j hlt).2.1
        rw [hrA.2] at hw3
        clear hw
        go_simp
        rfl
       simp only [Act.put,List.setIfInBounds_toArray,List.set_cons_zero,List.set_cons_succ]
       refine rdL 2 12 53 ?_
       refine ⟨_,rfl,rfl,by kernel_rfl,by kernel_rfl,by kernel_rfl,(fun c a w h=>by cases h.1),rfl,HS.out,?_⟩
       apply Exists.intro
       refine ⟨fun wq hw=>?_,?_⟩
       ·have hw0:=hw.w0
        have hw3:=hw.w3
        have hwf:=(hw.l j hlt).2.1
        rw [hrA.2] at hw3
        clear hw
        go_simp
        rfl
       simp only [Act.put,List.setIfInBounds_toArray,List.set_cons_zero,List.set_cons_succ]
       refine rdL 4 11 55 ?_
       refine ⟨_,rfl,rfl,by kernel_rfl,by kernel_rfl,by kernel_rfl,(fun c a w h=>by cases h.1),rfl,HS.out,?_⟩
       apply Exists.intro
       refine ⟨fun wq hw=>?_,?_⟩
       ·have hw0:=hw.w0
        have hw3:=hw.w3
        have hwf:=(hw.l j hlt).2.1
        rw [hrA.2] at hw3
        clear hw
        go_simp
        rfl
       simp only [Act.put,List.setIfInBounds_toArray,List.set_cons_zero,List.set_cons_succ]
       refine rdL 5 10 56 ?_
       refine ⟨_,rfl,rfl,by kernel_rfl,by kernel_rfl,by kernel_rfl,(fun c a w h=>by cases h.1),rfl,HS.out,?_⟩
       apply Exists.intro
       refine ⟨fun wq hw=>?_,?_⟩
       ·have hw0:=hw.w0
        have hw3:=hw.w3
        have hwf:=(hw.l j hlt).2.1
        rw [hrA.2] at hw3
        clear hw
        go_simp
        rfl
       simp only [Act.put,List.setIfInBounds_toArray,List.set_cons_zero,List.set_cons_succ]
       refine rdL 6 9 57 ?_
       refine ⟨_,rfl,rfl,by kernel_rfl,by kernel_rfl,by kernel_rfl,(fun c a w h=>by cases h.1),rfl,HS.out,?_⟩
       apply Exists.intro
       refine ⟨fun wq hw=>?_,?_⟩
       ·have hw0:=hw.w0
        have hw3:=hw.w3
        have hwf:=(hw.l j hlt).2.1
        rw [hrA.2] at hw3
        clear hw
        go_simp
        rfl
       simp only [Act.put,List.setIfInBounds_toArray,List.set_cons_zero,List.set_cons_succ]
       refine rdL 7 8 58 ?_
       refine ⟨_,rfl,rfl,by kernel_rfl,by kernel_rfl,by kernel_rfl,(fun c a w h=>by cases h.1),rfl,HS.out,?_⟩
       apply Exists.intro
       refine ⟨fun wq hw=>?_,?_⟩
       ·have hw0:=hw.w0
        have hw3:=hw.w3
        have hwf:=(hw.l j hlt).2.1
        rw [hrA.2] at hw3
        clear hw
        go_simp
        rfl
       simp only [Act.put,List.setIfInBounds_toArray,List.set_cons_zero,List.set_cons_succ]
       refine rdL 8 7 59 ?_
       refine ⟨_,rfl,rfl,by kernel_rfl,by kernel_rfl,by kernel_rfl,(fun c a w h=>by cases h.1),rfl,HS.out,?_⟩
       apply Exists.intro
       refine ⟨fun wq hw=>?_,?_⟩
       ·have hw0:=hw.w0
        have hw3:=hw.w3
        have hwf:=(hw.l j hlt).2.1
        rw [hrA.2] at hw3
        clear hw
        go_simp
        rfl
       simp only [Act.put,List.setIfInBounds_toArray,List.set_cons_zero,List.set_cons_succ]
       refine rdL 9 6 60 ?_
       refine ⟨_,rfl,rfl,by kernel_rfl,by kernel_rfl,by kernel_rfl,(fun c a w h=>by cases h.1),rfl,HS.out,?_⟩
       apply Exists.intro
       refine ⟨fun wq hw=>?_,?_⟩
       ·have hw0:=hw.w0
        have hw3:=hw.w3
        have hwf:=(hw.l j hlt).2.1
        rw [hrA.2] at hw3
        clear hw
        go_simp
        rfl
       simp only [Act.put,List.setIfInBounds_toArray,List.set_cons_zero,List.set_cons_succ]
       refine rdL 10 5 61 ?_
       refine ⟨_,rfl,rfl,by kernel_rfl,by kernel_rfl,by kernel_rfl,(fun c a w h=>by cases h.1),rfl,HS.out,?_⟩
       apply Exists.intro
       refine ⟨fun wq hw=>?_,?_⟩
       ·have hw0:=hw.w0
        have hw3:=hw.w3
        have hwf:=(hw.l j hlt).2.1
        rw [hrA.2] at hw3
        clear hw
        go_simp
        rfl
       simp only [Act.put,List.setIfInBounds_toArray,List.set_cons_zero,List.set_cons_succ]
       refine oneL (i:=3) (fuel:=4) (by kernel_rfl) rfl rfl fun K' hK'=>?_
       unfold Oper.wp
       go_simp
       refine (nextC _ _ _ (HS.out.l j hlt).2.2.2.1).mono ?_
       rintro e w' ⟨rfl,hw'⟩
       subst hw'
       dsimp only
       refine hK' _ _ HS.out ?_
       clear hK' K'
       refine oneL (i:=11) (fuel:=3) (by kernel_rfl) rfl rfl fun K' hK'=>?_
       unfold Oper.wp
       go_simp
       refine (fnextC _ _ _ (HS.out.l j hlt).2.2.2.2).mono ?_
       rintro e w' ⟨rfl,hw'⟩
       subst hw'
       dsimp only
       refine hK' _ _ HS.out ?_
       clear hK' K'
       refine oneL (i:=12) (fuel:=2) (by kernel_rfl) rfl rfl fun K' hK'=>?_
       unfold Oper.wp
       go_simp
       have ka:=Kept.alloc (S:=fun _=>False) x (.cells #[.int .i64 1,.int .i64 (S.rn j),.int .i64 (S.fn j)] 2)
       have hnn:=Blk.new x 2 #[.int .i64 1,.int .i64 (S.rn j),.int .i64 (S.fn j)]
       have HS:=Lib.hid (HS.out.kept ka)
       have HO:=Lib.hid (own_kept HO.out ka (fun _ _ h=>h))
       have HBX:=Lib.hid (HBX.out.trans (ka.to_below (fun b hb=>hb.elim) HBX.out.size))
       refine hK' _ _ HS.out ?_
       clear hK' K'
       generalize x.alloc (.cells #[.int .i64 1,.int .i64 (S.rn j),.int .i64 (S.fn j)] 2) = x2 at ka hnn HS HO HBX ⊢
       generalize x.heap.size = nb at hnn ⊢
       clear ka
       refine oneL (i:=13) (fuel:=1) (by kernel_rfl) rfl rfl fun K' hK'=>?_
       refine wp_append_own x2 _ _ 35 rfl w.heap.size 2 i0 (.int .i64 0) 1 8 Try.underlying35 hi0 hz0 hz1 hz2 rfl (by decide) (.slice A (2 + n + 3 * j) cap) (2 + n + 3 * j) (ls.map (Value.int .i64)) rfl HO.out ⟨nb,0,none⟩ 3 3 [.int .i64 1,.int .i64 (S.rn j),.int .i64 (S.fn j)] rfl rfl (World.news_of_block (cs:=#[.int .i64 1,.int .i64 (S.rn j),.int .i64 (S.fn j)]) (t:=2) (fr:=(0,0)) hnn) (by simp [Value.oneCell']) (by unfold maxLen; omega) (by omega) HBX.out.size ?_
       intro v' x3 hown3 hg3 _
       have kg : Kept (fun b=>(Value.slice A (2 + n + 3 * j) cap).ownBlock = some b) x2 x3:=Kept.grown hg3 fun k hk=>hk
       have hb4 : Below w.heap.size w x3:=HBX.out.grown hg3 HBX.out.size (fun k hk=>(HO.out.lt k hk).1)
       have HS:=Lib.hid (HH.out.kept (Kept.of_below (S:=fun _=>False) hb4))
       have ho4 : x3.ownsRow w.heap.size 2 1 v' (2 + n + 3 * (j + 1)) (([S.cursor,(n : Int)] ++ memsR S ++ rdsL S (j + 1)).map (Value.int .i64)):=by
        rw [show [S.cursor,(n : Int)] ++ memsR S ++ rdsL S (j + 1) = ([S.cursor,(n : Int)] ++ memsR S ++ rdsL S j) ++ [1,S.rn j,S.fn j] from by rw [rdsL,hrj,← List.append_assoc]; rfl,List.map_append,← HLS.out,show 2 + n + 3 * (j + 1) = 2 + n + 3 * j + 3 by omega]
        exact hown3
       have HO2:=Lib.hid (And.intro ho4 hb4)
       refine hK' _ _ HS.out ?_
       clear hK' K' ho4 hb4 kg hown3 hg3 hnn HO HBX
       simp only [Act.put,List.setIfInBounds_toArray,List.set_cons_zero,List.set_cons_succ]
       refine oneL (i:=14) (fuel:=0) (by kernel_rfl) rfl rfl fun K' hK'=>?_
       unfold Oper.wp
       go_simp
       refine hK' _ _ HS.out ?_
       clear hK' K'
       refine wpAnyH_done (by kernel_rfl) ⟨rfl,?_⟩ _
       refine hK0 _ _ ?_
       clear hK0 K0
       go_wp2
       go_roundw
       case rel=>exact ⟨j + 1,hlt,by go_num,HO2.out.1,HO2.out.2⟩
       case measure=>simp [intOf]; omega
     | false =>
       rw [hrj] at l3
       go_wp2_with (go_at_call 18; refine (joinedC _ _ _ l3).mono ?_; rintro e w' ⟨rfl,hw'⟩; subst hw')
       clear l1 l3
       rename_i K0 hK0
       refine strictL ?_
       refine wp_region_held (S:=StR I S gp mv) (by kernel_rfl) ?_
       simp only [List.size_toArray,List.length_cons,List.length_nil,Nat.reduceAdd]
       have hkd : Kept (fun _=>False) wr { wr with drawn:=wr.drawn + 1 }:=Kept.drew wr
       have HS:=Lib.hid (HI.out.kept hkd)
       have hb3:=HBW.out.size
       have hown:=own_kept HO.out hkd (fun _ _ h=>h)
       have hbd : Below w.heap.size w { wr with drawn:=wr.drawn + 1 }:=HBW.out.trans (hkd.to_below (fun b hb=>hb.elim) hb3)
       generalize ({ wr with drawn:=wr.drawn + 1 } : World) = x at HS hown hbd ⊢
       have HO:=Lib.hid hown
       have HBX:=Lib.hid hbd
       clear hkd hown hbd
       refine rdL 0 14 51 ?_
       refine ⟨_,rfl,rfl,by kernel_rfl,by kernel_rfl,by kernel_rfl,(fun c a w h=>by cases h.1),rfl,HS.out,?_⟩
       apply Exists.intro
       refine ⟨fun wq hw=>?_,?_⟩
       ·have hw0:=hw.w0
        have hw3:=hw.w3
        have hwf:=(hw.l j hlt).2.1
        rw [hrA.2] at hw3
        clear hw
        go_simp
        rfl
       simp only [Act.put,List.setIfInBounds_toArray,List.set_cons_zero,List.set_cons_succ]
       refine rdL 1 13 52 ?_
       refine ⟨_,rfl,rfl,by kernel_rfl,by kernel_rfl,by kernel_rfl,(fun c a w h=>by cases h.1),rfl,HS.out,?_⟩
       apply Exists.intro
       refine ⟨fun wq hw=>?_,?_⟩
       ·have hw0:=hw.w0
        have hw3:=hw.w3
        have hwf:=(hw.l j hlt).2.1
        rw [hrA.2] at hw3
        clear hw
        go_simp
        rfl
       simp only [Act.put,List.setIfInBounds_toArray,List.set_cons_zero,List.set_cons_succ]
       refine rdL 2 12 53 ?_
       refine ⟨_,rfl,rfl,by kernel_rfl,by kernel_rfl,by kernel_rfl,(fun c a w h=>by cases h.1),rfl,HS.out,?_⟩
       apply Exists.intro
       refine ⟨fun wq hw=>?_,?_⟩
       ·have hw0:=hw.w0
        have hw3:=hw.w3
        have hwf:=(hw.l j hlt).2.1
        rw [hrA.2] at hw3
        clear hw
        go_simp
        rfl
       simp only [Act.put,List.setIfInBounds_toArray,List.set_cons_zero,List.set_cons_succ]
       refine rdL 4 11 55 ?_
       refine ⟨_,rfl,rfl,by kernel_rfl,by kernel_rfl,by kernel_rfl,(fun c a w h=>by cases h.1),rfl,HS.out,?_⟩
       apply Exists.intro
       refine ⟨fun wq hw=>?_,?_⟩
       ·have hw0:=hw.w0
        have hw3:=hw.w3
        have hwf:=(hw.l j hlt).2.1
        rw [hrA.2] at hw3
        clear hw
        go_simp
        rfl
       simp only [Act.put,List.setIfInBounds_toArray,List.set_cons_zero,List.set_cons_succ]
       refine rdL 5 10 56 ?_
       refine ⟨_,rfl,rfl,by kernel_rfl,by kernel_rfl,by kernel_rfl,(fun c a w h=>by cases h.1),rfl,HS.out,?_⟩
       apply Exists.intro
       refine ⟨fun wq hw=>?_,?_⟩
       ·have hw0:=hw.w0
        have hw3:=hw.w3
        have hwf:=(hw.l j hlt).2.1
        rw [hrA.2] at hw3
        clear hw
        go_simp
        rfl
       simp only [Act.put,List.setIfInBounds_toArray,List.set_cons_zero,List.set_cons_succ]
       refine rdL 6 9 57 ?_
       refine ⟨_,rfl,rfl,by kernel_rfl,by kernel_rfl,by kernel_rfl,(fun c a w h=>by cases h.1),rfl,HS.out,?_⟩
       apply Exists.intro
       refine ⟨fun wq hw=>?_,?_⟩
       ·have hw0:=hw.w0
        have hw3:=hw.w3
        have hwf:=(hw.l j hlt).2.1
        rw [hrA.2] at hw3
        clear hw
        go_simp
        rfl
       simp only [Act.put,List.setIfInBounds_toArray,List.set_cons_zero,List.set_cons_succ]
       refine rdL 7 8 58 ?_
       refine ⟨_,rfl,rfl,by kernel_rfl,by kernel_rfl,by kernel_rfl,(fun c a w h=>by cases h.1),rfl,HS.out,?_⟩
       apply Exists.intro
       refine ⟨fun wq hw=>?_,?_⟩
       ·have hw0:=hw.w0
        have hw3:=hw.w3
        have hwf:=(hw.l j hlt).2.1
        rw [hrA.2] at hw3
        clear hw
        go_simp
        rfl
       simp only [Act.put,List.setIfInBounds_toArray,List.set_cons_zero,List.set_cons_succ]
       refine rdL 8 7 59 ?_
       refine ⟨_,rfl,rfl,by kernel_rfl,by kernel_rfl,by kernel_rfl,(fun c a w h=>by cases h.1),rfl,HS.out,?_⟩
       apply Exists.intro
       refine ⟨fun wq hw=>?_,?_⟩
       ·have hw0:=hw.w0
        have hw3:=hw.w3
        have hwf:=(hw.l j hlt).2.1
        rw [hrA.2] at hw3
        clear hw
        go_simp
        rfl
       simp only [Act.put,List.setIfInBounds_toArray,List.set_cons_zero,List.set_cons_succ]
       refine rdL 9 6 60 ?_
       refine ⟨_,rfl,rfl,by kernel_rfl,by kernel_rfl,by kernel_rfl,(fun c a w h=>by cases h.1),rfl,HS.out,?_⟩
       apply Exists.intro
       refine ⟨fun wq hw=>?_,?_⟩
       ·have hw0:=hw.w0
        have hw3:=hw.w3
        have hwf:=(hw.l j hlt).2.1
        rw [hrA.2] at hw3
        clear hw
        go_simp
        rfl
       simp only [Act.put,List.setIfInBounds_toArray,List.set_cons_zero,List.set_cons_succ]
       refine rdL 10 5 61 ?_
       refine ⟨_,rfl,rfl,by kernel_rfl,by kernel_rfl,by kernel_rfl,(fun c a w h=>by cases h.1),rfl,HS.out,?_⟩
       apply Exists.intro
       refine ⟨fun wq hw=>?_,?_⟩
       ·have hw0:=hw.w0
        have hw3:=hw.w3
        have hwf:=(hw.l j hlt).2.1
        rw [hrA.2] at hw3
        clear hw
        go_simp
        rfl
       simp only [Act.put,List.setIfInBounds_toArray,List.set_cons_zero,List.set_cons_succ]
       refine oneL (i:=3) (fuel:=4) (by kernel_rfl) rfl rfl fun K' hK'=>?_
       unfold Oper.wp
       go_simp
       refine (nextC _ _ _ (HS.out.l j hlt).2.2.2.1).mono ?_
       rintro e w' ⟨rfl,hw'⟩
       subst hw'
       dsimp only
       refine hK' _ _ HS.out ?_
       clear hK' K'
       refine oneL (i:=11) (fuel:=3) (by kernel_rfl) rfl rfl fun K' hK'=>?_
       unfold Oper.wp
       go_simp
       refine (fnextC _ _ _ (HS.out.l j hlt).2.2.2.2).mono ?_
       rintro e w' ⟨rfl,hw'⟩
       subst hw'
       dsimp only
       refine hK' _ _ HS.out ?_
       clear hK' K'
       refine oneL (i:=12) (fuel:=2) (by kernel_rfl) rfl rfl fun K' hK'=>?_
       unfold Oper.wp
       go_simp
       have ka:=Kept.alloc (S:=fun _=>False) x (.cells #[.int .i64 0,.int .i64 (S.rn j),.int .i64 (S.fn j)] 2)
       have hnn:=Blk.new x 2 #[.int .i64 0,.int .i64 (S.rn j),.int .i64 (S.fn j)]
       have HS:=Lib.hid (HS.out.kept ka)
       have HO:=Lib.hid (own_kept HO.out ka (fun _ _ h=>h))
       have HBX:=Lib.hid (HBX.out.trans (ka.to_below (fun b hb=>hb.elim) HBX.out.size))
       refine hK' _ _ HS.out ?_
       clear hK' K'
       generalize x.alloc (.cells #[.int .i64 0,.int .i64 (S.rn j),.int .i64 (S.fn j)] 2) = x2 at ka hnn HS HO HBX ⊢
       generalize x.heap.size = nb at hnn ⊢
       clear ka
       refine oneL (i:=13) (fuel:=1) (by kernel_rfl) rfl rfl fun K' hK'=>?_
       refine wp_append_own x2 _ _ 35 rfl w.heap.size 2 i0 (.int .i64 0) 1 8 Try.underlying35 hi0 hz0 hz1 hz2 rfl (by decide) (.slice A (2 + n + 3 * j) cap) (2 + n + 3 * j) (ls.map (Value.int .i64)) rfl HO.out ⟨nb,0,none⟩ 3 3 [.int .i64 0,.int .i64 (S.rn j),.int .i64 (S.fn j)] rfl rfl (World.news_of_block (cs:=#[.int .i64 0,.int .i64 (S.rn j),.int .i64 (S.fn j)]) (t:=2) (fr:=(0,0)) hnn) (by simp [Value.oneCell']) (by unfold maxLen; omega) (by omega) HBX.out.size ?_
       intro v' x3 hown3 hg3 _
       have kg : Kept (fun b=>(Value.slice A (2 + n + 3 * j) cap).ownBlock = some b) x2 x3:=Kept.grown hg3 fun k hk=>hk
       have hb4 : Below w.heap.size w x3:=HBX.out.grown hg3 HBX.out.size (fun k hk=>(HO.out.lt k hk).1)
       have HS:=Lib.hid (HH.out.kept (Kept.of_below (S:=fun _=>False) hb4))
       have ho4 : x3.ownsRow w.heap.size 2 1 v' (2 + n + 3 * (j + 1)) (([S.cursor,(n : Int)] ++ memsR S ++ rdsL S (j + 1)).map (Value.int .i64)):=by
        rw [show [S.cursor,(n : Int)] ++ memsR S ++ rdsL S (j + 1) = ([S.cursor,(n : Int)] ++ memsR S ++ rdsL S j) ++ [0,S.rn j,S.fn j] from by rw [rdsL,hrj,← List.append_assoc]; rfl,List.map_append,← HLS.out,show 2 + n + 3 * (j + 1) = 2 + n + 3 * j + 3 by omega]
        exact hown3
       have HO2:=Lib.hid (And.intro ho4 hb4)
       refine hK' _ _ HS.out ?_
       clear hK' K' ho4 hb4 kg hown3 hg3 hnn HO HBX
       simp only [Act.put,List.setIfInBounds_toArray,List.set_cons_zero,List.set_cons_succ]
       refine oneL (i:=14) (fuel:=0) (by kernel_rfl) rfl rfl fun K' hK'=>?_
       unfold Oper.wp
       go_simp
       refine hK' _ _ HS.out ?_
       clear hK' K'
       refine wpAnyH_done (by kernel_rfl) ⟨rfl,?_⟩ _
       refine hK0 _ _ ?_
       clear hK0 K0
       go_wp2
       go_roundw
       case rel=>exact ⟨j + 1,hlt,by go_num,HO2.out.1,HO2.out.2⟩
       case measure=>simp [intOf]; omega
    ·obtain rfl : j = I.k:=by omega
     have hd : decide (I.k < I.k) = false:=by simp
     have HO:=Lib.hid hown
     clear hown hb
     go_wp2
     go_ret
     refine ⟨_,rfl,?_,HBW.out⟩
     have hlen : (stateR I.k S).length = 2 + n + 3 * I.k:=by
      unfold stateR
      rw [List.length_append,List.length_append,rdsL_len,HNL.out]
      rfl
     rw [hlen]
     unfold stateR
     rw [HNL.out]
     exact HO.out
end Go.Proofs.Ytlhbonnminlnlaa
namespace Go.Proofs.Ytlhbonnminlnlaa
open Go.RowKit Go.Turn Go.Tame Go.Conc
def innP {ι A0 : Type} (At : ι→A0→World→Prop) (BI : ι→Nat→Prop) (law : ∀ (I : ι) (a : A0) (w w' : World),At I a w→(∀ b,BI I b→w'.heap[b]? = w.heap[b]?)→At I a w') (Box : ι→A0→(Nat→Prop)→World→Prop) (boxl : ∀ (I : ι) (a : A0) (G : Nat→Prop) (w w' : World),Box I a G w→(∀ b,G b∨BI I b→w'.heap[b]? = w.heap[b]?)→Box I a G w') (I : ι) : Inner:=⟨A0,At I,BI I,law I,Box I,boxl I⟩
set_option maxHeartbeats 4000000 in
set_option maxRecDepth 100000 in
theorem reader_playP {ι A0 : Type} (wbo : ι→Nat) (At : ι→A0→World→Prop) (BI : ι→Nat→Prop) (law : ∀ (I : ι) (a : A0) (w w' : World),At I a w→(∀ b,BI I b→w'.heap[b]? = w.heap[b]?)→At I a w') (Box : ι→A0→(Nat→Prop)→World→Prop) (boxl : ∀ (I : ι) (a : A0) (G : Nat→Prop) (w w' : World),Box I a G w→(∀ b,G b∨BI I b→w'.heap[b]? = w.heap[b]?)→Box I a G w') (PI : ι→Prop) (good : OpI→Prop) (a0 : A0) (doT : ι→Nat→DoQ A0) (dq : Nat→DoQ A0) (stf : A0→List Int) (stv : Value)
  (hP : Prog Try.prog) (Post : Value→World→Prop) (W0 : World)
  (tA : Option Addr) (Tb To nt cp : Nat) (htA : 0 < nt→tA = some ⟨Tb,To,none⟩) (hnt : nt≤maxLen) (A : Nat→Option Addr) (len cap : Nat→Nat) (ops : Nat→List OpI) (sv : Value) (xs : List Int) (most : Int) (w0 : World) (hW : W0.heap.size≤w0.heap.size)
  (hrows : RowsAt w0 Tb To (min nt 64) A len cap) (hin : OpsCells W0 good w0 (min nt 64) A len ops) (hsch : SchI W0 sv xs (fun b=>∃ i o,i < min nt 64∧A i = some ⟨b,o,none⟩) w0)
  (hmade : ∀ z,Old w0.heap.size w0 z→Calls Try.prog 38 #[stv,.slice tA nt cp] z fun e w2=>∃ I,e = .returned (.pointer (some ⟨wbo I,0,none⟩))∧PI I∧At I a0 w2∧(∀ b,BI I b→(∃ c t r,w2.heap[b]? = some (.cells c t r)∧r.2 < big)∧z.heap.size≤b)∧Below z.heap.size z w2)
  (hbx0 : ∀ I w,PI I→At I a0 w→Box I a0 (fun _=>False) w)
  (hstate : ∀ I a G w,PI I→At I a w→Box I a G w→Calls Try.prog 41 #[.pointer (some ⟨wbo I,0,none⟩)] w (NumsRow w (stf a).length (stf a)))
  (hdo : ∀ (B : OpsB) I i,PI I→i < 64→DoLaw (B.on (innP At BI law Box boxl I) good) i (doT I i) 40 #[.pointer (some ⟨wbo I,0,none⟩)] #[]) (hdq : ∀ I,PI I→doT I = dq)
  (hSo : Sound (brQ dq ops) (min nt 64) (a0,fun _=>[])) :
  Ccalls (lgA hP Post W0) 22 #[stv,.slice tA nt cp,sv,.int .i64 most] () w0 fun v _ w'=>PlayG W0 (stf (playRun (brQ dq ops) (min nt 64) (heldI most 1048576).toNat xs (a0,fun _=>[])).m.s.1).length stf (playRun (brQ dq ops) (min nt 64) (heldI most 1048576).toNat xs (a0,fun _=>[])) (min nt 64) w0 v w':=by
 have hent : ∀ args w,(callFunc 40 args).run Try.prog w = .ok (.enter 40 args) w:=fun args w=>by kernel_rfl
 have HSO:=Lib.hid hSo
 clear hSo
 intro c mid hR
 have HR:=Lib.hid hR
 clear hR
 have hs : ¬ (lgA hP Post W0).strict:=fun h=>h
 rw [show Frame.enter Try.prog 22 #[stv,.slice tA nt cp,sv,.int .i64 most] .normal = Frame.at { (default : Frame) with fn:=22,kind:=.normal } ⟨#[stv,.slice tA nt cp,sv,.int .i64 most] ++ Array.replicate (Try.f22.ntmps - 4) undef,[]⟩ [.code (Try.f22.body.getD .skip)] from by simp [Frame.enter,Frame.at,Try.func22]; rfl]
 simp only [Try.f22,Option.getD_some,Nat.reduceSub,Array.replicate_succ,Array.replicate_zero,List.push_toArray,List.append_toArray,List.nil_append,List.cons_append]
 refine Lg.move _ (fun _ _=>step_seq) (fun h=>h) ?_
 refine Lg.code fun K hK y τ n' hy=>?_
 have hold : Old w0.heap.size w0 y:=by rw [hy]; exact (Old.refl _ (y.re τ n')).re
 have hsz : y.heap.size = w0.heap.size:=by rw [hy]; rfl
 clear hy
 go_wp2
 refine hK _ _ (fun h=>absurd h hs) ?_
 clear hK K
 have hold1:=hold.new (show w0.heap.size≤y.heap.size by omega) (.cells #[.slice none 0 0,.slice none 0 0,.slice none 0 0,.bool false] 55)
 have hb8:=Blk.new y 55 #[.slice none 0 0,.slice none 0 0,.slice none 0 0,.bool false]
 have hsz1 : (y.alloc (.cells #[.slice none 0 0,.slice none 0 0,.slice none 0 0,.bool false] 55)).heap.size = w0.heap.size + 1:=by simp [hsz]
 rw [hsz] at hb8
 generalize y.alloc (.cells #[.slice none 0 0,.slice none 0 0,.slice none 0 0,.bool false] 55) = w1 at hb8 hold1 hsz1 ⊢
 obtain ⟨b8,h8⟩ : ∃ b8,b8 = w0.heap.size:=⟨_,rfl⟩
 rw [← h8] at hb8 ⊢
 have HZ2:=Lib.hid h8
 clear h8 hsz hold
 refine Lg.move _ (fun _ _=>step_seq) (fun h=>h) ?_
 refine Lg.code fun K hK z τ n' hz=>?_
 subst hz
 have hold1:=hold1.re
 have hb8 : Blk z b8 _ _:=hb8
 have hsz1 : z.heap.size = w0.heap.size + 1:=hsz1
 have HST:=Lib.hid (hmade z hold1)
 have HOLD:=Lib.hid hold1
 have HB8:=Lib.hid hb8
 have HZ:=Lib.hid hsz1
 clear hold1 hb8 hsz1
 go_wp2_with fail
 refine HST.out.mono ?_
 rintro e w2 ⟨I,rfl,hPI,hrat,N1,B1⟩
 have HPI:=Lib.hid hPI
 clear hPI hmade
 have hold2:=HOLD.out.below B1 (by have:=HZ.out; omega)
 have hb8 : Blk w2 b8 _ _:=HB8.out.below B1 HB8.out.lt
 have hlb8:=HB8.out.lt
 have hge0:=HZ.out
 generalize z.heap.size = sb at *
 have hge : ∀ b,BI I b→w0.heap.size + 1≤b:=fun b hb=>by have:=(N1 b hb).2; omega
 have hin2 : OpsIn W0 (innP At BI law Box boxl I) good a0 w2 (min nt 64) A len ops:=hin.opsIn hold2 hrat (fun b hb=>⟨(N1 b hb).1,by have:=hge b hb; omega⟩) (hbx0 I w2 HPI.out hrat)
 have hbW : ∀ b,BI I b→W0.heap.size≤b:=fun b hb=>by have:=hge b hb; omega
 have hrows2:=hrows.later hold2
 have hsch2 : SchI W0 sv xs (fun b=>BI I b∨∃ i o,i < min nt 64∧A i = some ⟨b,o,none⟩) w2:=hsch.later hold2 fun b hb hz=>by
  rcases hz with e | hz
  ·have:=hge b e; omega
  ·exact hz
 have HIN:=Lib.hid hin2
 have HRO:=Lib.hid hrows2
 have HSC:=Lib.hid hsch2
 have HO2:=Lib.hid hold2
 have HB2:=Lib.hid hb8
 have HGE:=Lib.hid hge
 clear hin hin2 hrows hrows2 hsch hsch2 hold2 hb8 hrat N1 B1 HST HOLD HB8 HZ hge hge0
 go_wp2
 refine hK _ _ (fun h=>absurd h hs) ?_
 clear hK K
 refine Lg.move _ (fun _ _=>step_seq) (fun h=>h) ?_
 refine Lg.move _ (fun _ _=>step_region) (fun h=>h) ?_
 refine Lg.pre 0 5 3 (by simp) fun K hK u τ n' hu=>?_
 subst hu
 have hin2 : OpsIn W0 (innP At BI law Box boxl I) good a0 u (min nt 64) A len ops:=HIN.out.later (w0:=u.re τ n') (Old.refl _ (u.re τ n')).re
 have hrows2:=HRO.out.later (w0:=u.re τ n') (Old.refl _ (u.re τ n')).re
 have hsch2:=HSC.out.later (w0:=u.re τ n') (Old.refl _ (u.re τ n')).re (fun _ _ h=>h)
 have hold2:=HO2.out.re
 have hb8 : Blk u b8 _ _:=HB2.out
 have HIN2:=Lib.hid hin2
 have HRO2:=Lib.hid hrows2
 have HSC2:=Lib.hid hsch2
 have HO:=Lib.hid hold2
 have HB:=Lib.hid hb8
 clear hin2 hrows2 hsch2 hold2 hb8 HIN HRO HSC HO2 HB2
 simp only [List.drop_zero,List.take_succ_cons,List.take_zero]
 go_wp2
 refine hK _ _ (fun h=>absurd h hs) ?_
 clear hK K
 have hops:=ops_calls hP Post W0 (innP At BI law Box boxl I) good a0 (doT I) tA Tb To nt cp htA hnt 40 #[.pointer (some ⟨wbo I,0,none⟩)] #[] A len cap ops sv xs most u (by have:=HO.out.size; omega) hbW HRO2.out HIN2.out HSC2.out hent (fun B i hi=>hdo B I i HPI.out hi) (fun B hn hB=>(show brT (B.on (innP At BI law Box boxl I) good) (doT I) = brQ (dq) ops from (br_q (I:=innP At BI law Box boxl I) (good:=good) B (doT I)).trans (by rw [hB,hdq I HPI.out]; rfl)) ▸ HSO.out)
 refine Lg.call (i:=5) (rest:=[6,7]) (f:=39) (args:=#[.slice tA nt cp,.func (.func 40) #[.pointer (some ⟨wbo I,0,none⟩)] #[],sv,.int .i64 most]) rfl rfl (fun y=>by go_simp) hops ?_
 rintro vv t'' w4 hdone
 have HOPS:=Lib.hid hdone
 obtain ⟨B,ov,hBn,hBo,hBa,hvv0,hov0,H,hrep,hH⟩:=hdone.ex
 clear hdone hops
 obtain ⟨R,hR⟩ : ∃ R : Run (A0 × (Nat→List Ans)),R = playRun (brQ (dq) ops) (min nt 64) (heldI most 1048576).toNat xs (a0,fun _=>[]):=⟨_,rfl⟩
 have eR : playRun (brT (B.on (innP At BI law Box boxl I) good) (doT I)) (min nt 64) (heldI most 1048576).toNat xs (a0,fun _=>[]) = R:=by
  rw [hR]
  exact congrArg (fun b=>playRun b (min nt 64) (heldI most 1048576).toNat xs (a0,fun _=>[])) ((br_q (I:=innP At BI law Box boxl I) (good:=good) B (doT I)).trans (by rw [hBo,hdq I HPI.out]; rfl))
 have key : ∀ R' : Run (A0 × (Nat→List Ans)),playRun (brT (B.on (innP At BI law Box boxl I) good) (doT I)) (min nt 64) (heldI most 1048576).toNat xs (a0,fun _=>[]) = R'→vv = .agg #[.slice (some ⟨B.ab,0,none⟩) (min nt 64 : Nat) (min nt 64 : Nat),ov,.slice none 0 0,.bool (decide (0 < R'.m.left (min nt 64)))]∧w4.ownsRow u.heap.size 3 1 ov R'.order.length (R'.order.map (Value.int .i64))∧AnsAll w4 B.ab B.n R'.m.s.2 (fun b=>H b∧¬ BI I b)∧At I R'.m.s.1 w4∧(∀ b,BI I b→b < w4.heap.size)∧∃ G,Box I R'.m.s.1 G w4∧∀ b,G b→b < w4.heap.size:=by
  rintro _ rfl
  exact ⟨hvv0,hov0,hrep.answers,hrep.at_,fun b hb=>by obtain ⟨c,t,r,h1,_⟩:=hrep.near b (hrep.bi b hb); exact lt_of_some h1,by obtain ⟨G,g1,g2⟩:=hrep.box; exact ⟨G,g1,fun b hb=>by obtain ⟨c,t,r,h1,_⟩:=hrep.near b (g2 b hb).1; exact lt_of_some h1⟩⟩
 obtain ⟨hvv,hov,hans,hrat,hltB,G,hG1,hG2⟩:=key R eR
 have HGB:=Lib.hid (And.intro hG1 hG2)
 clear hG1 hG2
 rw [← hR] at HR
 rw [hBn] at hans
 obtain ⟨stk,hst⟩ : ∃ stk : Bool,stk = decide (0 < R.m.left (min nt 64)):=⟨_,rfl⟩
 rw [← hst] at hvv
 clear key hrep eR hvv0 hov0 hBo
 have HRR:=Lib.hid hR
 clear hR
 generalize min nt 64 = n at *
 obtain ⟨oA,oc,rfl⟩:=own_slice hov
 obtain ⟨oL,hoL⟩ : ∃ oL,oL = R.order.length:=⟨_,rfl⟩
 rw [← hoL] at hvv
 obtain ⟨ab,hab⟩ : ∃ ab,ab = B.ab:=⟨_,rfl⟩
 rw [← hab] at hvv hBa hans
 subst hvv
 have HX:=Lib.hid (And.intro hans (And.intro hrat (And.intro hov (And.intro hBa (And.intro hoL (And.intro hst (And.intro hH hltB)))))))
 have hb8 : Blk w4 b8 _ _:=HOPS.out.near b8 _ _ (0,0) (.inr ⟨by decide,fun z=>by have:=HGE.out _ z; have:=HZ2.out; omega⟩) HB.out
 clear hans hrat hov hBa hoL hst hH hltB
 have HB4:=Lib.hid hb8
 clear hb8 hab
 rw [Frame.finish_at]
 walk_nrm
 refine (show (lgA hP Post W0).T _ (Frame.at _ ⟨_,[]⟩ (.inRegion _ (List.range' 6 (2 + 0)) :: _)) (c :: mid) w4 from ?_)
 refine Lg.pre 6 2 0 (by simp) fun K hK q τ2 n2 hq=>?_
 simp only [List.drop_succ_cons,List.drop_zero,List.take_succ_cons,List.take_zero]
 go_wp2
 refine hK _ _ (fun h=>absurd h hs) ?_
 clear hK K
 have hb4 : Blk q b8 55 #[.slice none 0 0,.slice none 0 0,.slice none 0 0,.bool false]:=by have:=HB4.out; rw [hq] at this; exact this
 have hh : w4.heap = q.heap∧w4.os = q.os∧w4.output = q.output:=by rw [hq]; exact ⟨rfl,rfl,rfl⟩
 clear hq HB4
 obtain ⟨b10,h10⟩ : ∃ b10,b10 = q.heap.size:=⟨_,rfl⟩
 rw [← h10]
 obtain ⟨w5,hw5,hb10,f1,f2,f3⟩ : ∃ w5,w5 = (q.alloc (.cells #[.slice (some ⟨ab,0,none⟩) n n,.slice oA oL oc,.slice none 0 0,.bool stk] 55))∧Blk w5 b10 55 #[.slice (some ⟨ab,0,none⟩) n n,.slice oA oL oc,.slice none 0 0,.bool stk]∧(∀ b,b < w4.heap.size→w5.heap[b]? = w4.heap[b]?)∧w5.heap.size = w4.heap.size + 1∧w5.os = w4.os∧w5.output = w4.output:=by
  refine ⟨_,rfl,h10 ▸ Blk.new q _ _,fun b hb=>?_,?_,hh.2.1.symm,hh.2.2.symm⟩
  ·rw [hh.1] at hb ⊢; exact Below.heap_alloc _ _ _ hb
  ·rw [hh.1]; simp
 rw [← hw5]
 clear hw5
 have hg10 : w4.heap.size≤b10:=by rw [h10,hh.1]; exact Nat.le_refl _
 have HG10:=Lib.hid hg10
 have h84 : b8 < w4.heap.size:=by rw [hh.1]; exact hb4.lt
 have hb8 : Blk w5 b8 55 #[.slice none 0 0,.slice none 0 0,.slice none 0 0,.bool false]:=(f1 b8 h84).trans (by rw [hh.1]; exact hb4)
 clear h10 hh hb4 hg10
 refine Lg.move _ (fun _ _=>step_region_end) (fun h=>h) ?_
 refine Lg.move _ (fun _ _=>step_seq) (fun h=>h) ?_
 refine Lg.code fun K hK p τ3 n3 hp=>?_
 subst hp
 have hb10 : Blk p b10 _ _:=hb10
 have hb8 : Blk p b8 _ _:=hb8
 have hrat5 : At I R.m.s.1 p:=law I _ w4 p HX.out.2.1 fun b hb=>f1 b (HX.out.2.2.2.2.2.2.2 b hb)
 have hbox5 : Box I R.m.s.1 G p:=boxl I _ G w4 p HGB.out.1 fun b hb=>f1 b (hb.elim (HGB.out.2 b) (HX.out.2.2.2.2.2.2.2 b))
 have HBX5:=Lib.hid hbox5
 clear hbox5
 have HF:=Lib.hid (And.intro f1 (And.intro f2 f3))
 have HB10:=Lib.hid hb10
 have HB8:=Lib.hid hb8
 have HRA:=Lib.hid hrat5
 clear f1 f2 f3 hb10 hb8 hrat5
 go_wp2_with fail
 refine (hstate I _ G p HPI.out HRA.out HBX5.out).mono ?_
 rintro e w6 ⟨tv,rfl,ht,B6⟩
 obtain ⟨sl,hsl⟩ : ∃ sl,sl = (stf R.m.s.1).length:=⟨_,rfl⟩
 rw [← hsl] at ht
 have HSL:=Lib.hid hsl
 clear hsl
 obtain ⟨tA,tc,rfl⟩:=own_slice ht
 have hb10 : Blk w6 b10 _ _:=HB10.out.below B6 HB10.out.lt
 have c2:=hb10.cell 2
 have z2:=hb10.frozen 2
 simp at c2
 have HT:=Lib.hid ht
 have HB6:=Lib.hid B6
 clear ht B6
 have HBX:=Lib.hid hb10
 clear hb10
 go_wp2
 refine hK _ _ (fun h=>absurd h hs) ?_
 clear hK K c2 z2
 have hb8 : Blk w6 b8 _ _:=HB8.out.below HB6.out HB8.out.lt
 have hne : b8≠b10:=by have:=HG10.out; omega
 have hb10:=(HBX.out).set_ 2 (.slice tA (sl) tc)
 have hb8:=hb8.far (p:=⟨b10,2,none⟩) hne (.slice tA (sl) tc)
 simp only [List.setIfInBounds_toArray,List.set_cons_zero,List.set_cons_succ] at hb10
 obtain ⟨w7,hw7,g1,g2,g3⟩ : ∃ w7,w7 = w6.setCell ⟨b10,2,none⟩ (.slice tA (sl) tc)∧(∀ b,b≠b10→w7.heap[b]? = w6.heap[b]?)∧w7.heap.size = w6.heap.size∧w7.os = w6.os∧w7.output = w6.output:=⟨_,rfl,fun b hb=>Below.heap_setCell _ _ _ _ hb,by simp [World.setCell],rfl,rfl⟩
 rw [← hw7] at hb8 hb10 ⊢
 clear hw7 HBX
 refine Lg.move _ (fun _ _=>step_seq) (fun h=>h) ?_
 refine Lg.code fun K hK v τ4 n4 hv=>?_
 subst hv
 have hb10 : Blk v b10 _ _:=hb10
 have hb8 : Blk v b8 _ _:=hb8
 have o0:=hb8.cell 0
 have o1:=hb8.cell 1
 have o2:=hb8.cell 2
 have o3:=hb8.cell 3
 have z0:=hb8.frozen 0
 have z1:=hb8.frozen 1
 have z2:=hb8.frozen 2
 have z3:=hb8.frozen 3
 have e0:=hb10.cell 0
 have e1:=hb10.cell 1
 have e2:=hb10.cell 2
 have e3:=hb10.cell 3
 simp at o0 o1 o2 o3 e0 e1 e2 e3
 have HC8:=Lib.hid hb8
 have HG:=Lib.hid (And.intro g1 (And.intro g2 g3))
 clear hb8 hb10 g1 g2 g3
 go_wp2
 refine hK _ _ (fun h=>absurd h hs) ?_
 clear hK K o0 o1 o2 o3 z0 z1 z2 z3 e0 e1 e2 e3
 have hb8:=(((HC8.out.set_ 0 (.slice (some ⟨ab,0,none⟩) n n)).set_ 1 (.slice oA oL oc)).set_ 2 (.slice tA (sl) tc)).set_ 3 (.bool stk)
 simp only [List.setIfInBounds_toArray,List.set_cons_zero,List.set_cons_succ] at hb8
 obtain ⟨w9,hw9,k1,k2,k3⟩ : ∃ w9,w9 = (((v.setCell ⟨b8,0,none⟩ (.slice (some ⟨ab,0,none⟩) n n)).setCell ⟨b8,1,none⟩ (.slice oA oL oc)).setCell ⟨b8,2,none⟩ (.slice tA (sl) tc)).setCell ⟨b8,3,none⟩ (.bool stk)∧(∀ b,b≠b8→w9.heap[b]? = v.heap[b]?)∧w9.heap.size = v.heap.size∧w9.os = v.os∧w9.output = v.output:=
  ⟨_,rfl,fun b hb=>by rw [Below.heap_setCell _ _ _ _ hb,Below.heap_setCell _ _ _ _ hb,Below.heap_setCell _ _ _ _ hb,Below.heap_setCell _ _ _ _ hb],by simp [World.setCell],rfl,rfl⟩
 rw [← hw9] at hb8 ⊢
 clear hw9 HC8
 refine Lg.move _ (fun _ _=>step_ret) (fun h=>h) ?_
 refine Lg.leave rfl Try.func22 rfl (v:=.agg #[.slice (some ⟨ab,0,none⟩) n n,.slice oA oL oc,.slice tA (sl) tc,.bool stk]) (fun y τ n' hy=>?_) (HR.out _ _ _ ?_)
 ·have c0 : y.cell? ⟨b8,0,none⟩ = some (.slice (some ⟨ab,0,none⟩) n n):=by have:=hb8.cell 0; rw [hy] at this; exact this
  have c1 : y.cell? ⟨b8,1,none⟩ = some (.slice oA oL oc):=by have:=hb8.cell 1; rw [hy] at this; exact this
  have c2 : y.cell? ⟨b8,2,none⟩ = some (.slice tA (sl) tc):=by have:=hb8.cell 2; rw [hy] at this; exact this
  have c3 : y.cell? ⟨b8,3,none⟩ = some (.bool stk):=by have:=hb8.cell 3; rw [hy] at this; exact this
  simp [results,Try.f22,go_sem,c0,c1,c2,c3]
 obtain ⟨hans,hrat,hov,hBa,hoL,hst,hH,hltB⟩:=HX.out
 obtain rfl:=HSL.out
 obtain ⟨f1,f2,f3⟩:=HF.out
 obtain ⟨g1,g2,g3⟩:=HG.out
 have b6:=HB6.out
 have hG:=HG10.out
 have hge:=HGE.out
 have h8:=HZ2.out
 have hops:=HOPS.out
 have ho:=HO.out
 have sz0:=ho.size
 have s1:=hops.size
 have s6:=b6.size
 have f2 : p.heap.size = w4.heap.size + 1:=f2
 have g2 : v.heap.size = w6.heap.size:=g2
 have l8:=HB.out.lt
 subst hoL
 have far : ∀ b,b < w4.heap.size→b≠b8→w9.heap[b]? = w4.heap[b]?:=fun b h1 h2=>by
  rw [k1 b h2,show v.heap[b]? = w6.heap[b]? from g1 b (by omega),b6.block b (by omega)]
  exact f1 b h1
 have nbi : ∀ b,b < w0.heap.size→¬ BI I b:=fun b hb e=>by have:=hge b e; omega
 have nb8 : ¬ H b8:=hH b8 _ _ (0,0) (.inr ⟨by decide,fun e=>by have:=hge _ e; omega⟩) HB.out
 have hlt : ∀ b,H b∧¬ BI I b→b < w4.heap.size:=fun b hb=>by
  obtain ⟨c,t,r,h1,_⟩:=hans.near b hb
  exact lt_of_some h1
 refine ⟨⟨ab,.slice oA R.order.length oc,.slice tA (stf R.m.s.1).length tc,_,by omega,by rw [hst],?_,?_,hans.same fun b hb=>far b (hlt b hb) (fun e=>nb8 (e ▸ hb.1)),fun b c t r hc hb hH2=>?_,fun b hb hb2=>?_⟩,by omega,fun b c t r hc hb=>?_,?_⟩
 ·refine own_base (own_same hov fun b hb=>?_) (show w0.heap.size≤u.heap.size by omega)
  rcases hov.2 with ⟨e,_⟩ | ⟨g',cp2,cur,e,hg2,hh2,_⟩
  ·rw [e] at hb; simp [Value.ownBlock] at hb
  ·rw [e] at hb
   simp only [Value.ownBlock,Option.some.injEq] at hb
   subst hb
   exact far _ (lt_of_some hh2) (by omega)
 ·refine own_base (own_same HT.out fun b hb=>?_) (show w0.heap.size≤p.heap.size by omega)
  rcases HT.out.2 with ⟨e,_⟩ | ⟨g',cp2,cur,e,hg2,hh2,_⟩
  ·rw [e] at hb; simp [Value.ownBlock] at hb
  ·rw [e] at hb
   simp only [Value.ownBlock,Option.some.injEq] at hb
   subst hb
   have:=HB10.out.lt
   rw [k1 _ (by omega)]
   exact g1 _ (by omega)
 ·have hb0:=lt_of_some hb
  exact hH b c t r (hc.imp id fun z=>⟨z,nbi b hb0⟩) ((ho.block b hb0).trans hb) hH2.1
 ·rcases HT.out.2 with ⟨e,_⟩ | ⟨g',cp2,cur,e,hg2,hh2,_⟩
  ·rw [e] at hb; simp [Value.ownBlock] at hb
  ·rw [e] at hb
   simp only [Value.ownBlock,Option.some.injEq] at hb
   subst hb
   have:=hlt _ hb2
   omega
 ·have h1:=lt_of_some hb
  have h2:=hops.near b c t r (hc.imp id fun z=>⟨z,nbi b h1⟩) ((ho.block b h1).trans hb)
  rw [far b (lt_of_some h2) (by omega)]
  exact h2
 ·exact ⟨k3.1.trans (g3.1.trans (b6.os.trans (f3.1.trans (hops.io.1.trans ho.io.1)))),k3.2.trans (g3.2.trans (b6.output.trans (f3.2.trans (hops.io.2.trans ho.io.2))))⟩
set_option maxHeartbeats 1000000 in
theorem reader_play (hP : Prog Try.prog) (Post : Value→World→Prop) (W0 : World) (n : Nat) (ss : List Int) (sA : Option Addr) (sc : Nat) (hn : sizeO ss = n) (h0 : 0 < n) (h2 : n≤65536) (hbt : (bits BinOp.and IntKind.i64 (n : Int) ((n : Int) - 1) != 0) = false) (hf0 : 0≤firstO ss) (hf1 : firstO ss < 4611686018427387904) (hl : 2≤ss.length)
  (tA : Option Addr) (Tb To nt cp : Nat) (htA : 0 < nt→tA = some ⟨Tb,To,none⟩) (hnt : nt≤maxLen) (A : Nat→Option Addr) (len cap : Nat→Nat) (ops : Nat→List OpI) (sv : Value) (xs : List Int) (most : Int) (w0 : World) (hW : W0.heap.size≤w0.heap.size)
  (hst : NumsIn w0 sA sc ss) (hrows : RowsAt w0 Tb To (min nt 64) A len cap) (hin : OpsCells W0 SG w0 (min nt 64) A len ops) (hsch : SchI W0 sv xs (fun b=>∃ i o,i < min nt 64∧A i = some ⟨b,o,none⟩) w0)
  (hSo : Sound (brQ (doR (M0 n (firstO ss)) (min nt 64)) ops) (min nt 64) (r0O ss,fun _=>[])) :
  Ccalls (lgA hP Post W0) 22 #[.slice sA ss.length sc,.slice tA nt cp,sv,.int .i64 most] () w0 fun v _ w'=>PlayG W0 (stateR (min nt 64) (playRun (brQ (doR (M0 n (firstO ss)) (min nt 64)) ops) (min nt 64) (heldI most 1048576).toNat xs (r0O ss,fun _=>[])).m.s.1).length (stateR (min nt 64)) (playRun (brQ (doR (M0 n (firstO ss)) (min nt 64)) ops) (min nt 64) (heldI most 1048576).toNat xs (r0O ss,fun _=>[])) (min nt 64) w0 v w':=by
 refine reader_playP (ι:=RIds) (A0:=RdS) (fun I=>I.wb) (fun I=>(readY I).At) (fun I=>(readY I).BI) (fun I a w w' h hs=>(readY I).inner.at_ a w w' h hs) (fun I=>(readY I).Box) (fun I a G w w' h hs=>(readY I).box_ a G w w' h hs) (fun I=>I.Ok∧I.M.n = n∧I.M.first = firstO ss∧I.k = min nt 64) SG (r0O ss) (fun I=>doR I.M I.k) (doR (M0 n (firstO ss)) (min nt 64)) (stateR (min nt 64)) (.slice sA ss.length sc) hP Post W0 tA Tb To nt cp htA hnt A len cap ops sv xs most w0 hW hrows hin hsch (fun z hz=>?_) (fun I w hI hat=>?_) (fun I a G w hI hat hbox=>?_) (fun B I i hI hi=>?_) (fun I hI=>?_) hSo
 ·have hst' : NumsIn z sA sc ss:=⟨hst.le,hst.max,fun i hi=>by
   obtain ⟨b,o,h1,h2⟩:=hst.cells i hi
   exact ⟨b,o,h1,(World.cell?_of_block (w:=w0) (a:=⟨b,o + i,none⟩) (hz.block b (lt_of_cell h2))).trans h2⟩⟩
  exact reader_made z sA sc ss n tA nt cp hnt hst' hn h0 h2 hbt hf0 hf1 hl
 ·exact fun b hb=>hb
 ·obtain ⟨h1,rfl,h3,h4⟩:=hI
  rw [← h4]
  exact reader_state w I a G h1 hat hbox
 ·exact reader_doS B I hI.1 i
 ·obtain ⟨h1,h2,h3,h4⟩:=hI
  show doR I.M I.k = _
  rw [doR_eq,h2,h3,h4]
end Go.Proofs.Ytlhbonnminlnlaa
