/- DERIVED. A subscription ended (packages reader: Leave; bus: End), lone. -/
import Derived.Test.YtlhbonnminlnlaaGk
import Derived.Lib.SlicesDelete
import Derived.Lib.SliceRun
import Derived.Lib.RowBridge
import Derived.Sort.WalkB12
import Derived.Deep.LoopGhost
import Derived.Deep.RegionLaw
import Derived.WalkKit
import Derived.Shelf.RegionOpenPlain
import Derived.Test.YtlhbonnminlnlaaGq
set_option linter.unusedVariables false
set_option linter.unusedSectionVars false
set_option linter.unusedSimpArgs false
namespace Go.Proofs.Ytlhbonnminlnlaa
open Go.RowKit
set_option maxHeartbeats 4000000 in
theorem index_at (v : Value) (l : List Int) (k : Nat) (w : World) (h : MembersAt w v l) (hk : k < l.length) (hb : ∀ j (hj : j < k),l[j]≠l[k]) : Calls Try.prog 61 #[v,.int .i64 l[k]] w fun e w'=>e = .returned (.int .i64 k)∧w = w':=by
 obtain ⟨A,c,rfl,h2,h3,-,h5⟩:=h
 unfold maxLen at h3
 have HX:=Lib.hid (And.intro h5 hb)
 clear h5 hb
 obtain ⟨x,hx⟩ : ∃ x,x = l[k]:=⟨_,rfl⟩
 rw [← hx]
 have HX2:=Lib.hid hx
 clear hx
 go_enter Try.func61,Try.ntmps61
 go_wp2
 go_loopw [8] (fun q wr=>∃ j : Nat,j≤k∧q = .int .i64 j∧wr = w) (fun q _=>k - (intOf q).toNat)
 case atStart=>exact ⟨0,Nat.zero_le _,rfl,rfl⟩
 case round =>
  obtain ⟨j,hj,rfl,rfl⟩:=hrel
  have hjl : j < l.length:=by omega
  obtain ⟨L,rfl,c1⟩:=HX.out.1 j hjl
  have b1 : (j : Int) < l.length:=by omega
  by_cases hlt : j < k
  ·have hb : (x == l[j]) = false:=by
    have:=HX.out.2 j hlt
    rw [HX2.out]
    simp only [beq_eq_false_iff_ne]
    exact fun e=>this e.symm
   generalize l[j] = y at c1 hb
   go_wp2
   go_roundw
   case rel=>exact ⟨j + 1,by omega,by go_num,trivial⟩
   case measure=>simp [intOf]; omega
  ·have ej : j = k:=by omega
   subst ej
   rw [← HX2.out] at c1
   have hb : (x == x) = true:=by simp
   go_wp2
   go_ret
   exact ⟨rfl,rfl⟩
open Go.Lib Go.Sort Go.Shelf
theorem zero_int (w : World) : (zeroValue 3).run Try.prog w = .ok (.int .i64 0) w:=by
 simp [zeroValue]
 rfl
set_option maxHeartbeats 4000000 in
set_option maxRecDepth 1000000 in
theorem delete_arr_ok (blk off cap i j : Nat) (d : Array Int) (w : World) (hH : Holds (Value.int .i64) w blk off d) (hcap : d.size≤cap) (hm : cap≤9223372036854775807) (hlt : i < j) (hj : j≤d.size) :
  Calls Try.prog 62 #[.slice (some ⟨blk,off,none⟩) d.size cap,.int .i64 i,.int .i64 j] w fun e w'=>e = .returned (.slice (some ⟨blk,off,none⟩) (d.size - (j - i)) cap)∧∃ q,w' = putRow (Value.int .i64) (Sort.ahead w q) blk off (d.toList.take i ++ d.toList.drop j ++ List.replicate (j - i) 0).toArray:=by
 obtain ⟨i0,hi0,hz0,hz1,hz2⟩:=info_parts Try.infoI
 have hij : i≤j:=by omega
 have mixed : Try.prog.follows .mixedOrders = true:=by kernel_rfl
 obtain ⟨news,hnews⟩ : ∃ news,news = (d.toList.drop j).map (Value.int .i64):=⟨_,rfl⟩
 have hlen : news.length = d.size - j:=by rw [hnews]; simp
 have hget : ∀ t,t < d.size - j→news[t]? = some (Value.int .i64 d[j + t]!):=by
  intro t ht
  rw [hnews,List.getElem?_map,List.getElem?_drop,Array.getElem?_toList,getElem!_pos d (j + t) (by omega),Array.getElem?_eq_getElem (by omega)]
  rfl
 obtain ⟨A,hA,hsrc⟩ : ∃ A : Addr,(if cap = j then some (⟨blk,off,none⟩ : Addr) else some ⟨blk,off + j,none⟩) = some A∧Hid (∀ t u,news[t]? = some u→w.drew.cell? (A.add t) = some u):=by
  by_cases h : cap = j
  ·refine ⟨⟨blk,off,none⟩,by simp [h],fun t u hu=>?_⟩
   have h0 : news.length = 0:=by rw [hlen]; omega
   rw [List.length_eq_zero_iff.1 h0] at hu
   simp at hu
  ·refine ⟨⟨blk,off + j,none⟩,by simp [h],fun t u hu=>?_⟩
   have ht : t < d.size - j:=by
    have:=(List.getElem?_eq_some_iff.1 hu).1
    rwa [hlen] at this
   rw [hget t ht] at hu
   rw [Addr.add_lit,show off + j + t = off + (j + t) by omega]
   exact (hH (j + t) (by omega)).1.trans hu
 have s1 : Hid (news.length = (d.size - j) * 1):=by rw [Nat.mul_one]; exact hlen
 have s2 : Hid (∀ u ∈ news,u.oneCell' = true):=by
  intro u hu
  rw [hnews] at hu
  obtain ⟨x,_,rfl⟩:=List.mem_map.1 hu
  rfl
 have s3 : Hid (∀ t,t < news.length→(w.drew.cell? ⟨blk,off + i * 1 + t,none⟩).isSome = true∧w.drew.frozen? ⟨blk,off + i * 1 + t,none⟩ = false):=by
  intro t ht
  rw [hlen] at ht
  rw [Nat.mul_one,Nat.add_assoc]
  exact ⟨by show (w.cell? _).isSome = true; rw [(hH (i + t) (by omega)).1]; rfl,(hH (i + t) (by omega)).2⟩
 obtain ⟨W1,hW1⟩ : ∃ W1,W1 = w.drew.setCells blk (off + i * 1) news:=⟨_,rfl⟩
 have hW1' : W1 = putRow (Value.int .i64) (Sort.ahead w 1) blk off (lay d i (d.toList.drop j)):=by
  rw [hW1,hnews,Nat.mul_one,← putRow_setCells (Value.int .i64) (Sort.ahead w 1) blk off _ d i (by simp; omega),putRow_self (Value.int .i64) (Sort.ahead w 1) blk off d (holds_ahead (Value.int .i64) w 1 blk off d hH)]
  rfl
 have hH1 : Holds (Value.int .i64) W1 blk off (lay d i (d.toList.drop j)):=by rw [hW1']; exact holds_putRow (Value.int .i64) _ blk off d _ (holds_ahead (Value.int .i64) w 1 blk off d hH) (lay_size _ _ _)
 have hcl : ∀ ty,(Builtin.clear_ #[49] ty #[.slice (some ⟨blk,off + (i + (d.size - j)),none⟩) (d.size - (i + (d.size - j))) (cap - (i + (d.size - j)))]).run Try.prog W1 = .ok (.tuple #[]) (W1.setCells blk (off + (i + (d.size - j))) (List.replicate (d.size - (i + (d.size - j))) (Value.int .i64 0))):=
  fun ty=>Lib.run_clear_slice W1 _ _ ty _ Try.underlying49 zero_int rfl rfl blk (off + (i + (d.size - j))) _ _ (by omega) (fun t ht=>by rw [show off + (i + (d.size - j)) + t = off + (i + (d.size - j) + t) by omega,(hH1 _ (by rw [lay_size]; omega)).1]; rfl) (fun t ht=>by rw [show off + (i + (d.size - j)) + t = off + (i + (d.size - j) + t) by omega]; exact (hH1 _ (by rw [lay_size]; omega)).2)
 have X : Aside (W1 = putRow (Value.int .i64) (Sort.ahead w 1) blk off (lay d i (d.toList.drop j))):=hW1'
 have hW : Hid (W1 = w.drew.setCells blk (off + i * 1) news):=hW1
 have hic : i≤cap:=by omega
 have hjc : j≤cap:=by omega
 clear hW1 hW1' hH1 hH hget hnews hlen
 go_enter Try.func62,Try.ntmps62
 go_wp2_with fail
 go_region_law_o (refine step_append_room rfl (.tmp 22) (.tmp 25) 49 rfl 3 i0 1 Try.underlying49 hi0 hz1 blk off i cap (by simp [Act.eval,Act.put]) A (d.size - j) (cap - j) news (by simp [Act.eval,Act.put]) s1.out hsrc.out s2.out (by omega) s3.out ?_; rw [← hW.out])
 go_wp2
 go_ret
 refine ⟨by rw [show d.size - (j - i) = i + (d.size - j) by omega]; rfl,1,?_⟩
 rw [← delete_arr d i j 0 hij hj,← putRow_setCells (Value.int .i64) _ blk off _ _ (i + (d.size - j)) (by rw [lay_size]; simp; omega),← X.out,List.map_replicate,show d.size - (i + (d.size - j)) = j - i by omega]
theorem Kept.setCells {S : Nat→Prop} (g : Nat) (hg : S g) : ∀ (vs : List Value) (o : Nat) (w : World),Kept S w (w.setCells g o vs)
 | [],o,w=>Kept.refl S w
 | v :: vs,o,w=>(Kept.setCell w (p:=⟨g,o,none⟩) hg v).trans (Kept.setCells g hg vs (o + 1) _)
theorem delete_at (L c k : Nat) (l : List Int) (w : World) (hl : ∀ j (h : j < l.length),w.cell? ⟨L,j,none⟩ = some (.int .i64 l[j])) (hf : ∀ j,j < l.length→w.frozen? ⟨L,j,none⟩ = false) (hc : l.length≤c) (hm : c≤maxLen) (hk : k < l.length) :
  Calls Try.prog 62 #[.slice (some ⟨L,0,none⟩) l.length c,.int .i64 k,.int .i64 (k + 1 : Nat)] w fun e w'=>e = .returned (.slice (some ⟨L,0,none⟩) (l.length - 1) c)∧Kept (fun b=>b = L) w w'∧∀ j (h : j < (l.eraseIdx k).length),w'.cell? ⟨L,j,none⟩ = some (.int .i64 (l.eraseIdx k)[j]):=by
 have hH : Holds (Value.int .i64) w L 0 l.toArray:=fun j hj=>by
  have hj' : j < l.length:=by simpa using hj
  rw [Nat.zero_add]
  refine ⟨?_,hf j hj'⟩
  rw [hl j hj',getElem!_pos l.toArray j hj]
  rfl
 have h:=delete_arr_ok L 0 c k (k + 1) l.toArray w hH (by simpa using hc) (by unfold maxLen at hm; omega) (by omega) (by show k + 1≤l.length; omega)
 refine (by simpa using h : Calls _ _ #[.slice (some ⟨L,0,none⟩) l.length c,.int .i64 k,.int .i64 (k + 1 : Nat)] _ _).mono ?_
 rintro e w' ⟨rfl,q,rfl⟩
 have hlen : (l.take k ++ (l.drop (k + 1) ++ [0])).length = l.length:=by simp; omega
 refine ⟨rfl,?_,fun j hj=>?_⟩
 ·have:=Lib.putRow_eq_setCells (Value.int .i64) w L 0 l.toArray (l.take k ++ (l.drop (k + 1) ++ [0])) q hH (by simpa using hlen)
  rw [this]
  exact (Kept.drewN _ w q).trans (Kept.setCells (S:=fun b=>b = L) L rfl _ _ _)
 ·have h2:=holds_putRow (Value.int .i64) (Sort.ahead w q) L 0 l.toArray (l.take k ++ (l.drop (k + 1) ++ [0])).toArray (holds_ahead (Value.int .i64) w q L 0 _ hH) (by simpa using hlen)
  rw [List.length_eraseIdx_of_lt hk] at hj
  have h3:=(h2 j (by simp; omega)).1
  rw [Nat.zero_add] at h3
  have e0 : (List.take k l ++ (List.drop (k + 1) l ++ [0])).toArray[j]! = (l.eraseIdx k)[j]:=by
   rw [getElem!_pos _ j (by simp; omega)]
   simp only [List.getElem_toArray]
   have he : List.take k l ++ (List.drop (k + 1) l ++ [0]) = l.eraseIdx k ++ [0]:=by rw [List.eraseIdx_eq_take_drop_succ,List.append_assoc]
   rw [List.getElem_of_eq he,List.getElem_append_left]
  rw [← e0]
  exact h3
end Go.Proofs.Ytlhbonnminlnlaa
namespace Go.Proofs.Ytlhbonnminlnlaa
open Go.RowKit
theorem own_posF {w : World} {b0 n c : Nat} {e : TypeId} {A : Option Addr} {xs : List Value} (h : w.ownsRow b0 e 1 (.slice A n c) n xs) (hn : 0 < n) : ∃ L,A = some ⟨L,0,none⟩∧b0≤L∧n≤c∧c≤maxLen∧L < w.heap.size∧(∀ j u,xs[j]? = some u→w.cell? ⟨L,j,none⟩ = some u)∧∀ j,w.frozen? ⟨L,j,none⟩ = false:=by
 obtain ⟨m,rfl⟩ : ∃ m,n = m + 1:=⟨n - 1,by omega⟩
 have h0:=h
 obtain ⟨L,h1,h2,h3,h4,h5⟩:=own_succ h
 subst h1
 refine ⟨L,rfl,h2,h3,h4,(h.lt L rfl).2,h5,fun j=>?_⟩
 rcases h0.2 with ⟨_,h6⟩ | ⟨g,cap,cur,hv,hb,hg,_⟩
 ·omega
 ·simp only [Value.slice.injEq,Option.some.injEq,Addr.mk.injEq] at hv
  obtain ⟨⟨rfl,-⟩,-⟩:=hv
  simp [World.frozen?,hg]
set_option maxHeartbeats 4000000 in
set_option maxRecDepth 100000 in
theorem gate_leave (G i k : Nat) (gp : Option Addr) (mv : Value) (ml : List Int) (f : Nat→Int) (w : World) (hg : GateAt w G gp f) (hb : BoxV 162 gp mv w) (hm : MembersAt w mv ml) (hi : i < 64) (hk : k < ml.length) (hki : ml[k] = (i : Int)) (hnd : ∀ j (hj : j < k),ml[j]≠ml[k]) (hml : ml.length≤64) :
  Calls Try.prog 35 #[.pointer (some ⟨G,0,none⟩),.nilIface,.int .i64 i] w fun e w'=>e = .returned (.int .i64 0)∧Kept (fun b=>b = G) w w'∧∃ K L c,w.heap.size≤K∧w.heap.size≤L∧GateAt w' G (some ⟨K,0,none⟩) f ∧
   Blk w' K 162 #[.slice (some ⟨L,0,none⟩) (ml.length - 1) c,.int .i64 0]∧ml.length - 1≤c∧c≤maxLen∧∀ j (h : j < (ml.eraseIdx k).length),w'.cell? ⟨L,j,none⟩ = some (.int .i64 (ml.eraseIdx k)[j]):=by
 have HG:=Lib.hid hg
 have HM0:=Lib.hid (And.intro hb hm)
 have HI:=Lib.hid (And.intro hki hnd)
 clear hg hb hm hki hnd
 go_enter Try.func35,Try.ntmps35
 go_wp2_with (go_at_call 53; refine (refused_no _ i _ hi).mono ?_; rintro e w' ⟨rfl,rfl⟩)
 go_loopw [8] (fun _ wr=>wr = w) (fun _ _=>0)
 case atStart=>rfl
 case round =>
  subst hrel
  go_wp2_with fail
  refine (box_load_mb ⟨G,0,none⟩ gp _ HG.out.hd HM0.out.1.held).mono ?_
  rintro e w5 ⟨rfl,k5⟩
  have H5:=Lib.hid k5
  have k5z:=Lib.hid k5.size
  clear k5
  go_wp2_with fail
  have ha : Kept (fun _=>False) w5 (w5.alloc (.cells #[.pointer gp,.pointer (some ⟨G,0,none⟩)] 133)):=Kept.alloc _ _
  have hb14:=Blk.new w5 133 #[.pointer gp,.pointer (some ⟨G,0,none⟩)]
  generalize w5.alloc (.cells #[.pointer gp,.pointer (some ⟨G,0,none⟩)] 133) = w6 at *
  obtain ⟨b14,hb⟩ : ∃ x,w5.heap.size = x:=⟨_,rfl⟩
  rw [hb] at hb14 ⊢
  have H6:=Lib.hid (And.intro (H5.out.trans ha) (And.intro hb14 (And.intro hb H5.out.size)))
  clear ha hb14 hb H5
  refine (held_value_mb (some ⟨G,0,none⟩) gp mv _ (HM0.out.1.kept H6.out.1)).mono ?_
  rintro e w7 ⟨rfl,k7⟩
  have H7:=Lib.hid (H6.out.1.trans k7)
  have H67:=Lib.hid k7
  clear k7
  go_wp2_with fail
  have hix:=index_at mv ml k w7 (HM0.out.2.kept H7.out) hk HI.out.2
  rw [HI.out.1] at hix
  refine hix.mono ?_
  clear hix
  rintro e w8 ⟨rfl,rfl⟩
  have hk0 : (0 : Int)≤k:=by omega
  have hk1 : (k : Int) < 64:=by omega
  go_wp2_with fail
  rename_i K0 hK0
  have hGlt:=HG.out.lt
  have HB8:=Lib.hid (H6.out.2.1.kept H67.out id)
  have hne : b14≠G:=by have:=H6.out.2.2; have:=k5z.out; omega
  refine strictL ?_
  refine wp_region_held (S:=Kept (fun b=>b = G) w7) (by kernel_rfl) ?_
  simp only [List.size_toArray,List.length_cons,List.length_nil,Nat.reduceAdd]
  have HW1 : Hid (Kept (fun b=>b = G) w7 { w7 with drawn:=w7.drawn + 1 }):=Lib.hid (Kept.drew w7)
  iterate 9
   first
   | refine rdL 0 12 27 ?_
   | refine rdL 1 11 28 ?_
   | refine rdL 2 10 29 ?_
   | refine rdL 3 9 30 ?_
   | refine rdL 4 8 31 ?_
   | refine rdL 5 7 32 ?_
   | refine rdL 8 6 35 ?_
   | refine rdL 9 5 36 ?_
   | refine rdL 10 4 37 ?_
   refine ⟨_,rfl,rfl,by kernel_rfl,by kernel_rfl,by kernel_rfl,(fun c a w h=>by cases h.1),rfl,HW1.out,?_⟩
   apply Exists.intro
   refine ⟨fun wq hw=>?_,?_⟩
   ·have hb:=HB8.out.kept hw hne
    have c0 : wq.cell? ⟨b14,0,none⟩ = some (.pointer gp):=hb.cell 0
    have c1 : wq.cell? ⟨b14,1,none⟩ = some (.pointer (some ⟨G,0,none⟩)):=hb.cell 1
    clear hb
    go_simp
    rfl
   simp only [Act.put,List.setIfInBounds_toArray,List.set_cons_zero,List.set_cons_succ]
  have hkd : Kept (fun _=>False) w7 { w7 with drawn:=w7.drawn + 1 }:=Kept.drew w7
  clear HW1
  generalize ({ w7 with drawn:=w7.drawn + 1 } : World) = wd at hkd ⊢
  have HY0:=Lib.hid hkd
  clear hkd
  refine oneL (i:=6) (fuel:=3) (by kernel_rfl) rfl rfl fun K hK'=>?_
  unfold Oper.wp
  go_simp
  refine (held_value_mb (some ⟨G,0,none⟩) gp mv _ (HM0.out.1.kept (H7.out.trans HY0.out))).mono ?_
  rintro e wa ⟨rfl,k6⟩
  dsimp only
  have HY1:=Lib.hid (HY0.out.trans k6)
  clear k6
  refine hK' _ _ (HY1.out.mono fun _ _ z=>z.elim) ?_
  clear hK' K
  refine oneL (i:=7) (fuel:=2) (by kernel_rfl) rfl rfl fun K hK'=>?_
  unfold Oper.wp
  go_simp
  refine (clone_ok mv ml _ (HM0.out.2.kept (H7.out.trans HY1.out)) hml).mono ?_
  rintro e wb ⟨v7,rfl,k7,o7⟩
  obtain ⟨vA,vc,rfl⟩:=own_slice o7
  obtain ⟨L,rfl,l1,l2,l3,l4,l5,l6⟩:=own_posF o7 (by omega)
  dsimp only
  have HY2:=Lib.hid (HY1.out.trans k7)
  have HL:=Lib.hid (And.intro l1 (And.intro l2 (And.intro l3 (And.intro l4 (And.intro (fun j (h : j < ml.length)=>l5 j _ (by rw [List.getElem?_map,List.getElem?_eq_getElem h]; rfl)) l6)))))
  clear k7 o7 l1 l2 l3 l4 l5 l6
  refine hK' _ _ (HY2.out.mono fun _ _ z=>z.elim) ?_
  clear hK' K
  refine oneL (i:=11) (fuel:=1) (by kernel_rfl) rfl rfl fun K hK'=>?_
  unfold Oper.wp
  go_simp
  rw [show IntKind.i64.wrap ((k : Int) + 1) = ((k + 1 : Nat) : Int) from by rw [IntKind.wrap_i64]; omega]
  refine (delete_at L vc k ml wb HL.out.2.2.2.2.1 (fun j _=>HL.out.2.2.2.2.2 j) HL.out.2.1 HL.out.2.2.1 hk).mono ?_
  rintro e wc ⟨rfl,k11,m11⟩
  dsimp only
  have hs1:=HY1.out.size
  have hs2:=HL.out.1
  have HY3:=Lib.hid (HY2.out.later k11 (fun b hb=>by have hb : b = L:=hb; omega))
  have HC:=Lib.hid m11
  have hs3:=k11.size
  have hs4:=HL.out.2.2.2.1
  clear k11 m11
  refine hK' _ _ (HY3.out.mono fun _ _ z=>z.elim) ?_
  clear hK' K
  refine oneL (i:=12) (fuel:=0) (by kernel_rfl) rfl rfl fun K hK'=>?_
  unfold Oper.wp
  go_simp
  have hGc:=HG.out.kept (H7.out.trans HY3.out) id
  refine (box_cas_mb ⟨G,0,none⟩ gp _ (ml.length - 1) vc (some ⟨L,0,none⟩) wc hGc.hd (hGc.fz 0) (HM0.out.1.held.kept (H7.out.trans HY3.out)) rfl).mono ?_
  rintro e u2 ⟨rfl,kc,K1,hK1,bK1,u3,k3,hlt3,hu2⟩
  dsimp only
  have kc' : Kept (fun b=>b = G) wc u2:=kc
  have HX:=Lib.hid (And.intro kc' (And.intro bK1 (And.intro k3 (And.intro hu2 hGc))))
  have hs5:=HY3.out.size
  have hs6:=H7.out.size
  refine hK' _ _ ((HY3.out.mono fun _ _ z=>z.elim).trans kc') ?_
  clear hK' K kc kc' bK1 k3 hu2 hGc
  refine wpAnyH_done (by kernel_rfl) ⟨rfl,?_⟩ _
  refine hK0 _ _ ?_
  go_wp2
  go_ret
  obtain ⟨kc,bK1,k3,hu2,hGc⟩:=HX.out
  refine ⟨rfl,(((H7.out.trans HY3.out).mono fun _ _ z=>z.elim).trans kc),K1,L,vc,by omega,by omega,?_,bK1,?_,HL.out.2.2.1,fun j hj=>?_⟩
  ·rw [hu2]
   exact (hGc.kept k3 id).setHd _
  ·have:=HL.out.2.1; omega
  ·exact cell_keep (HC.out j hj) kc (fun e=>by have e : L = G:=e; omega)
end Go.Proofs.Ytlhbonnminlnlaa
namespace Go.Proofs.Ytlhbonnminlnlaa
open Go.RowKit
theorem rd_joined (r M G i : Nat) (j : Bool) (q : Int) (w : World) (h : RdAt w r M G i j q) : Calls Try.prog 18 #[.pointer (some ⟨r,0,none⟩)] w fun e w'=>e = .returned (.bool j)∧w = w':=by
 have c3 : w.cell? ⟨r,3,none⟩ = some (.bool j):=Blk.cell h 3
 clear h
 go_enter Try.func18,Try.ntmps18
 go_wp2
 go_ret
 exact ⟨rfl,rfl⟩
set_option maxHeartbeats 4000000 in
set_option maxRecDepth 100000 in
theorem reader_leaveR (r M G i k : Nat) (q : Int) (gp : Option Addr) (mv : Value) (ml : List Int) (f : Nat→Int) (w : World) (hr : RdAt w r M G i true q) (hg : GateAt w G gp f) (hb : BoxV 162 gp mv w) (hm : MembersAt w mv ml) (hi : i < 64) (hk : k < ml.length) (hki : ml[k] = (i : Int)) (hnd : ∀ j (hj : j < k),ml[j]≠ml[k]) (hml : ml.length≤64) (hrG : r≠G) :
  Calls Try.prog 17 #[.pointer (some ⟨r,0,none⟩),.nilIface] w fun e w'=>e = .returned (.int .i64 0)∧Kept (fun b=>b = G∨b = r) w w'∧RdAt w' r M G i false 0∧∃ K L c,w.heap.size≤K∧w.heap.size≤L∧GateAt w' G (some ⟨K,0,none⟩) f ∧
   Blk w' K 162 #[.slice (some ⟨L,0,none⟩) (ml.length - 1) c,.int .i64 0]∧ml.length - 1≤c∧c≤maxLen∧∀ j (h : j < (ml.eraseIdx k).length),w'.cell? ⟨L,j,none⟩ = some (.int .i64 (ml.eraseIdx k)[j]):=by
 have HH:=Lib.hid hr
 have HG:=Lib.hid (And.intro hg (And.intro hb hm))
 have HI:=Lib.hid (And.intro hki hnd)
 have hrlt:=Blk.lt hr
 clear hr hg hb hm hki hnd
 go_enter Try.func17,Try.ntmps17
 go_wp2_with (go_at_call 18; refine (rd_joined r M G i true q _ HH.out).mono ?_; rintro e w' ⟨rfl,rfl⟩)
 rename_i K0 hK0
 refine strictL ?_
 refine wp_region_held (S:=Kept (fun b=>b = G) w) (by kernel_rfl) ?_
 simp only [List.size_toArray,List.length_cons,List.length_nil,Nat.reduceAdd]
 have HW1 : Hid (Kept (fun b=>b = G) w { w with drawn:=w.drawn + 1 }):=Lib.hid (Kept.drew w)
 iterate 9
  first
  | refine rdL 0 10 9 ?_
  | refine rdL 1 9 10 ?_
  | refine rdL 2 8 11 ?_
  | refine rdL 3 7 12 ?_
  | refine rdL 4 6 13 ?_
  | refine rdL 5 5 14 ?_
  | refine rdL 6 4 15 ?_
  | refine rdL 7 3 16 ?_
  | refine rdL 8 2 17 ?_
  refine ⟨_,rfl,rfl,by kernel_rfl,by kernel_rfl,by kernel_rfl,(fun c a w h=>by cases h.1),rfl,HW1.out,?_⟩
  apply Exists.intro
  refine ⟨fun wq hw=>?_,?_⟩
  ·have hb:=Blk.kept HH.out hw hrG
   have c1 : wq.cell? ⟨r,1,none⟩ = some (.pointer (some ⟨G,0,none⟩)):=hb.cell 1
   have c2 : wq.cell? ⟨r,2,none⟩ = some (.int .i64 i):=hb.cell 2
   clear hb
   go_simp
   rfl
  simp only [Act.put,List.setIfInBounds_toArray,List.set_cons_zero,List.set_cons_succ]
 have hkd : Kept (fun _=>False) w { w with drawn:=w.drawn + 1 }:=Kept.drew w
 clear HW1
 generalize ({ w with drawn:=w.drawn + 1 } : World) = wd at hkd ⊢
 have HY0:=Lib.hid hkd
 clear hkd
 refine oneL (i:=9) (fuel:=1) (by kernel_rfl) rfl rfl fun K hK'=>?_
 unfold Oper.wp
 go_simp
 refine (gate_leave G i k gp mv ml f wd (HG.out.1.kept HY0.out id) (HG.out.2.1.kept HY0.out) (HG.out.2.2.kept HY0.out) hi hk HI.out.1 HI.out.2 hml).mono ?_
 rintro e w1 ⟨rfl,k1,J⟩
 dsimp only
 have H1:=Lib.hid (And.intro k1 J)
 have H1k:=Lib.hid ((HY0.out.mono fun _ _ z=>z.elim).trans k1)
 clear k1 J
 refine hK' _ _ H1k.out ?_
 clear hK' K
 refine oneL (i:=10) (fuel:=0) (by kernel_rfl) rfl rfl fun K hK'=>?_
 unfold Oper.wp
 go_simp
 refine hK' _ _ H1k.out ?_
 clear hK' K
 refine wpAnyH_done (by kernel_rfl) ⟨rfl,?_⟩ _
 refine hK0 _ _ ?_
 clear hK0 K0
 have hb:=Blk.kept HH.out H1k.out hrG
 have c3 : w1.cell? ⟨r,3,none⟩ = some (.bool true):=hb.cell 3
 have c4 : w1.cell? ⟨r,4,none⟩ = some (.int .i64 q):=hb.cell 4
 have z3 : w1.frozen? ⟨r,3,none⟩ = false:=hb.frozen 3
 have HRS:=Lib.hid ((hb.set_ 3 (.bool false)).set_ 4 (.int .i64 0))
 have z4 : w1.frozen? ⟨r,4,none⟩ = false:=hb.frozen 4
 clear hb
 go_wp2
 go_ret
 obtain ⟨k1,K,L,c,q1,q2,q3,q4,q5,q6,q7⟩:=H1.out
 have hs0:=HY0.out.size
 have ks : Kept (fun b=>b = r) w1 ((w1.setCell ⟨r,3,none⟩ (.bool false)).setCell ⟨r,4,none⟩ (.int .i64 0)):=(Kept.setCell (S:=fun b=>b = r) w1 (p:=⟨r,3,none⟩) rfl _).trans (Kept.setCell (S:=fun b=>b = r) _ (p:=⟨r,4,none⟩) rfl _)
 refine ⟨rfl,(H1k.out.mono fun _ _ z=>.inl z).trans (ks.mono fun _ _ z=>.inr z),HRS.out,K,L,c,by omega,by omega,q3.kept ks (fun e=>hrG e.symm),q4.kept ks (by omega),q5,q6,fun j hj=>cell_keep (q7 j hj) ks (by show ¬ L = r; omega)⟩
end Go.Proofs.Ytlhbonnminlnlaa
