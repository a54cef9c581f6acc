/- DERIVED. The statement's world (package carillonlaw13), walked: a whole Offer of the document's. -/
import Derived.Test.YtoepekcheapgmaaGo
import Derived.Deep.MidRow
import Derived.Deep.WholeRow
import Derived.Deep.AppendLies
set_option linter.unusedVariables false
set_option linter.unusedSectionVars false
set_option linter.unusedSimpArgs false
namespace Go.Proofs.Ytoepekcheapgmaa
open Go.RowKit Go.Turn
section
variable {P : Pl13} {B : Nat} {s : MulS} {u : Who13} {c : Cl13} {vL : Value} {f : Nat→Value} {X : Nat→Option Row} {w w' : World} {E : Rn13→Option Row}
theorem step13_ok (h : Mems B (allR P s u c vL f X) w) (k : P.Ok s) (ho : c.Ok P u) (hz : P.o + 11≤P.sz) (hB : B≤P.kb) (hBm : B≤P.mb) : Calls Try.prog 87 #[.pointer (some ⟨P.mb,0,none⟩),.pointer (some ⟨P.kb,P.o,none⟩),.pointer (some ⟨P.wb,0,none⟩)] w fun e w'=>e = .returned (.tuple #[])∧Left13 P B (stepC P.n P.fs s u c).1 u (stepC P.n P.fs s u c).2 f X w w':=by
  have h0:=ho.p0
  have h1:=ho.p1
  have : c.Ph = 1∨c.Ph = 2∨c.Ph = 3∨c.Ph = 4∨c.Ph = 5∨c.Ph = 6∨c.Ph = 7∨c.Ph = 8:=by omega
  rcases this with e | e | e | e | e | e | e | e
  · exact step13_1 h k ho hz hB hBm e
  · exact step13_2 h k ho hz hB hBm e
  · exact step13_3 h k ho hz hB hBm e
  · exact step13_4 h k ho hz hB hBm e
  · exact step13_5 h k ho hz hB hBm e
  · exact step13_6 h k ho hz hB hBm e
  · exact step13_7 h k ho hz hB hBm e
  · exact step13_8 h k ho hz hB hBm e
end
section
variable {P : Pl13} {u : Who13} {s : MulS} {c : Cl13}
theorem Cl13.Ok.seen (k : P.Ok s) (ho : c.Ok P u) (h0 : -1≤c.C) (h1 : c.C + c.N < 4611686018427387904) : (c.seen P.n P.fs).Ok P u:=by
  have:=ho.n0
  have:=k.f0
  have:=k.n0
  unfold Cl13.seen
  refine ⟨ho.n0,ho.n1,?_,?_,fun _=>⟨h0,h1⟩,fun z=>?_,fun z=>?_,ho.mem,ho.nums,ho.mems⟩
  · dsimp only; split <;> omega
  · dsimp only; split <;> omega
  · dsimp only at z; split at z <;> omega
  · dsimp only at z ⊢; split at z <;> omega
theorem Cl13.Ok.listed (ho : c.Ok P u) (h0 : -1≤c.C) (h1 : c.C + c.N < 4611686018427387904) : (c.listed u.mem).Ok P u:=by
  unfold Cl13.listed
  refine ⟨ho.n0,ho.n1,?_,?_,fun _=>⟨h0,h1⟩,fun z=>⟨?_,ho.mem⟩,fun z=>?_,ho.mem,ho.nums,ho.mems⟩
  · dsimp only; split <;> omega
  · dsimp only; split <;> omega
  · dsimp only at z ⊢
    by_cases e : u.mem.length = 0
    · rw [if_pos e] at z; omega
    · omega
  · dsimp only at z; split at z <;> omega
theorem stepC_ok (k : P.Ok s) (ho : c.Ok P u) (hd : (stepC P.n P.fs s u c).2.done = false) : (stepC P.n P.fs s u c).2.Ok P u:=by
  have h0:=ho.p0
  have h1:=ho.p1
  have hn:=ho.n0
  have c0:=k.c0
  unfold stepC at hd ⊢
  by_cases e : c.Ph = 1∨c.Ph = 2∨c.Ph = 3
  · rw [if_pos e] at hd ⊢
    unfold firstC at hd ⊢
    dsimp only at hd ⊢
    by_cases e1 : c.Ph = 1
    · rw [if_pos e1] at hd ⊢
      by_cases e2 : 4611686018427387904≤s.cur + c.N
      · rw [if_pos e2] at hd; exact absurd hd (by simp [Cl13.refuse])
      · rw [if_neg e2]
        exact ⟨ho.n0,ho.n1,by dsimp only; omega,by dsimp only; omega,fun _=>⟨c0,by dsimp only; omega⟩,fun z=>absurd z (by dsimp only; omega),fun z=>absurd z (by dsimp only; omega),ho.mem,ho.nums,ho.mems⟩
    · rw [if_neg e1]
      obtain ⟨g0,g1⟩:=ho.c0 e1
      have hg : ({ c with G:=s.seen } : Cl13).Ok P u:=⟨ho.n0,ho.n1,ho.p0,ho.p1,ho.c0,ho.l0,ho.q0,ho.mem,ho.nums,ho.mems⟩
      by_cases e2 : c.Ph = 2
      · rw [if_pos e2]
        by_cases e3 : c.wide P.n s.seen = false
        · rw [if_pos e3]; exact hg.seen k g0 g1
        · rw [if_neg e3]
          by_cases e4 : u.gate
          · rw [if_pos e4]
            exact ⟨ho.n0,ho.n1,by dsimp only; omega,by dsimp only; omega,fun _=>⟨g0,g1⟩,fun z=>absurd z (by dsimp only; omega),fun z=>absurd z (by dsimp only; omega),ho.mem,ho.nums,ho.mems⟩
          · rw [if_neg e4]; exact hg.listed g0 g1
      · rw [if_neg e2]; exact ho.listed g0 g1
  · rw [if_neg e] at hd ⊢
    obtain ⟨g0,g1⟩:=ho.c0 (by omega)
    by_cases e4 : c.Ph = 4
    · rw [if_pos e4]
      obtain ⟨l0,l1⟩:=ho.l0 e4
      refine ⟨ho.n0,ho.n1,?_,?_,fun _=>⟨g0,g1⟩,fun z=>⟨?_,l1⟩,fun z=>?_,ho.mem,ho.nums,ho.mems⟩
      · dsimp only; split <;> omega
      · dsimp only; split <;> omega
      · dsimp only at z ⊢
        by_cases e : c.I + 1 = c.list.length
        · rw [if_pos e] at z; omega
        · omega
      · dsimp only at z; split at z <;> omega
    rw [if_neg e4] at hd ⊢
    by_cases e5 : c.Ph = 5
    · rw [if_pos e5] at hd ⊢
      dsimp only at hd ⊢
      by_cases e6 : c.wide P.n c.L = true
      · rw [if_pos e6] at hd; exact absurd hd (by simp [Cl13.refuse])
      · rw [if_neg e6]; exact ho.seen k g0 g1
    rw [if_neg e5] at hd ⊢
    by_cases e6 : c.Ph = 6
    · rw [if_pos e6]
      dsimp only
      obtain ⟨q0,q1⟩:=ho.q0 e6
      split
      · refine ⟨ho.n0,ho.n1,?_,?_,fun _=>⟨g0,g1⟩,fun z=>?_,fun z=>?_,ho.mem,ho.nums,ho.mems⟩
        · dsimp only; split <;> omega
        · dsimp only; split <;> omega
        · dsimp only at z; split at z <;> omega
        · dsimp only at z ⊢; split at z <;> omega
      · exact ⟨ho.n0,ho.n1,by simp [Cl13.ph],by simp [Cl13.ph],fun _=>⟨g0,g1⟩,fun z=>absurd z (by simp [Cl13.ph]),fun z=>absurd z (by simp [Cl13.ph]),ho.mem,ho.nums,ho.mems⟩
    rw [if_neg e6] at hd ⊢
    have hp1 : (c.ph 1).Ok P u:=⟨ho.n0,ho.n1,by simp [Cl13.ph],by simp [Cl13.ph],fun z=>absurd rfl z,fun z=>absurd z (by simp [Cl13.ph]),fun z=>absurd z (by simp [Cl13.ph]),ho.mem,ho.nums,ho.mems⟩
    by_cases e7 : c.Ph = 7
    · rw [if_pos e7] at hd ⊢
      dsimp only at hd ⊢
      by_cases e : s.cur = c.C
      · rw [if_pos e] at hd; exact absurd hd (by simp [Cl13.refuse])
      · rw [if_neg e]; exact hp1
    rw [if_neg e7] at hd ⊢
    by_cases e : s.cur = c.C
    · rw [if_pos e] at hd; cases hd
    · rw [if_neg e]; exact hp1
theorem stepC_ring (k : P.Ok s) (ho : c.Ok P u) : P.Ok (stepC P.n P.fs s u c).1:=by
  have hn:=ho.n0
  unfold stepC
  by_cases e : c.Ph = 1∨c.Ph = 2∨c.Ph = 3
  · rw [if_pos e]; exact k
  rw [if_neg e]
  by_cases e4 : c.Ph = 4
  · rw [if_pos e4]; exact k
  rw [if_neg e4]
  by_cases e5 : c.Ph = 5
  · rw [if_pos e5]; exact ⟨k.n0,k.n1,k.f0,k.f1,k.c0,k.c1⟩
  rw [if_neg e5]
  by_cases e6 : c.Ph = 6
  · rw [if_pos e6]; exact k
  rw [if_neg e6]
  by_cases e7 : c.Ph = 7
  · rw [if_pos e7]; exact k
  rw [if_neg e7]
  obtain ⟨g0,g1⟩:=ho.c0 (by omega)
  by_cases e : s.cur = c.C
  · rw [if_pos e]; exact ⟨k.n0,k.n1,k.f0,k.f1,by dsimp only; omega,g1⟩
  · rw [if_neg e]; exact k
end
def putC (n : Nat) (s : MulS) (ph q v : Int) : MulS:=
  if ph = 1 then { s with st:=upd s.st (q % n).toNat (2 * (q / n) - 1) }
  else if ph = 2 then { s with va:=upd s.va (q % n).toNat v }
  else { s with st:=upd s.st (q % n).toNat (2 * (q / n)) }
section
variable {P : Pl13} {B : Nat} {s : MulS} {E : Rn13→Option Row} {w w' : World}
set_option maxHeartbeats 1000000 in
set_option maxRecDepth 100000 in
theorem put13_1 (h : Mems B (mulR P s E) w) (k : P.Ok s) (q v : Int) (g : GoodQ q) : Calls Try.prog 72 #[.pointer (some ⟨P.mb,0,none⟩),.int .i64 1,.int .i64 q,.int .i64 v] w fun e w'=>e = .returned (.bool false)∧Mems B (mulR P (putC P.n s 1 q v) E) w'∧Below B w w':=by
  obtain ⟨g0,g1⟩:=id g
  have n0:=k.n0
  have n1:=k.n1
  have hb0 : 0≤q % (P.n : Int):=Int.emod_nonneg _ (by omega)
  have hb1 : q % (P.n : Int) < P.n:=Int.emod_lt_of_pos _ (by omega)
  have hd0 : 0≤q / (P.n : Int):=Int.ediv_nonneg g0 (by omega)
  have hd1 : q / (P.n : Int)≤q:=Int.ediv_le_self _ g0
  obtain ⟨j,hj⟩ : ∃ j : Nat,q % (P.n : Int) = j:=⟨_,(Int.toNat_of_nonneg hb0).symm⟩
  obtain ⟨l,hl⟩ : ∃ l,q / (P.n : Int) = l:=⟨_,rfl⟩
  have HS:=Lib.hid (show ∀ z,Mems B (mulR P s E) z→Calls Try.prog 100 #[.pointer (some ⟨P.mb,0,none⟩),.int .i64 q] z fun e w'=>e = .returned (.int .i64 j)∧z = w' from fun z hz=>hj ▸ slot13_ok hz k q g)
  have HL:=Lib.hid (show ∀ z,Mems B (mulR P s E) z→Calls Try.prog 101 #[.pointer (some ⟨P.mb,0,none⟩),.int .i64 q] z fun e w'=>e = .returned (.int .i64 l)∧z = w' from fun z hz=>hl ▸ lap13_ok hz k q g)
  have hB : B≤P.sb∧B≤P.vb:=⟨(h.lt (r:=.S) rfl (b:=P.sb) rfl).1,(h.lt (r:=.V) rfl (b:=P.vb) rfl).1⟩
  unfold putC
  rw [hj,hl,Int.toNat_natCast]
  rw [if_pos rfl]
  rw [hj] at hb0 hb1
  rw [hl] at hd0 hd1
  have hjn : j < P.n:=by omega
  have HM:=Lib.hid (And.intro h (Below.refl B w))
  clear h k g hj hl
  go_enter Try.func72,Try.ntmps72
  refine wp_cut fun K hK=>?_
  go_wp2
  refine hK.out _ _ ?_
  clear hK K
  refine wp_cut fun K hK=>?_
  go_wp2_with (go_at_call 100; refine (HS.out _ HM.out.1).mono ?_; rintro e w' ⟨rfl,hw'⟩; subst hw')
  refine hK.out _ _ ?_
  clear hK K
  refine wp_cut fun K hK=>?_
  refine wp_cut fun K hK=>?_
  go_wp2
  refine hK.out _ _ ?_
  clear hK K
  refine wp_block ?_
  refine wp_cut fun K hK=>?_
  go_wp2
  refine hK.out _ _ ?_
  clear hK K
  refine wp_cond_true rfl ?_
  have m1:=mcell HM.out.1 1 (by omega)
  simp only [mF] at m1
  refine wp_region_lastQ 14 (by kernel_rfl) (by kernel_rfl) (by kernel_rfl) (by kernel_rfl) ?_
  simp only [idle,List.modify_toArray,List.modify_succ_cons,List.modify_zero_cons,List.size_toArray,List.length_cons,List.length_nil,Nat.reduceAdd]
  repeat (go_big_quiet_step (first | (go_at_call 101; exact quietS (HL.out _ (HM.out.1.drewN _)))))
  refine wpQuiet_nil ?_
  rintro _ ⟨nq,rfl⟩
  refine wpOps_list (m:=14) rfl ?_
  have hmd:=Lib.hid (And.intro (HM.out.1.drewN nq) (HM.out.2.trans (Below.drewN (Below.refl B _) nq)))
  clear HM
  have HM:=hmd
  clear hmd
  generalize World.drewN _ nq = w1 at *
  have sj:=stcell HM.out.1 j hjn
  have fj:=stfroz HM.out.1 j
  go_wp2
  refine hK.out _ _ ?_
  clear hK K
  go_wp2
  go_ret
  exact ⟨rfl,stset HM.out.1 j _,HM.out.2.setCell hB.1 _⟩
set_option maxHeartbeats 1000000 in
set_option maxRecDepth 100000 in
theorem put13_2 (h : Mems B (mulR P s E) w) (k : P.Ok s) (q v : Int) (g : GoodQ q) : Calls Try.prog 72 #[.pointer (some ⟨P.mb,0,none⟩),.int .i64 2,.int .i64 q,.int .i64 v] w fun e w'=>e = .returned (.bool false)∧Mems B (mulR P (putC P.n s 2 q v) E) w'∧Below B w w':=by
  obtain ⟨g0,g1⟩:=id g
  have n0:=k.n0
  have n1:=k.n1
  have hb0 : 0≤q % (P.n : Int):=Int.emod_nonneg _ (by omega)
  have hb1 : q % (P.n : Int) < P.n:=Int.emod_lt_of_pos _ (by omega)
  have hd0 : 0≤q / (P.n : Int):=Int.ediv_nonneg g0 (by omega)
  have hd1 : q / (P.n : Int)≤q:=Int.ediv_le_self _ g0
  obtain ⟨j,hj⟩ : ∃ j : Nat,q % (P.n : Int) = j:=⟨_,(Int.toNat_of_nonneg hb0).symm⟩
  obtain ⟨l,hl⟩ : ∃ l,q / (P.n : Int) = l:=⟨_,rfl⟩
  have HS:=Lib.hid (show ∀ z,Mems B (mulR P s E) z→Calls Try.prog 100 #[.pointer (some ⟨P.mb,0,none⟩),.int .i64 q] z fun e w'=>e = .returned (.int .i64 j)∧z = w' from fun z hz=>hj ▸ slot13_ok hz k q g)
  have HL:=Lib.hid (show ∀ z,Mems B (mulR P s E) z→Calls Try.prog 101 #[.pointer (some ⟨P.mb,0,none⟩),.int .i64 q] z fun e w'=>e = .returned (.int .i64 l)∧z = w' from fun z hz=>hl ▸ lap13_ok hz k q g)
  have hB : B≤P.sb∧B≤P.vb:=⟨(h.lt (r:=.S) rfl (b:=P.sb) rfl).1,(h.lt (r:=.V) rfl (b:=P.vb) rfl).1⟩
  unfold putC
  rw [hj,hl,Int.toNat_natCast]
  rw [if_neg (by decide),if_pos rfl]
  rw [hj] at hb0 hb1
  rw [hl] at hd0 hd1
  have hjn : j < P.n:=by omega
  have HM:=Lib.hid (And.intro h (Below.refl B w))
  clear h k g hj hl
  go_enter Try.func72,Try.ntmps72
  refine wp_cut fun K hK=>?_
  go_wp2
  refine hK.out _ _ ?_
  clear hK K
  refine wp_cut fun K hK=>?_
  go_wp2_with (go_at_call 100; refine (HS.out _ HM.out.1).mono ?_; rintro e w' ⟨rfl,hw'⟩; subst hw')
  refine hK.out _ _ ?_
  clear hK K
  refine wp_cut fun K hK=>?_
  refine wp_cut fun K hK=>?_
  go_wp2
  refine hK.out _ _ ?_
  clear hK K
  refine wp_block ?_
  refine wp_cut fun K hK=>?_
  go_wp2
  refine hK.out _ _ ?_
  clear hK K
  refine wp_cond_false rfl ?_
  refine wp_cut fun K hK=>?_
  go_wp2
  refine hK.out _ _ ?_
  clear hK K
  refine wp_cond_true rfl ?_
  have m2:=mcell HM.out.1 2 (by omega)
  simp only [mF] at m2
  have sj:=vacell HM.out.1 j hjn
  have fj:=vafroz HM.out.1 j
  go_wp2
  refine hK.out _ _ ?_
  clear hK K
  go_wp2
  go_ret
  exact ⟨rfl,vaset HM.out.1 j _,HM.out.2.setCell hB.2 _⟩
set_option maxHeartbeats 1000000 in
set_option maxRecDepth 100000 in
theorem put13_3 (h : Mems B (mulR P s E) w) (k : P.Ok s) (q v : Int) (g : GoodQ q) : Calls Try.prog 72 #[.pointer (some ⟨P.mb,0,none⟩),.int .i64 3,.int .i64 q,.int .i64 v] w fun e w'=>e = .returned (.bool true)∧Mems B (mulR P (putC P.n s 3 q v) E) w'∧Below B w w':=by
  obtain ⟨g0,g1⟩:=id g
  have n0:=k.n0
  have n1:=k.n1
  have hb0 : 0≤q % (P.n : Int):=Int.emod_nonneg _ (by omega)
  have hb1 : q % (P.n : Int) < P.n:=Int.emod_lt_of_pos _ (by omega)
  have hd0 : 0≤q / (P.n : Int):=Int.ediv_nonneg g0 (by omega)
  have hd1 : q / (P.n : Int)≤q:=Int.ediv_le_self _ g0
  obtain ⟨j,hj⟩ : ∃ j : Nat,q % (P.n : Int) = j:=⟨_,(Int.toNat_of_nonneg hb0).symm⟩
  obtain ⟨l,hl⟩ : ∃ l,q / (P.n : Int) = l:=⟨_,rfl⟩
  have HS:=Lib.hid (show ∀ z,Mems B (mulR P s E) z→Calls Try.prog 100 #[.pointer (some ⟨P.mb,0,none⟩),.int .i64 q] z fun e w'=>e = .returned (.int .i64 j)∧z = w' from fun z hz=>hj ▸ slot13_ok hz k q g)
  have HL:=Lib.hid (show ∀ z,Mems B (mulR P s E) z→Calls Try.prog 101 #[.pointer (some ⟨P.mb,0,none⟩),.int .i64 q] z fun e w'=>e = .returned (.int .i64 l)∧z = w' from fun z hz=>hl ▸ lap13_ok hz k q g)
  have hB : B≤P.sb∧B≤P.vb:=⟨(h.lt (r:=.S) rfl (b:=P.sb) rfl).1,(h.lt (r:=.V) rfl (b:=P.vb) rfl).1⟩
  unfold putC
  rw [hj,hl,Int.toNat_natCast]
  rw [if_neg (by decide),if_neg (by decide)]
  rw [hj] at hb0 hb1
  rw [hl] at hd0 hd1
  have hjn : j < P.n:=by omega
  have HM:=Lib.hid (And.intro h (Below.refl B w))
  clear h k g hj hl
  go_enter Try.func72,Try.ntmps72
  refine wp_cut fun K hK=>?_
  go_wp2
  refine hK.out _ _ ?_
  clear hK K
  refine wp_cut fun K hK=>?_
  go_wp2_with (go_at_call 100; refine (HS.out _ HM.out.1).mono ?_; rintro e w' ⟨rfl,hw'⟩; subst hw')
  refine hK.out _ _ ?_
  clear hK K
  refine wp_cut fun K hK=>?_
  refine wp_cut fun K hK=>?_
  go_wp2
  refine hK.out _ _ ?_
  clear hK K
  refine wp_block ?_
  refine wp_cut fun K hK=>?_
  go_wp2
  refine hK.out _ _ ?_
  clear hK K
  refine wp_cond_false rfl ?_
  refine wp_cut fun K hK=>?_
  go_wp2
  refine hK.out _ _ ?_
  clear hK K
  refine wp_cond_false rfl ?_
  have m1:=mcell HM.out.1 1 (by omega)
  simp only [mF] at m1
  refine wp_region_lastQ 13 (by kernel_rfl) (by kernel_rfl) (by kernel_rfl) (by kernel_rfl) ?_
  simp only [idle,List.modify_toArray,List.modify_succ_cons,List.modify_zero_cons,List.size_toArray,List.length_cons,List.length_nil,Nat.reduceAdd]
  repeat (go_big_quiet_step (first | (go_at_call 101; exact quietS (HL.out _ (HM.out.1.drewN _)))))
  refine wpQuiet_nil ?_
  rintro _ ⟨nq,rfl⟩
  refine wpOps_list (m:=13) rfl ?_
  have hmd:=Lib.hid (And.intro (HM.out.1.drewN nq) (HM.out.2.trans (Below.drewN (Below.refl B _) nq)))
  clear HM
  have HM:=hmd
  clear hmd
  generalize World.drewN _ nq = w1 at *
  have sj:=stcell HM.out.1 j hjn
  have fj:=stfroz HM.out.1 j
  go_wp2
  refine hK.out _ _ ?_
  clear hK K
  go_wp2
  go_ret
  exact ⟨rfl,stset HM.out.1 j _,HM.out.2.setCell hB.1 _⟩
end
end Go.Proofs.Ytoepekcheapgmaa
namespace Go.Proofs.Ytoepekcheapgmaa
open Go.RowKit Go.Turn
def newC (n : Nat) (N : Int) : Cl13:=if N < 1∨(n : Int) < N then ⟨N,1,0,0,0,0,[],0,true,0,1⟩ else ⟨N,1,0,0,0,0,[],0,false,0,0⟩
def clCells (c : Cl13) : Array Value:=#[.int .i64 c.N,.int .i64 c.Ph,.int .i64 c.C,.int .i64 c.G,.int .i64 c.L,.int .i64 c.Q,.slice none 0 0,.int .i64 c.I,.bool c.done,.int .i64 c.last,.int .i64 c.err]
def clV (c : Cl13) : Value:=.agg (clCells c)
section
variable {P : Pl13} {B : Nat} {s : MulS} {E : Rn13→Option Row} {w w' : World}
set_option maxHeartbeats 1000000 in
set_option maxRecDepth 100000 in
theorem newclaim_ok (h : Mems B (mulR P s E) w) (k : P.Ok s) (N : Int) : Calls Try.prog 86 #[.pointer (some ⟨P.mb,0,none⟩),.int .i64 N] w fun e w'=>e = .returned (clV (newC P.n N))∧w' = (w.alloc (.cells (clCells (newC P.n N)) 108)).alloc (.cells (clCells (newC P.n N)) 108):=by
  have m0:=mcell h 0 (by omega)
  simp only [mF] at m0
  have n0:=k.n0
  have n1:=k.n1
  clear h k
  have lm:=lt_of_cell m0
  unfold newC
  by_cases h1 : N < 1
  · rw [if_pos (.inl h1)]
    have d1 : decide (N < 1) = true:=decide_eq_true h1
    go_enter Try.func86,Try.ntmps86
    go_wp2
    have hbl:=(Blk.new w 108 #[.int .i64 N,.int .i64 1,.int .i64 0,.int .i64 0,.int .i64 0,.int .i64 0,.slice none 0 0,.int .i64 0,.bool true,.int .i64 0,.int .i64 1]).alloc (.cells #[.int .i64 N,.int .i64 1,.int .i64 0,.int .i64 0,.int .i64 0,.int .i64 0,.slice none 0 0,.int .i64 0,.bool true,.int .i64 0,.int .i64 1] 108)
    have c0:=hbl.cell 0
    have c1:=hbl.cell 1
    have c2:=hbl.cell 2
    have c3:=hbl.cell 3
    have c4:=hbl.cell 4
    have c5:=hbl.cell 5
    have c6:=hbl.cell 6
    have c7:=hbl.cell 7
    have c8:=hbl.cell 8
    have c9:=hbl.cell 9
    have c10:=hbl.cell 10
    simp only [List.getElem?_toArray,List.getElem?_cons_zero,List.getElem?_cons_succ] at c0 c1 c2 c3 c4 c5 c6 c7 c8 c9 c10
    refine bodyPost_ret (v:=.agg #[.int .i64 N,.int .i64 1,.int .i64 0,.int .i64 0,.int .i64 0,.int .i64 0,.slice none 0 0,.int .i64 0,.bool true,.int .i64 0,.int .i64 1]) ?_ rfl ⟨rfl,rfl⟩
    simp [results,Try.func86,go_sem,c0,c1,c2,c3,c4,c5,c6,c7,c8,c9,c10]
  have d1 : decide (N < 1) = false:=decide_eq_false h1
  by_cases h2 : (P.n : Int) < N
  · rw [if_pos (.inr h2)]
    have d2 : decide ((P.n : Int) < N) = true:=decide_eq_true h2
    go_enter Try.func86,Try.ntmps86
    go_wp2
    have hbl:=(Blk.new w 108 #[.int .i64 N,.int .i64 1,.int .i64 0,.int .i64 0,.int .i64 0,.int .i64 0,.slice none 0 0,.int .i64 0,.bool true,.int .i64 0,.int .i64 1]).alloc (.cells #[.int .i64 N,.int .i64 1,.int .i64 0,.int .i64 0,.int .i64 0,.int .i64 0,.slice none 0 0,.int .i64 0,.bool true,.int .i64 0,.int .i64 1] 108)
    have c0:=hbl.cell 0
    have c1:=hbl.cell 1
    have c2:=hbl.cell 2
    have c3:=hbl.cell 3
    have c4:=hbl.cell 4
    have c5:=hbl.cell 5
    have c6:=hbl.cell 6
    have c7:=hbl.cell 7
    have c8:=hbl.cell 8
    have c9:=hbl.cell 9
    have c10:=hbl.cell 10
    simp only [List.getElem?_toArray,List.getElem?_cons_zero,List.getElem?_cons_succ] at c0 c1 c2 c3 c4 c5 c6 c7 c8 c9 c10
    refine bodyPost_ret (v:=.agg #[.int .i64 N,.int .i64 1,.int .i64 0,.int .i64 0,.int .i64 0,.int .i64 0,.slice none 0 0,.int .i64 0,.bool true,.int .i64 0,.int .i64 1]) ?_ rfl ⟨rfl,rfl⟩
    simp [results,Try.func86,go_sem,c0,c1,c2,c3,c4,c5,c6,c7,c8,c9,c10]
  · rw [if_neg (by omega)]
    have d2 : decide ((P.n : Int) < N) = false:=decide_eq_false h2
    go_enter Try.func86,Try.ntmps86
    go_wp2
    have hbl:=(Blk.new w 108 #[.int .i64 N,.int .i64 1,.int .i64 0,.int .i64 0,.int .i64 0,.int .i64 0,.slice none 0 0,.int .i64 0,.bool false,.int .i64 0,.int .i64 0]).alloc (.cells #[.int .i64 N,.int .i64 1,.int .i64 0,.int .i64 0,.int .i64 0,.int .i64 0,.slice none 0 0,.int .i64 0,.bool false,.int .i64 0,.int .i64 0] 108)
    have c0:=hbl.cell 0
    have c1:=hbl.cell 1
    have c2:=hbl.cell 2
    have c3:=hbl.cell 3
    have c4:=hbl.cell 4
    have c5:=hbl.cell 5
    have c6:=hbl.cell 6
    have c7:=hbl.cell 7
    have c8:=hbl.cell 8
    have c9:=hbl.cell 9
    have c10:=hbl.cell 10
    simp only [List.getElem?_toArray,List.getElem?_cons_zero,List.getElem?_cons_succ] at c0 c1 c2 c3 c4 c5 c6 c7 c8 c9 c10
    refine bodyPost_ret (v:=.agg #[.int .i64 N,.int .i64 1,.int .i64 0,.int .i64 0,.int .i64 0,.int .i64 0,.slice none 0 0,.int .i64 0,.bool false,.int .i64 0,.int .i64 0]) ?_ rfl ⟨rfl,rfl⟩
    simp [results,Try.func86,go_sem,c0,c1,c2,c3,c4,c5,c6,c7,c8,c9,c10]
structure Hi13 where
  F : Int
  T : Int
  Q : Int
  done : Bool
  N : Int
def hF (h : Hi13) : Nat→Value
  | 0=>.int .i64 h.F
  | 1=>.int .i64 h.T
  | 2=>.int .i64 h.Q
  | 3=>.bool h.done
  | _=>.int .i64 h.N
def hiV (h : Hi13) : Value:=.agg #[.int .i64 h.F,.int .i64 h.T,.int .i64 h.Q,.bool h.done,.int .i64 h.N]
def newH (n : Nat) (F T : Int) : Hi13:=if ¬ GoodQ F∨T < F then ⟨F,min T (min (F + n - 1) 4611686018427387903),F,true,F - 1⟩ else ⟨F,min T (min (F + n - 1) 4611686018427387903),F,false,0⟩
set_option maxHeartbeats 1000000 in
set_option maxRecDepth 100000 in
theorem newhigh_ok (h : Mems B (mulR P s E) w) (k : P.Ok s) (F T : Int) (g : GoodQ F) : Calls Try.prog 90 #[.pointer (some ⟨P.mb,0,none⟩),.int .i64 F,.int .i64 T] w fun e w'=>e = .returned (hiV (newH P.n F T))∧Kept (fun _=>False) w w':=by
  obtain ⟨g0,g1⟩:=id g
  have m0:=mcell h 0 (by omega)
  simp only [mF] at m0
  have n0:=k.n0
  have n1:=k.n1
  have HG:=Lib.hid g
  clear h k
  have lm:=lt_of_cell m0
  unfold newH
  have HGD:=Lib.hid (good13_ok F)
  by_cases h2 : T < F
  · rw [if_pos (.inr h2)]
    have d2 : decide (T < F) = true:=decide_eq_true h2
    have HE:=Lib.hid (show min T (min (F + (P.n : Int) - 1) 4611686018427387903) = T by omega)
    go_enter Try.func90,Try.ntmps90
    go_wp2_with (go_at_call 88; refine (HGD.out _).mono ?_; rintro e w' ⟨rfl,hw'⟩; subst hw')
    have hbl:=(Blk.new w 114 #[.int .i64 F,.int .i64 T,.int .i64 F,.bool true,.int .i64 (F - 1)]).alloc (.cells #[.int .i64 F,.int .i64 T,.int .i64 F,.bool true,.int .i64 (F - 1)] 114)
    have c0:=hbl.cell 0
    have c1:=hbl.cell 1
    have c2:=hbl.cell 2
    have c3:=hbl.cell 3
    have c4:=hbl.cell 4
    simp only [List.getElem?_toArray,List.getElem?_cons_zero,List.getElem?_cons_succ] at c0 c1 c2 c3 c4
    refine bodyPost_ret (v:=.agg #[.int .i64 F,.int .i64 T,.int .i64 F,.bool true,.int .i64 (F - 1)]) ?_ rfl ⟨by rw [HE.out]; rfl,(Kept.alloc w _).trans (Kept.alloc _ _)⟩
    simp [results,Try.func90,go_sem,c0,c1,c2,c3,c4]
  · rw [if_neg (fun z=>z.elim (fun z=>z HG.out) h2)]
    have d2 : decide (T < F) = false:=decide_eq_false h2
    by_cases h3 : T≤F + P.n - 1
    · by_cases h4 : T≤4611686018427387903
      · have HE:=Lib.hid (show min T (min (F + (P.n : Int) - 1) 4611686018427387903) = T by omega)
        go_enter Try.func90,Try.ntmps90
        go_wp2_with (go_at_call 88; refine (HGD.out _).mono ?_; rintro e w' ⟨rfl,hw'⟩; subst hw')
        have hbl:=(Blk.new w 114 #[.int .i64 F,.int .i64 T,.int .i64 F,.bool false,.int .i64 0]).alloc (.cells #[.int .i64 F,.int .i64 T,.int .i64 F,.bool false,.int .i64 0] 114)
        have c0:=hbl.cell 0
        have c1:=hbl.cell 1
        have c2:=hbl.cell 2
        have c3:=hbl.cell 3
        have c4:=hbl.cell 4
        simp only [List.getElem?_toArray,List.getElem?_cons_zero,List.getElem?_cons_succ] at c0 c1 c2 c3 c4
        refine bodyPost_ret (v:=.agg #[.int .i64 F,.int .i64 T,.int .i64 F,.bool false,.int .i64 0]) ?_ rfl ⟨by rw [HE.out]; rfl,(Kept.alloc w _).trans (Kept.alloc _ _)⟩
        simp [results,Try.func90,go_sem,c0,c1,c2,c3,c4]
      · have HE:=Lib.hid (show min T (min (F + (P.n : Int) - 1) 4611686018427387903) = 4611686018427387903 by omega)
        go_enter Try.func90,Try.ntmps90
        go_wp2_with (go_at_call 88; refine (HGD.out _).mono ?_; rintro e w' ⟨rfl,hw'⟩; subst hw')
        have hbl:=(Blk.new w 114 #[.int .i64 F,.int .i64 4611686018427387903,.int .i64 F,.bool false,.int .i64 0]).alloc (.cells #[.int .i64 F,.int .i64 4611686018427387903,.int .i64 F,.bool false,.int .i64 0] 114)
        have c0:=hbl.cell 0
        have c1:=hbl.cell 1
        have c2:=hbl.cell 2
        have c3:=hbl.cell 3
        have c4:=hbl.cell 4
        simp only [List.getElem?_toArray,List.getElem?_cons_zero,List.getElem?_cons_succ] at c0 c1 c2 c3 c4
        refine bodyPost_ret (v:=.agg #[.int .i64 F,.int .i64 4611686018427387903,.int .i64 F,.bool false,.int .i64 0]) ?_ rfl ⟨by rw [HE.out]; rfl,(Kept.alloc w _).trans (Kept.alloc _ _)⟩
        simp [results,Try.func90,go_sem,c0,c1,c2,c3,c4]
    · by_cases h4 : F + P.n - 1≤4611686018427387903
      · have HE:=Lib.hid (show min T (min (F + (P.n : Int) - 1) 4611686018427387903) = F + P.n - 1 by omega)
        go_enter Try.func90,Try.ntmps90
        go_wp2_with (go_at_call 88; refine (HGD.out _).mono ?_; rintro e w' ⟨rfl,hw'⟩; subst hw')
        have hbl:=(Blk.new w 114 #[.int .i64 F,.int .i64 (F + P.n - 1),.int .i64 F,.bool false,.int .i64 0]).alloc (.cells #[.int .i64 F,.int .i64 (F + P.n - 1),.int .i64 F,.bool false,.int .i64 0] 114)
        have c0:=hbl.cell 0
        have c1:=hbl.cell 1
        have c2:=hbl.cell 2
        have c3:=hbl.cell 3
        have c4:=hbl.cell 4
        simp only [List.getElem?_toArray,List.getElem?_cons_zero,List.getElem?_cons_succ] at c0 c1 c2 c3 c4
        refine bodyPost_ret (v:=.agg #[.int .i64 F,.int .i64 (F + P.n - 1),.int .i64 F,.bool false,.int .i64 0]) ?_ rfl ⟨by rw [HE.out]; rfl,(Kept.alloc w _).trans (Kept.alloc _ _)⟩
        simp [results,Try.func90,go_sem,c0,c1,c2,c3,c4]
      · have HE:=Lib.hid (show min T (min (F + (P.n : Int) - 1) 4611686018427387903) = 4611686018427387903 by omega)
        go_enter Try.func90,Try.ntmps90
        go_wp2_with (go_at_call 88; refine (HGD.out _).mono ?_; rintro e w' ⟨rfl,hw'⟩; subst hw')
        have hbl:=(Blk.new w 114 #[.int .i64 F,.int .i64 4611686018427387903,.int .i64 F,.bool false,.int .i64 0]).alloc (.cells #[.int .i64 F,.int .i64 4611686018427387903,.int .i64 F,.bool false,.int .i64 0] 114)
        have c0:=hbl.cell 0
        have c1:=hbl.cell 1
        have c2:=hbl.cell 2
        have c3:=hbl.cell 3
        have c4:=hbl.cell 4
        simp only [List.getElem?_toArray,List.getElem?_cons_zero,List.getElem?_cons_succ] at c0 c1 c2 c3 c4
        refine bodyPost_ret (v:=.agg #[.int .i64 F,.int .i64 4611686018427387903,.int .i64 F,.bool false,.int .i64 0]) ?_ rfl ⟨by rw [HE.out]; rfl,(Kept.alloc w _).trans (Kept.alloc _ _)⟩
        simp [results,Try.func90,go_sem,c0,c1,c2,c3,c4]
end
end Go.Proofs.Ytoepekcheapgmaa
namespace Go.Proofs.Ytoepekcheapgmaa
open Go.RowKit Go.Turn
def kRow (P : Pl13) (m : Nat) (g f : Nat→Value) : Row:=⟨P.T,P.sz,.slice (some ⟨P.kb,0,none⟩) 1 1,1,inF P.o m g f⟩
def withK (r : Row) (E : Rn13→Option Row) : Rn13→Option Row
  | .K=>some r
  | x=>E x
def stepH (n : Nat) (st : Nat→Int) (h : Hi13) : Hi13:=
  if st (h.Q % n).toNat = 2 * (h.Q / n) then (if h.Q = h.T then { h with done:=true,N:=h.Q,Q:=h.Q + 1 } else { h with Q:=h.Q + 1 }) else { h with done:=true,N:=h.Q - 1 }
section
variable {P : Pl13} {B : Nat} {s : MulS} {E : Rn13→Option Row} {w w' : World} {f : Nat→Value} {hi : Hi13}
theorem hcell (h : Mems B (mulR P s (withK (kRow P 5 (hF hi) f) E)) w) (hz : P.o + 5≤P.sz) (i : Nat) (hl : i < 5) : w.cell? ⟨P.kb,P.o + i,none⟩ = some (hF hi i):=by
  have:=h.cell (r:=.K) rfl (show P.o + i < 1 * P.sz by omega)
  rw [this,inF_at hl]
theorem hfroz (h : Mems B (mulR P s (withK (kRow P 5 (hF hi) f) E)) w) (i : Nat) : w.frozen? ⟨P.kb,i,none⟩ = false:=h.frozen (r:=.K) rfl i
theorem hset (h : Mems B (mulR P s (withK (kRow P 5 (hF hi) f) E)) w) {h' : Hi13} (i : Nat) (v : Value) (hl : i < 5) (hg : ∀ j,j < 5→hF h' j = if j = i then v else hF hi j) : Mems B (mulR P s (withK (kRow P 5 (hF h') f) E)) (w.setCell ⟨P.kb,P.o + i,none⟩ v):=
  h.set (r:=.K) (f':=inF P.o 5 (hF h') f) rfl (P.o + i) v rfl (fun k hk=>inF_set hl hg k) fun r hr=>by cases r <;> first | exact absurd rfl hr | rfl
set_option maxHeartbeats 1000000 in
set_option maxRecDepth 100000 in
theorem stephigh_ok (h : Mems B (mulR P s (withK (kRow P 5 (hF hi) f) E)) w) (k : P.Ok s) (hz : P.o + 5≤P.sz) (hB : B≤P.kb) (g : GoodQ hi.Q) : Calls Try.prog 91 #[.pointer (some ⟨P.mb,0,none⟩),.pointer (some ⟨P.kb,P.o,none⟩)] w fun e w'=>e = .returned (.tuple #[])∧Mems B (mulR P s (withK (kRow P 5 (hF (stepH P.n s.st hi)) f) E)) w'∧Below B w w':=by
  obtain ⟨g0,g1⟩:=id g
  obtain ⟨F,T,Q,dn,N⟩:=hi
  dsimp only at g g0 g1
  have HP:=Lib.hid k
  have HG:=Lib.hid g
  have HM:=Lib.hid (And.intro h (Below.refl B w))
  clear h k g
  unfold stepH
  dsimp only
  obtain ⟨b,hb⟩ : ∃ b,decide (s.st ((Q % P.n).toNat) = 2 * (Q / P.n)) = b:=⟨_,rfl⟩
  have HT : Hid (∀ n,Calls Try.prog 108 #[.pointer (some ⟨P.mb,0,none⟩),.int .i64 Q] (w.drewN n) fun e w'=>e = .returned (.bool b)∧∃ m,w' = (w.drewN n).drewN m):=Lib.hid fun n=>by rw [← hb]; exact there13_ok (HM.out.1.drewN _) HP.out _ HG.out
  go_enter Try.func91,Try.ntmps91
  cases b with
  | false =>
    rw [if_neg (of_decide_eq_false hb)]
    clear hb
    refine wp_cut fun K2 hK2=>?_
    have k2:=hcell HM.out.1 hz 2 (by omega)
    simp only [hF,Nat.add_zero] at k2
    refine wp_cut fun K hK=>?_
    go_quiet (first | (go_at_call 108; exact quietD (HT.out _)))
    clear HT
    have hmd:=Lib.hid (And.intro (HM.out.1.drewN nq) (HM.out.2.trans (Below.drewN (Below.refl B _) nq)))
    clear HM
    have HM:=hmd
    clear hmd
    generalize World.drewN _ nq = w1 at *
    refine hK.out _ _ ?_
    clear hK K
    clear k2
    refine wp_cond_true rfl ?_
    clear hK2
    have k3:=hcell HM.out.1 hz 3 (by omega)
    simp only [hF,Nat.add_zero] at k3
    have f3:=hfroz HM.out.1 (P.o + 3)
    refine wp_cut fun K hK=>?_
    go_wp2
    refine hK.out _ _ ?_
    clear hK K
    clear k3 f3
    have hm:=Lib.hid (And.intro (hset (h':=⟨F,T,Q,true,N⟩) HM.out.1 3 (.bool true) (by omega) (fun j hj=>by rcases j with _ | _ | _ | _ | _ | j <;> first | rfl | omega)) (HM.out.2.setCell (p:=⟨P.kb,P.o + 3,none⟩) hB (.bool true)))
    clear HM
    have HM:=hm
    clear hm
    generalize World.setCell _ _ _ = w2 at *
    have k2:=hcell HM.out.1 hz 2 (by omega)
    simp only [hF,Nat.add_zero] at k2
    have k4:=hcell HM.out.1 hz 4 (by omega)
    simp only [hF,Nat.add_zero] at k4
    have f4:=hfroz HM.out.1 (P.o + 4)
    go_wp2
    refine bodyPost_ret (results_none rfl _ _ _) rfl ?_
    exact ⟨rfl,hset (h':=⟨F,T,Q,true,Q - 1⟩) HM.out.1 4 (.int .i64 (Q - 1)) (by omega) (fun j hj=>by rcases j with _ | _ | _ | _ | _ | j <;> first | rfl | omega),HM.out.2.setCell hB (.int .i64 (Q - 1))⟩
  | true =>
    rw [if_pos (of_decide_eq_true hb)]
    clear hb
    refine wp_cut fun K2 hK2=>?_
    have k2:=hcell HM.out.1 hz 2 (by omega)
    simp only [hF,Nat.add_zero] at k2
    refine wp_cut fun K hK=>?_
    go_quiet (first | (go_at_call 108; exact quietD (HT.out _)))
    clear HT
    have hmd:=Lib.hid (And.intro (HM.out.1.drewN nq) (HM.out.2.trans (Below.drewN (Below.refl B _) nq)))
    clear HM
    have HM:=hmd
    clear hmd
    generalize World.drewN _ nq = w1 at *
    refine hK.out _ _ ?_
    clear hK K
    clear k2
    refine wp_cond_false rfl ?_
    go_wp2
    refine hK2.out _ _ ?_
    clear hK2 K2
    refine wp_cut fun K2 hK2=>?_
    have k2:=hcell HM.out.1 hz 2 (by omega)
    simp only [hF,Nat.add_zero] at k2
    have k1:=hcell HM.out.1 hz 1 (by omega)
    simp only [hF,Nat.add_zero] at k1
    refine wp_cut fun K hK=>?_
    go_quiet (fail)
    have hmd:=Lib.hid (And.intro (HM.out.1.drewN nq) (HM.out.2.trans (Below.drewN (Below.refl B _) nq)))
    clear HM
    have HM:=hmd
    clear hmd
    generalize World.drewN _ nq = w2 at *
    refine hK.out _ _ ?_
    clear hK K
    clear k2 k1
    by_cases he : Q = T
    · have d1 : (Q == T) = true:=by simpa using he
      rw [if_pos he] at hK2
      clear he
      refine wp_cond_true (congrArg _ d1) ?_
      have k3:=hcell HM.out.1 hz 3 (by omega)
      simp only [hF,Nat.add_zero] at k3
      have f3:=hfroz HM.out.1 (P.o + 3)
      refine wp_cut fun K hK=>?_
      go_wp2
      refine hK.out _ _ ?_
      clear hK K
      clear k3 f3
      have hm:=Lib.hid (And.intro (hset (h':=⟨F,T,Q,true,N⟩) HM.out.1 3 (.bool true) (by omega) (fun j hj=>by rcases j with _ | _ | _ | _ | _ | j <;> first | rfl | omega)) (HM.out.2.setCell (p:=⟨P.kb,P.o + 3,none⟩) hB (.bool true)))
      clear HM
      have HM:=hm
      clear hm
      generalize World.setCell _ _ _ = w3 at *
      have k2:=hcell HM.out.1 hz 2 (by omega)
      simp only [hF,Nat.add_zero] at k2
      have k4:=hcell HM.out.1 hz 4 (by omega)
      simp only [hF,Nat.add_zero] at k4
      have f4:=hfroz HM.out.1 (P.o + 4)
      go_wp2
      refine hK2.out _ _ ?_
      clear hK2 K2 k2 k4 f4
      have hm:=Lib.hid (And.intro (hset (h':=⟨F,T,Q,true,Q⟩) HM.out.1 4 (.int .i64 Q) (by omega) (fun j hj=>by rcases j with _ | _ | _ | _ | _ | j <;> first | rfl | omega)) (HM.out.2.setCell (p:=⟨P.kb,P.o + 4,none⟩) hB (.int .i64 Q)))
      clear HM
      have HM:=hm
      clear hm
      generalize World.setCell _ _ _ = w4 at *
      have k2:=hcell HM.out.1 hz 2 (by omega)
      simp only [hF,Nat.add_zero] at k2
      have f2:=hfroz HM.out.1 (P.o + 2)
      go_wp2
      go_end0
      exact ⟨rfl,hset (h':=⟨F,T,Q + 1,true,Q⟩) HM.out.1 2 (.int .i64 (Q + 1)) (by omega) (fun j hj=>by rcases j with _ | _ | _ | _ | _ | j <;> first | rfl | omega),HM.out.2.setCell hB (.int .i64 (Q + 1))⟩
    · have d1 : (Q == T) = false:=by simpa using he
      rw [if_neg he] at hK2
      clear he
      refine wp_cond_false (congrArg _ d1) ?_
      go_wp2
      refine hK2.out _ _ ?_
      clear hK2 K2
      have k2:=hcell HM.out.1 hz 2 (by omega)
      simp only [hF,Nat.add_zero] at k2
      have f2:=hfroz HM.out.1 (P.o + 2)
      go_wp2
      go_end0
      exact ⟨rfl,hset (h':=⟨F,T,Q + 1,dn,N⟩) HM.out.1 2 (.int .i64 (Q + 1)) (by omega) (fun j hj=>by rcases j with _ | _ | _ | _ | _ | j <;> first | rfl | omega),HM.out.2.setCell hB (.int .i64 (Q + 1))⟩
end
section
variable {P : Pl13} {B : Nat} {s : MulS} {E : Rn13→Option Row} {w w' : World}
theorem put13_ok (h : Mems B (mulR P s E) w) (k : P.Ok s) (ph q v : Int) (g : GoodQ q) (h0 : 1≤ph) (h1 : ph≤3) : Calls Try.prog 72 #[.pointer (some ⟨P.mb,0,none⟩),.int .i64 ph,.int .i64 q,.int .i64 v] w fun e w'=>e = .returned (.bool (decide (ph = 3)))∧Mems B (mulR P (putC P.n s ph q v) E) w'∧Below B w w':=by
  have : ph = 1∨ph = 2∨ph = 3:=by omega
  rcases this with e | e | e
  · subst e; exact put13_1 h k q v g
  · subst e; exact put13_2 h k q v g
  · subst e; exact put13_3 h k q v g
end
end Go.Proofs.Ytoepekcheapgmaa
namespace Go.Proofs.Ytoepekcheapgmaa
open Go.RowKit Go.Turn
structure Of13 where
  k : Cl13
  vs : List Int
  I : Nat
  Ph : Int
  done : Bool
  last : Int
  err : Int
def oF (o : Of13) (vO : Value) : Nat→Value
  | 0=>vO
  | 1=>.int .i64 o.I
  | 2=>.int .i64 o.Ph
  | 3=>.bool o.done
  | 4=>.int .i64 o.last
  | _=>.int .i64 o.err
abbrev ofF (P : Pl13) (o : Of13) (vO : Value) (f : Nat→Value) : Nat→Value:=inF (P.o + 11) 6 (oF o vO) f
def ofCells (o : Of13) (vO : Value) : Array Value:=#[.int .i64 o.k.N,.int .i64 o.k.Ph,.int .i64 o.k.C,.int .i64 o.k.G,.int .i64 o.k.L,.int .i64 o.k.Q,.slice none 0 0,.int .i64 o.k.I,.bool o.k.done,.int .i64 o.k.last,.int .i64 o.k.err,vO,.int .i64 o.I,.int .i64 o.Ph,.bool o.done,.int .i64 o.last,.int .i64 o.err]
theorem Kept.setRow (w : World) (g : Nat) (c : Array Value) : Kept (fun b=>b = g) w (w.setRow g c):=
  ⟨rfl,rfl,rfl,by simp [World.setRow],fun k hk hs=>by simp [World.setRow,Array.getElem?_modify,Ne.symm hs]⟩
theorem Blk.setRow {w : World} {g : Nat} {t : TypeId} {cs : Array Value} (h : Blk w g t cs) (c : Array Value) : Blk (w.setRow g c) g t c:=by
  unfold Blk at h ⊢
  simp [World.setRow,Array.getElem?_modify,h]
theorem Blk.range {w : World} {g : Nat} {t : TypeId} {cs : Array Value} (h : Blk w g t cs) : w.rangeAt g 0 cs.toList:=fun j v hv=>by
  rw [Nat.zero_add,h.cell j]
  simpa using hv
theorem setRow_last {w : World} {g : Nat} {t : TypeId} {c c' : Array Value} (h : g = w.heap.size) : (w.alloc (.cells c t)).setRow g c' = w.alloc (.cells c' t):=by
  subst h; exact World.setRow_alloc_new w c c' t
def newO (n : Nat) (vs : List Int) : Of13:=⟨newC n vs.length,vs,0,1,(newC n vs.length).done,0,(newC n vs.length).err⟩
def stepO (n : Nat) (fs : Int) (s : MulS) (u : Who13) (o : Of13) : MulS × Of13:=
  if o.k.done = false then ((stepC n fs s u o.k).1,{ o with k:=(stepC n fs s u o.k).2,done:=(stepC n fs s u o.k).2.done && decide ((stepC n fs s u o.k).2.err≠0),err:=(stepC n fs s u o.k).2.err })
  else (putC n s o.Ph (o.k.last - o.vs.length + 1 + o.I) (o.vs.getD o.I 0),
    if o.Ph = 3 then (if o.I + 1 = o.vs.length then { o with Ph:=1,I:=o.I + 1,done:=true,last:=o.k.last } else { o with Ph:=1,I:=o.I + 1 }) else { o with Ph:=o.Ph + 1 })
section
variable {P : Pl13} {B : Nat} {s : MulS} {u : Who13} {o : Of13} {vL vO : Value} {f : Nat→Value} {X : Nat→Option Row} {w w' : World} {E : Rn13→Option Row}
theorem ocell (h : Mems B (allR P s u o.k vL (ofF P o vO f) X) w) (hz : P.o + 17≤P.sz) (i : Nat) (hi : i < 6) : w.cell? ⟨P.kb,P.o + (11 + i),none⟩ = some (oF o vO i):=by
  have:=h.cell (r:=.K) rfl (show P.o + (11 + i) < 1 * P.sz by omega)
  rw [this]
  unfold inF ofF inF
  rw [if_neg (by omega),if_pos (by omega),show P.o + (11 + i) - (P.o + 11) = i by omega]
theorem oset (h : Mems B (allR P s u o.k vL (ofF P o vO f) X) w) {o' : Of13} (i : Nat) (v : Value) (hi : i < 6) (hk : o'.k = o.k) (hg : ∀ j,j < 6→oF o' vO j = if j = i then v else oF o vO j) : Mems B (allR P s u o'.k vL (ofF P o' vO f) X) (w.setCell ⟨P.kb,P.o + (11 + i),none⟩ v):=by
  rw [hk]
  refine h.set (r:=.K) (f':=inF P.o 11 (kF o.k vL) (ofF P o' vO f)) rfl (P.o + (11 + i)) v rfl (fun k hk=>?_) fun r hr=>by cases r <;> first | exact absurd rfl hr | rfl
  have:=inF_set (o:=P.o + 11) (m:=6) (g:=oF o vO) (g':=oF o' vO) (f:=f) (u:=v) hi hg k
  unfold inF at this
  unfold inF ofF inF
  by_cases h1 : P.o≤k∧k < P.o + 11
  · rw [if_pos h1,if_neg (by omega),if_pos h1]
  · rw [if_neg h1,if_neg h1]
    by_cases h2 : P.o + 11≤k∧k < P.o + 11 + 6
    · rw [if_pos h2] at this ⊢
      rw [if_pos h2] at this
      rw [if_pos h2,this]
      by_cases e : k = P.o + 11 + i
      · rw [if_pos e,if_pos (by omega)]
      · rw [if_neg e,if_neg (by omega)]
    · rw [if_neg h2,if_neg h2,if_neg (by omega)]
theorem newC_eq (n : Nat) (N : Int) : ∃ b e,newC n N = ⟨N,1,0,0,0,0,[],0,b,0,e⟩:=by
  unfold newC
  split
  · exact ⟨_,_,rfl⟩
  · exact ⟨_,_,rfl⟩
theorem Try.size110 : (Try.prog.info? 110).map (·.size) = some 17:=by kernel_rfl
set_option maxRecDepth 100000 in
theorem Try.under110 : ∃ d,Try.prog.underlying 110 = some d∧d.isRow = true:=⟨_,rfl,rfl⟩
set_option maxHeartbeats 1000000 in
set_option maxRecDepth 100000 in
theorem newoffer_ok (h : Mems B (mulR P s E) w) (k : P.Ok s) (A : Option Addr) (cp : Nat) (vs : List Int) (hl : vs.length≤maxLen) : Calls Try.prog 89 #[.pointer (some ⟨P.mb,0,none⟩),.slice A vs.length cp] w fun e w'=>e = .returned (.agg (ofCells (newO P.n vs) (.slice A vs.length cp)))∧Kept (fun _=>False) w w':=by
  unfold newO ofCells
  obtain ⟨b,er,hbe⟩:=newC_eq P.n vs.length
  have HNC : Hid (∀ z,Kept (fun _=>False) w z→Calls Try.prog 86 #[.pointer (some ⟨P.mb,0,none⟩),.int .i64 vs.length] z fun e w'=>e = .returned (.agg #[.int .i64 vs.length,.int .i64 1,.int .i64 0,.int .i64 0,.int .i64 0,.int .i64 0,.slice none 0 0,.int .i64 0,.bool b,.int .i64 0,.int .i64 er])∧Kept (fun _=>False) z w'):=Lib.hid fun z hz=>by
    have:=newclaim_ok (h.same (w':=z) fun b hb=>hz.block b hb id) k vs.length
    rw [hbe] at this
    exact this.mono fun e w' ⟨h1,h2⟩=>⟨h1,h2 ▸ (Kept.alloc _ _).trans (Kept.alloc _ _)⟩
  rw [hbe]
  clear h k hbe
  obtain ⟨L,hL⟩ : ∃ L,L = vs.length:=⟨_,rfl⟩
  rw [← hL] at hl HNC ⊢
  clear hL
  unfold maxLen at hl
  go_enter Try.func89,Try.ntmps89
  have hk0 : Kept (fun _=>False) w (w.alloc (.cells #[.int .i64 0,.int .i64 0,.int .i64 0,.int .i64 0,.int .i64 0,.int .i64 0,.slice none 0 0,.int .i64 0,.bool false,.int .i64 0,.int .i64 0,.slice none 0 0,.int .i64 0,.int .i64 0,.bool false,.int .i64 0,.int .i64 0] 110)):=Kept.alloc _ _
  have hb0:=Blk.new w 110 #[.int .i64 0,.int .i64 0,.int .i64 0,.int .i64 0,.int .i64 0,.int .i64 0,.slice none 0 0,.int .i64 0,.bool false,.int .i64 0,.int .i64 0,.slice none 0 0,.int .i64 0,.int .i64 0,.bool false,.int .i64 0,.int .i64 0]
  have H0:=Lib.hid (And.intro hk0 hb0)
  clear hk0 hb0
  refine wp_cut fun K hK=>?_
  go_wp2
  refine hK.out _ _ ?_
  clear hK K
  obtain ⟨b4,hb4⟩ : ∃ b4,b4 = w.heap.size:=⟨_,rfl⟩
  rw [← hb4] at H0 ⊢
  have HB4:=Lib.hid hb4
  clear hb4
  generalize World.alloc _ _ = w1 at *
  refine wp_cut fun K hK=>?_
  go_wp2_with (first | (go_at_call 86; refine (HNC.out _ H0.out.1).mono ?_; rintro e w2 ⟨rfl,k2⟩) | (refine wpList_store_row rfl 110 (.tmp 5) (.tmp 11) rfl _ _ rfl rfl 110 _ (Blk.new w2 _ _) Try.size110 (by rfl) (by simp [Value.oneCell']) ?_; rw [setRow_last rfl]))
  refine hK.out _ _ ?_
  clear hK K
  have H2:=Lib.hid (And.intro (H0.out.1.trans k2) (H0.out.2.kept k2 id))
  clear k2 H0 HNC
  refine wp_cut fun K hK=>?_
  go_wp2
  refine hK.out _ _ ?_
  clear hK K
  refine wp_cut fun K hK=>?_
  go_wp2
  refine hK.out _ _ ?_
  clear hK K
  have h5:=Blk.new w2 110 #[.int .i64 L,.int .i64 1,.int .i64 0,.int .i64 0,.int .i64 0,.int .i64 0,.slice none 0 0,.int .i64 0,.bool b,.int .i64 0,.int .i64 er,.slice A L cp,.int .i64 0,.int .i64 1,.bool b,.int .i64 0,.int .i64 er]
  have H3:=Lib.hid (And.intro (H2.out.1.trans (Kept.alloc w2 (.cells #[.int .i64 L,.int .i64 1,.int .i64 0,.int .i64 0,.int .i64 0,.int .i64 0,.slice none 0 0,.int .i64 0,.bool b,.int .i64 0,.int .i64 er,.slice A L cp,.int .i64 0,.int .i64 1,.bool b,.int .i64 0,.int .i64 er] 110))) (And.intro (H2.out.2.alloc (.cells #[.int .i64 L,.int .i64 1,.int .i64 0,.int .i64 0,.int .i64 0,.int .i64 0,.slice none 0 0,.int .i64 0,.bool b,.int .i64 0,.int .i64 er,.slice A L cp,.int .i64 0,.int .i64 1,.bool b,.int .i64 0,.int .i64 er] 110)) h5))
  clear h5
  obtain ⟨b5,hb5⟩ : ∃ b5,b5 = w2.heap.size:=⟨_,rfl⟩
  rw [← hb5] at H3 ⊢
  clear hb5 H2
  generalize World.alloc _ _ = w3 at *
  obtain ⟨d,hu,hd⟩:=Try.under110
  have HU:=Lib.hid (And.intro hu hd)
  clear hu hd
  go_wp2_with (first | (refine wpList_load_mid rfl 110 (.tmp 5) rfl b5 0 rfl _ d H3.out.2.2.range HU.out.1 HU.out.2 Try.size110 ?_) | (refine wpList_store_row rfl 110 (.tmp 4) (.tmp 20) rfl _ _ rfl rfl 110 _ H3.out.2.1 Try.size110 (by rfl) (by simp [Value.oneCell']) ?_))
  simp only [Act.put,List.setIfInBounds_toArray,List.set_cons_zero,List.set_cons_succ]
  have hbf:=H3.out.2.1.setRow #[.int .i64 L,.int .i64 1,.int .i64 0,.int .i64 0,.int .i64 0,.int .i64 0,.slice none 0 0,.int .i64 0,.bool b,.int .i64 0,.int .i64 er,.slice A L cp,.int .i64 0,.int .i64 1,.bool b,.int .i64 0,.int .i64 er]
  have hlv:=run_loadVar_mid (P:=Try.prog) _ b4 0 110 _ d hbf.range HU.out.1 HU.out.2 Try.size110
  have hkf : Kept (fun _=>False) w (w3.setRow b4 #[.int .i64 L,.int .i64 1,.int .i64 0,.int .i64 0,.int .i64 0,.int .i64 0,.slice none 0 0,.int .i64 0,.bool b,.int .i64 0,.int .i64 er,.slice A L cp,.int .i64 0,.int .i64 1,.bool b,.int .i64 0,.int .i64 er]):=H3.out.1.later (Kept.setRow _ _ _) (fun b hb=>by have:=HB4.out; omega)
  refine bodyPost_ret (v:=.agg #[.int .i64 L,.int .i64 1,.int .i64 0,.int .i64 0,.int .i64 0,.int .i64 0,.slice none 0 0,.int .i64 0,.bool b,.int .i64 0,.int .i64 er,.slice A L cp,.int .i64 0,.int .i64 1,.bool b,.int .i64 0,.int .i64 er]) ?_ rfl ⟨rfl,hkf⟩
  simp [results,Try.func89,asAddr,hlv]
set_option maxHeartbeats 2000000 in
set_option maxRecDepth 100000 in
theorem stepoffer_claim (h : Mems B (allR P s u o.k vL (ofF P o vO f) X) w) (k : P.Ok s) (ho : o.k.Ok P u) (hz : P.o + 17≤P.sz) (hB : B≤P.kb) (hBm : B≤P.mb) (hd : o.k.done = false) : Calls Try.prog 74 #[.pointer (some ⟨P.mb,0,none⟩),.pointer (some ⟨P.kb,P.o,none⟩),.pointer (some ⟨P.wb,0,none⟩)] w fun e w'=>e = .returned (.tuple #[])∧(∃ vL',Mems B (allR P (stepO P.n P.fs s u o).1 u (stepO P.n P.fs s u o).2.k vL' (ofF P (stepO P.n P.fs s u o).2 vO f) X) w')∧Below B w w':=by
  have hs:=step13_ok h k ho (by omega) hB hBm
  have HM:=Lib.hid (And.intro h (Below.refl B w))
  have HS:=Lib.hid hs
  clear h k ho hs
  unfold stepO
  rw [if_pos hd]
  dsimp only
  have hz2:=hz
  replace hz : P.o + 11≤P.sz:=by omega
  have k8:=kcell HM.out.1 hz 8 (by omega)
  simp only [kF,Nat.add_zero] at k8
  rw [hd] at k8
  clear hd
  go_enter Try.func74,Try.ntmps74
  refine wp_cut fun K2 hK2=>?_
  refine wp_cut fun K hK=>?_
  go_wp2
  refine hK.out _ _ ?_
  clear hK K
  refine wp_cond_true rfl ?_
  clear hK2
  refine wp_cut fun K hK=>?_
  go_wp2_with (go_at_call 87; refine HS.out.mono ?_; rintro e w1 ⟨rfl,⟨vL1,h1⟩,b1⟩)
  refine hK.out _ _ ?_
  clear hK K
  clear k8
  obtain ⟨s1,hs1⟩ : ∃ s1,s1 = (stepC P.n P.fs s u o.k).1:=⟨_,rfl⟩
  obtain ⟨c1,hc1⟩ : ∃ c1,c1 = (stepC P.n P.fs s u o.k).2:=⟨_,rfl⟩
  rw [← hs1,← hc1] at h1 ⊢
  have hm : Mems B (allR P s1 u ({ o with k:=c1 } : Of13).k vL1 (ofF P { o with k:=c1 } vO f) X) w1:=h1
  clear HM h1 HS hs1 hc1
  have HM:=Lib.hid (And.intro hm b1)
  clear hm b1
  have k8:=kcell HM.out.1 hz 8 (by omega)
  simp only [kF,Nat.add_zero] at k8
  have k10:=kcell HM.out.1 hz 10 (by omega)
  simp only [kF,Nat.add_zero] at k10
  replace hz:=hz2
  obtain ⟨D,hD⟩ : ∃ D,(c1.done && decide (c1.err≠0)) = D:=⟨_,rfl⟩
  rw [hD]
  obtain ⟨dn,hdn⟩ : ∃ dn,c1.done = dn:=⟨_,rfl⟩
  rw [hdn] at k8 hD
  clear hdn
  cases dn with
  | false =>
    obtain rfl : false = D:=hD
    have o3:=ocell HM.out.1 hz 3 (by omega)
    simp only [oF,Nat.reduceAdd] at o3
    have fo3:=kfroz HM.out.1 (P.o + (11 + 3))
    simp only [Nat.reduceAdd] at fo3
    refine wp_cut fun K hK=>?_
    go_wp2
    refine hK.out _ _ ?_
    clear hK K
    clear k8 o3 fo3
    have hm:=And.intro (oset (o':={ o with k:=c1,done:=false }) HM.out.1 3 (.bool false) (by omega) rfl (fun j hj=>by rcases j with _ | _ | _ | _ | _ | _ | j <;> first | rfl | omega)) (HM.out.2.setCell (p:=⟨P.kb,P.o + (11 + 3),none⟩) hB (.bool false))
    simp only [Nat.reduceAdd] at hm
    clear HM
    have HM:=Lib.hid hm
    clear hm
    generalize World.setCell _ _ _ = w2 at *
    have k10:=kcell HM.out.1 (by omega) 10 (by omega)
    simp only [kF,Nat.add_zero] at k10
    have o5:=ocell HM.out.1 hz 5 (by omega)
    simp only [oF,Nat.reduceAdd] at o5
    have fo5:=kfroz HM.out.1 (P.o + (11 + 5))
    simp only [Nat.reduceAdd] at fo5
    go_wp2
    refine bodyPost_ret (results_none rfl _ _ _) rfl ?_
    have hm:=And.intro (oset (o':={ o with k:=c1,done:=false,err:=c1.err }) HM.out.1 5 (.int .i64 c1.err) (by omega) rfl (fun j hj=>by rcases j with _ | _ | _ | _ | _ | _ | j <;> first | rfl | omega)) (HM.out.2.setCell (p:=⟨P.kb,P.o + (11 + 5),none⟩) hB (.int .i64 c1.err))
    exact ⟨rfl,⟨_,hm.1⟩,hm.2⟩
  | true =>
    by_cases e0 : c1.err = 0
    · have d1 : (c1.err != 0) = false:=by simpa using e0
      obtain rfl : false = D:=by rw [← hD,e0]; rfl
      clear e0 hD
      have o3:=ocell HM.out.1 hz 3 (by omega)
      simp only [oF,Nat.reduceAdd] at o3
      have fo3:=kfroz HM.out.1 (P.o + (11 + 3))
      simp only [Nat.reduceAdd] at fo3
      refine wp_cut fun K hK=>?_
      go_wp2
      refine hK.out _ _ ?_
      clear hK K
      clear k8 o3 fo3
      have hm:=And.intro (oset (o':={ o with k:=c1,done:=false }) HM.out.1 3 (.bool false) (by omega) rfl (fun j hj=>by rcases j with _ | _ | _ | _ | _ | _ | j <;> first | rfl | omega)) (HM.out.2.setCell (p:=⟨P.kb,P.o + (11 + 3),none⟩) hB (.bool false))
      simp only [Nat.reduceAdd] at hm
      clear HM
      have HM:=Lib.hid hm
      clear hm
      generalize World.setCell _ _ _ = w2 at *
      have k10:=kcell HM.out.1 (by omega) 10 (by omega)
      simp only [kF,Nat.add_zero] at k10
      have o5:=ocell HM.out.1 hz 5 (by omega)
      simp only [oF,Nat.reduceAdd] at o5
      have fo5:=kfroz HM.out.1 (P.o + (11 + 5))
      simp only [Nat.reduceAdd] at fo5
      go_wp2
      refine bodyPost_ret (results_none rfl _ _ _) rfl ?_
      have hm:=And.intro (oset (o':={ o with k:=c1,done:=false,err:=c1.err }) HM.out.1 5 (.int .i64 c1.err) (by omega) rfl (fun j hj=>by rcases j with _ | _ | _ | _ | _ | _ | j <;> first | rfl | omega)) (HM.out.2.setCell (p:=⟨P.kb,P.o + (11 + 5),none⟩) hB (.int .i64 c1.err))
      exact ⟨rfl,⟨_,hm.1⟩,hm.2⟩
    · have d1 : (c1.err != 0) = true:=by simpa using e0
      obtain rfl : true = D:=by rw [← hD]; simpa using e0
      clear e0 hD
      have o3:=ocell HM.out.1 hz 3 (by omega)
      simp only [oF,Nat.reduceAdd] at o3
      have fo3:=kfroz HM.out.1 (P.o + (11 + 3))
      simp only [Nat.reduceAdd] at fo3
      refine wp_cut fun K hK=>?_
      go_wp2
      refine hK.out _ _ ?_
      clear hK K
      clear k8 o3 fo3
      have hm:=And.intro (oset (o':={ o with k:=c1,done:=true }) HM.out.1 3 (.bool true) (by omega) rfl (fun j hj=>by rcases j with _ | _ | _ | _ | _ | _ | j <;> first | rfl | omega)) (HM.out.2.setCell (p:=⟨P.kb,P.o + (11 + 3),none⟩) hB (.bool true))
      simp only [Nat.reduceAdd] at hm
      clear HM
      have HM:=Lib.hid hm
      clear hm
      generalize World.setCell _ _ _ = w2 at *
      have k10:=kcell HM.out.1 (by omega) 10 (by omega)
      simp only [kF,Nat.add_zero] at k10
      have o5:=ocell HM.out.1 hz 5 (by omega)
      simp only [oF,Nat.reduceAdd] at o5
      have fo5:=kfroz HM.out.1 (P.o + (11 + 5))
      simp only [Nat.reduceAdd] at fo5
      go_wp2
      refine bodyPost_ret (results_none rfl _ _ _) rfl ?_
      have hm:=And.intro (oset (o':={ o with k:=c1,done:=true,err:=c1.err }) HM.out.1 5 (.int .i64 c1.err) (by omega) rfl (fun j hj=>by rcases j with _ | _ | _ | _ | _ | _ | j <;> first | rfl | omega)) (HM.out.2.setCell (p:=⟨P.kb,P.o + (11 + 5),none⟩) hB (.int .i64 c1.err))
      exact ⟨rfl,⟨_,hm.1⟩,hm.2⟩
theorem stepO_put (n : Nat) (fs : Int) (s : MulS) (u : Who13) (o : Of13) (hd : o.k.done = true) : stepO n fs s u o = (putC n s o.Ph (o.k.last - o.vs.length + 1 + o.I) (o.vs.getD o.I 0),if o.Ph = 3 then (if o.I + 1 = o.vs.length then { o with Ph:=1,I:=o.I + 1,done:=true,last:=o.k.last } else { o with Ph:=1,I:=o.I + 1 }) else { o with Ph:=o.Ph + 1 }):=by
  unfold stepO
  rw [if_neg (by rw [hd]; decide)]
end
end Go.Proofs.Ytoepekcheapgmaa
namespace Go.Proofs.Ytoepekcheapgmaa
open Go.RowKit Go.Turn
section
variable {P : Pl13} {B : Nat} {s : MulS} {u : Who13} {o : Of13} {vL : Value} {f : Nat→Value} {X : Nat→Option Row} {w w' : World} {E : Rn13→Option Row}
set_option maxHeartbeats 2000000 in
set_option maxRecDepth 100000 in
theorem stepoffer_put {vb vj cp : Nat} (h : Mems B (allR P s u o.k vL (ofF P o (.slice (some ⟨vb,vj,none⟩) o.vs.length cp) f) X) w) (k : P.Ok s) (hz : P.o + 17≤P.sz) (hB : B≤P.kb) (hd : o.k.done = true) (hI : o.I < o.vs.length) (hl : o.vs.length≤65536) (hp0 : 1≤o.Ph) (hp1 : o.Ph≤3) (hq : GoodQ (o.k.last - o.vs.length + 1 + o.I)) (hl0 : -1≤o.k.last) (hl1 : o.k.last < 4611686018427387904)
    (hv : ∀ s' w',Mems B (allR P s' u o.k vL (ofF P o (.slice (some ⟨vb,vj,none⟩) o.vs.length cp) f) X) w'→Below B w w'→w'.cell? ⟨vb,vj + o.I,none⟩ = some (.int .i64 (o.vs.getD o.I 0))) :
    Calls Try.prog 74 #[.pointer (some ⟨P.mb,0,none⟩),.pointer (some ⟨P.kb,P.o,none⟩),.pointer (some ⟨P.wb,0,none⟩)] w fun e w'=>e = .returned (.tuple #[])∧(∃ vL',Mems B (allR P (stepO P.n P.fs s u o).1 u (stepO P.n P.fs s u o).2.k vL' (ofF P (stepO P.n P.fs s u o).2 (.slice (some ⟨vb,vj,none⟩) o.vs.length cp) f) X) w')∧Below B w w':=by
  rw [stepO_put P.n P.fs s u o hd]
  obtain ⟨kc,vs,I,Ph,dn,last,err⟩:=o
  dsimp only at hd hI hl hp0 hp1 hq hl0 hl1 hv h ⊢
  have HM:=Lib.hid (And.intro h (Below.refl B w))
  have HP:=Lib.hid k
  have HV:=Lib.hid hv
  have HQ:=Lib.hid hq
  clear h k hv hq
  obtain ⟨L,hL⟩ : ∃ L,L = vs.length:=⟨_,rfl⟩
  obtain ⟨v,hv⟩ : ∃ v,v = vs.getD I 0:=⟨_,rfl⟩
  obtain ⟨q,hq⟩ : ∃ q,q = kc.last - L + 1 + I:=⟨_,rfl⟩
  rw [← hL] at hI hl HV HQ HM ⊢
  rw [← hv] at HV ⊢
  rw [← hq] at HQ ⊢
  have hz2:=hz
  have HLV:=Lib.hid (And.intro hL hv)
  obtain ⟨oz,hoz⟩ : ∃ oz : Of13,oz = if Ph = 3 then (if I + 1 = L then ⟨kc,vs,I + 1,1,true,kc.last,err⟩ else ⟨kc,vs,I + 1,1,dn,last,err⟩) else ⟨kc,vs,I,Ph + 1,dn,last,err⟩:=⟨_,rfl⟩
  rw [← hoz]
  have HO2:=Lib.hid hoz
  clear hoz
  replace hz : P.o + 11≤P.sz:=by omega
  clear hL hv
  have k8:=kcell HM.out.1 hz 8 (by omega)
  simp only [kF,Nat.add_zero] at k8
  rw [hd] at k8
  go_enter Try.func74,Try.ntmps74
  refine wp_cut fun K2 hK2=>?_
  refine wp_cut fun K hK=>?_
  go_wp2
  refine hK.out _ _ ?_
  clear hK K
  refine wp_cond_false rfl ?_
  go_wp2
  refine hK2.out _ _ ?_
  clear hK2 K2 k8
  have k9:=kcell HM.out.1 (by omega) 9 (by omega)
  simp only [kF,Nat.add_zero] at k9
  replace hz:=hz2
  have o0:=ocell HM.out.1 hz 0 (by omega)
  simp only [oF,Nat.reduceAdd] at o0
  have o1:=ocell HM.out.1 hz 1 (by omega)
  simp only [oF,Nat.reduceAdd] at o1
  have hq0:=HQ.out.1
  have hq1:=HQ.out.2
  refine wp_cut fun K hK=>?_
  go_quiet (fail)
  have hmd:=Lib.hid (And.intro (HM.out.1.drewN nq) (HM.out.2.trans (Below.drewN (Below.refl B _) nq)))
  clear HM
  have HM:=hmd
  clear hmd
  generalize World.drewN _ nq = w1 at *
  refine hK.out _ _ ?_
  clear hK K
  rw [← hq]
  clear k9 o0 o1 hq
  have key : ∀ s' w',Mems B (allR P s' u kc vL (ofF P ⟨kc,vs,I,Ph,dn,last,err⟩ (.slice (some ⟨vb,vj,none⟩) L cp) f) X) w'∧Below B w w'→w'.cell? ⟨P.kb,P.o + 13,none⟩ = some (.int .i64 Ph)∧w'.cell? ⟨P.kb,P.o + 11,none⟩ = some (.slice (some ⟨vb,vj,none⟩) L cp)∧w'.cell? ⟨P.kb,P.o + 12,none⟩ = some (.int .i64 I)∧w'.cell? ⟨vb,vj + I,none⟩ = some (.int .i64 v):=fun s' w' hm=>by
    have c2:=ocell (o:=⟨kc,vs,I,Ph,dn,last,err⟩) hm.1 hz 2 (by omega)
    have c0:=ocell (o:=⟨kc,vs,I,Ph,dn,last,err⟩) hm.1 hz 0 (by omega)
    have c1:=ocell (o:=⟨kc,vs,I,Ph,dn,last,err⟩) hm.1 hz 1 (by omega)
    exact ⟨c2,c0,c1,HV.out s' w' hm.1 hm.2⟩
  have HKEY:=Lib.hid key
  clear key
  refine wp_cut fun K2 hK2=>?_
  refine wp_cut fun K hK=>?_
  refine strictL ?_
  refine wp_region_held (S:=fun w'=>w'.cell? ⟨P.kb,P.o + 13,none⟩ = some (.int .i64 Ph)∧w'.cell? ⟨P.kb,P.o + 11,none⟩ = some (.slice (some ⟨vb,vj,none⟩) L cp)∧w'.cell? ⟨P.kb,P.o + 12,none⟩ = some (.int .i64 I)∧w'.cell? ⟨vb,vj + I,none⟩ = some (.int .i64 v)) (by kernel_rfl) ?_
  simp only [List.size_toArray,List.length_cons,List.length_nil,Nat.reduceAdd]
  have hmd : Mems B (allR P s u kc vL (ofF P ⟨kc,vs,I,Ph,dn,last,err⟩ (.slice (some ⟨vb,vj,none⟩) L cp) f) X) ({ w1 with drawn:=w1.drawn + 1 } : World)∧Below B w ({ w1 with drawn:=w1.drawn + 1 } : World):=⟨HM.out.1.drewN 1,HM.out.2.trans (Below.drewN (Below.refl B _) 1)⟩
  clear HM
  generalize ({ w1 with drawn:=w1.drawn + 1 } : World) = wd at hmd ⊢
  have HS:=Lib.hid (HKEY.out _ _ hmd)
  have HM:=Lib.hid hmd
  clear hmd
  refine rdL 0 17 60 ?_
  refine ⟨_,rfl,rfl,by kernel_rfl,by kernel_rfl,by kernel_rfl,(fun c a w h=>by cases h.1),rfl,HS.out,?_⟩
  apply Exists.intro
  refine ⟨fun wq hw=>?_,?_⟩
  · obtain ⟨hw1,hw2,hw3,hw4⟩:=hw
    go_simp
    rfl
  simp only [Act.put,List.setIfInBounds_toArray,List.set_cons_zero,List.set_cons_succ]
  refine rdL 1 16 61 ?_
  refine ⟨_,rfl,rfl,by kernel_rfl,by kernel_rfl,by kernel_rfl,(fun c a w h=>by cases h.1),rfl,HS.out,?_⟩
  apply Exists.intro
  refine ⟨fun wq hw=>?_,?_⟩
  · obtain ⟨hw1,hw2,hw3,hw4⟩:=hw
    go_simp
    rfl
  simp only [Act.put,List.setIfInBounds_toArray,List.set_cons_zero,List.set_cons_succ]
  refine rdL 2 15 62 ?_
  refine ⟨_,rfl,rfl,by kernel_rfl,by kernel_rfl,by kernel_rfl,(fun c a w h=>by cases h.1),rfl,HS.out,?_⟩
  apply Exists.intro
  refine ⟨fun wq hw=>?_,?_⟩
  · obtain ⟨hw1,hw2,hw3,hw4⟩:=hw
    go_simp
    rfl
  simp only [Act.put,List.setIfInBounds_toArray,List.set_cons_zero,List.set_cons_succ]
  refine rdL 3 14 63 ?_
  refine ⟨_,rfl,rfl,by kernel_rfl,by kernel_rfl,by kernel_rfl,(fun c a w h=>by cases h.1),rfl,HS.out,?_⟩
  apply Exists.intro
  refine ⟨fun wq hw=>?_,?_⟩
  · obtain ⟨hw1,hw2,hw3,hw4⟩:=hw
    go_simp
    rfl
  simp only [Act.put,List.setIfInBounds_toArray,List.set_cons_zero,List.set_cons_succ]
  refine rdL 4 13 64 ?_
  refine ⟨_,rfl,rfl,by kernel_rfl,by kernel_rfl,by kernel_rfl,(fun c a w h=>by cases h.1),rfl,HS.out,?_⟩
  apply Exists.intro
  refine ⟨fun wq hw=>?_,?_⟩
  · obtain ⟨hw1,hw2,hw3,hw4⟩:=hw
    go_simp
    rfl
  simp only [Act.put,List.setIfInBounds_toArray,List.set_cons_zero,List.set_cons_succ]
  refine rdL 5 12 65 ?_
  refine ⟨_,rfl,rfl,by kernel_rfl,by kernel_rfl,by kernel_rfl,(fun c a w h=>by cases h.1),rfl,HS.out,?_⟩
  apply Exists.intro
  refine ⟨fun wq hw=>?_,?_⟩
  · obtain ⟨hw1,hw2,hw3,hw4⟩:=hw
    go_simp
    rfl
  simp only [Act.put,List.setIfInBounds_toArray,List.set_cons_zero,List.set_cons_succ]
  refine rdL 6 11 66 ?_
  refine ⟨_,rfl,rfl,by kernel_rfl,by kernel_rfl,by kernel_rfl,(fun c a w h=>by cases h.1),rfl,HS.out,?_⟩
  apply Exists.intro
  refine ⟨fun wq hw=>?_,?_⟩
  · obtain ⟨hw1,hw2,hw3,hw4⟩:=hw
    go_simp
    rfl
  simp only [Act.put,List.setIfInBounds_toArray,List.set_cons_zero,List.set_cons_succ]
  refine rdL 7 10 67 ?_
  refine ⟨_,rfl,rfl,by kernel_rfl,by kernel_rfl,by kernel_rfl,(fun c a w h=>by cases h.1),rfl,HS.out,?_⟩
  apply Exists.intro
  refine ⟨fun wq hw=>?_,?_⟩
  · obtain ⟨hw1,hw2,hw3,hw4⟩:=hw
    go_simp
    rfl
  simp only [Act.put,List.setIfInBounds_toArray,List.set_cons_zero,List.set_cons_succ]
  refine rdL 8 9 68 ?_
  refine ⟨_,rfl,rfl,by kernel_rfl,by kernel_rfl,by kernel_rfl,(fun c a w h=>by cases h.1),rfl,HS.out,?_⟩
  apply Exists.intro
  refine ⟨fun wq hw=>?_,?_⟩
  · obtain ⟨hw1,hw2,hw3,hw4⟩:=hw
    go_simp
    rfl
  simp only [Act.put,List.setIfInBounds_toArray,List.set_cons_zero,List.set_cons_succ]
  refine rdL 9 8 69 ?_
  refine ⟨_,rfl,rfl,by kernel_rfl,by kernel_rfl,by kernel_rfl,(fun c a w h=>by cases h.1),rfl,HS.out,?_⟩
  apply Exists.intro
  refine ⟨fun wq hw=>?_,?_⟩
  · obtain ⟨hw1,hw2,hw3,hw4⟩:=hw
    go_simp
    rfl
  simp only [Act.put,List.setIfInBounds_toArray,List.set_cons_zero,List.set_cons_succ]
  refine rdL 10 7 70 ?_
  refine ⟨_,rfl,rfl,by kernel_rfl,by kernel_rfl,by kernel_rfl,(fun c a w h=>by cases h.1),rfl,HS.out,?_⟩
  apply Exists.intro
  refine ⟨fun wq hw=>?_,?_⟩
  · obtain ⟨hw1,hw2,hw3,hw4⟩:=hw
    go_simp
    rfl
  simp only [Act.put,List.setIfInBounds_toArray,List.set_cons_zero,List.set_cons_succ]
  refine rdL 11 6 71 ?_
  refine ⟨_,rfl,rfl,by kernel_rfl,by kernel_rfl,by kernel_rfl,(fun c a w h=>by cases h.1),rfl,HS.out,?_⟩
  apply Exists.intro
  refine ⟨fun wq hw=>?_,?_⟩
  · obtain ⟨hw1,hw2,hw3,hw4⟩:=hw
    go_simp
    rfl
  simp only [Act.put,List.setIfInBounds_toArray,List.set_cons_zero,List.set_cons_succ]
  refine rdL 12 5 72 ?_
  refine ⟨_,rfl,rfl,by kernel_rfl,by kernel_rfl,by kernel_rfl,(fun c a w h=>by cases h.1),rfl,HS.out,?_⟩
  apply Exists.intro
  refine ⟨fun wq hw=>?_,?_⟩
  · obtain ⟨hw1,hw2,hw3,hw4⟩:=hw
    go_simp
    rfl
  simp only [Act.put,List.setIfInBounds_toArray,List.set_cons_zero,List.set_cons_succ]
  refine rdL 13 4 73 ?_
  refine ⟨_,rfl,rfl,by kernel_rfl,by kernel_rfl,by kernel_rfl,(fun c a w h=>by cases h.1),rfl,HS.out,?_⟩
  apply Exists.intro
  refine ⟨fun wq hw=>?_,?_⟩
  · obtain ⟨hw1,hw2,hw3,hw4⟩:=hw
    go_simp
    rfl
  simp only [Act.put,List.setIfInBounds_toArray,List.set_cons_zero,List.set_cons_succ]
  refine rdL 14 3 74 ?_
  refine ⟨_,rfl,rfl,by kernel_rfl,by kernel_rfl,by kernel_rfl,(fun c a w h=>by cases h.1),rfl,HS.out,?_⟩
  apply Exists.intro
  refine ⟨fun wq hw=>?_,?_⟩
  · obtain ⟨hw1,hw2,hw3,hw4⟩:=hw
    go_simp
    rfl
  simp only [Act.put,List.setIfInBounds_toArray,List.set_cons_zero,List.set_cons_succ]
  refine rdL 15 2 75 ?_
  refine ⟨_,rfl,rfl,by kernel_rfl,by kernel_rfl,by kernel_rfl,(fun c a w h=>by cases h.1),rfl,HS.out,?_⟩
  apply Exists.intro
  refine ⟨fun wq hw=>?_,?_⟩
  · obtain ⟨hw1,hw2,hw3,hw4⟩:=hw
    go_simp
    rfl
  simp only [Act.put,List.setIfInBounds_toArray,List.set_cons_zero,List.set_cons_succ]
  refine oneL (i:=16) (fuel:=1) (by kernel_rfl) rfl rfl fun K' hK'=>?_
  unfold Oper.wp
  go_simp
  refine (put13_ok HM.out.1 HP.out Ph q v HQ.out hp0 hp1).mono ?_
  rintro e w2 ⟨rfl,m2,b2⟩
  dsimp only
  have H2:=Lib.hid (And.intro m2 (HM.out.2.trans b2))
  clear m2 b2
  refine hK' _ _ (HKEY.out _ _ H2.out) ?_
  clear hK' K' HS HM
  try simp only [Act.put,List.setIfInBounds_toArray,List.set_cons_zero,List.set_cons_succ]
  refine oneL (i:=17) (fuel:=0) (by kernel_rfl) rfl rfl fun K' hK'=>?_
  unfold Oper.wp
  go_simp
  refine hK' _ _ (HKEY.out _ _ H2.out) ?_
  clear hK' K'
  refine wpAnyH_done (by kernel_rfl) ⟨rfl,?_⟩ _
  refine hK.out _ _ ?_
  clear hK K
  clear HKEY HV
  obtain ⟨s2,hs2⟩ : ∃ s2,s2 = putC P.n s Ph q v:=⟨_,rfl⟩
  rw [← hs2] at H2 hK2 ⊢
  have HPP:=Lib.hid (And.intro hp0 hp1)
  clear hs2 hp0 hp1
  have HM:=H2
  clear H2
  have hoz:=HO2.out
  clear HO2
  by_cases h3 : Ph = 3
  · rw [if_pos h3] at hoz
    have d1 : decide (Ph = 3) = true:=decide_eq_true h3
    rw [d1]
    refine wp_cond_false rfl ?_
    go_wp2
    refine hK2.out _ _ ?_
    clear hK2 K2
    have o2:=ocell HM.out.1 hz 2 (by omega)
    simp only [oF,Nat.reduceAdd] at o2
    have fo2:=kfroz HM.out.1 (P.o + (11 + 2))
    simp only [Nat.reduceAdd] at fo2
    refine wp_cut fun K hK=>?_
    go_wp2
    refine hK.out _ _ ?_
    clear hK K
    clear o2 fo2
    have hm:=And.intro (oset (o':=(⟨kc,vs,I,1,dn,last,err⟩ : Of13)) HM.out.1 2 (.int .i64 1) (by omega) rfl (fun j hj=>by rcases j with _ | _ | _ | _ | _ | _ | j <;> first | rfl | omega)) (HM.out.2.setCell (p:=⟨P.kb,P.o + (11 + 2),none⟩) hB (.int .i64 1))
    simp only [Nat.reduceAdd] at hm
    clear HM
    have HM:=Lib.hid hm
    clear hm
    generalize World.setCell _ _ _ = w3 at *
    have o1:=ocell HM.out.1 hz 1 (by omega)
    simp only [oF,Nat.reduceAdd] at o1
    have fo1:=kfroz HM.out.1 (P.o + (11 + 1))
    simp only [Nat.reduceAdd] at fo1
    have hI63 : I < 65536:=by omega
    refine wp_cut fun K hK=>?_
    go_wp2
    refine hK.out _ _ ?_
    clear hK K
    clear o1 fo1
    have hm:=And.intro (oset (o':=(⟨kc,vs,I + 1,1,dn,last,err⟩ : Of13)) HM.out.1 1 (.int .i64 ((I : Int) + 1)) (by omega) rfl (fun j hj=>by rcases j with _ | _ | _ | _ | _ | _ | j <;> first | rfl | omega)) (HM.out.2.setCell (p:=⟨P.kb,P.o + (11 + 1),none⟩) hB (.int .i64 ((I : Int) + 1)))
    simp only [Nat.reduceAdd] at hm
    clear HM
    have HM:=Lib.hid hm
    clear hm
    generalize World.setCell _ _ _ = w4 at *
    have o1:=ocell HM.out.1 hz 1 (by omega)
    simp only [oF,Nat.reduceAdd] at o1
    have o0:=ocell HM.out.1 hz 0 (by omega)
    simp only [oF,Nat.reduceAdd] at o0
    refine wp_cut fun K hK=>?_
    go_quiet (fail)
    have hmd:=Lib.hid (And.intro (HM.out.1.drewN nq) (HM.out.2.trans (Below.drewN (Below.refl B _) nq)))
    clear HM
    have HM:=hmd
    clear hmd
    generalize World.drewN _ nq = w5 at *
    refine hK.out _ _ ?_
    clear hK K
    clear o1 o0
    by_cases he : I + 1 = L
    · rw [if_pos he] at hoz
      have d2 : (((I + 1 : Nat) : Int) == (L : Int)) = true:=by simpa using (show ((I + 1 : Nat) : Int) = L by omega)
      refine wp_cond_true (congrArg _ d2) ?_
      clear he
      have o3:=ocell HM.out.1 hz 3 (by omega)
      simp only [oF,Nat.reduceAdd] at o3
      have fo3:=kfroz HM.out.1 (P.o + (11 + 3))
      simp only [Nat.reduceAdd] at fo3
      refine wp_cut fun K hK=>?_
      go_wp2
      refine hK.out _ _ ?_
      clear hK K
      clear o3 fo3
      have hm:=And.intro (oset (o':=(⟨kc,vs,I + 1,1,true,last,err⟩ : Of13)) HM.out.1 3 (.bool true) (by omega) rfl (fun j hj=>by rcases j with _ | _ | _ | _ | _ | _ | j <;> first | rfl | omega)) (HM.out.2.setCell (p:=⟨P.kb,P.o + (11 + 3),none⟩) hB (.bool true))
      simp only [Nat.reduceAdd] at hm
      clear HM
      have HM:=Lib.hid hm
      clear hm
      generalize World.setCell _ _ _ = w6 at *
      have k9:=kcell HM.out.1 (by omega) 9 (by omega)
      simp only [kF,Nat.add_zero] at k9
      have o4:=ocell HM.out.1 hz 4 (by omega)
      simp only [oF,Nat.reduceAdd] at o4
      have fo4:=kfroz HM.out.1 (P.o + (11 + 4))
      simp only [Nat.reduceAdd] at fo4
      go_wp2
      go_end0
      subst hoz
      have hm:=And.intro (oset (o':=⟨kc,vs,I + 1,1,true,kc.last,err⟩) HM.out.1 4 (.int .i64 kc.last) (by omega) rfl (fun j hj=>by rcases j with _ | _ | _ | _ | _ | _ | j <;> first | rfl | omega)) (HM.out.2.setCell (p:=⟨P.kb,P.o + (11 + 4),none⟩) hB (.int .i64 kc.last))
      exact ⟨rfl,⟨_,hm.1⟩,hm.2⟩
    · rw [if_neg he] at hoz
      have d2 : (((I + 1 : Nat) : Int) == (L : Int)) = false:=by simpa using (show ¬ ((I + 1 : Nat) : Int) = L by omega)
      refine wp_cond_false (congrArg _ d2) ?_
      clear he
      go_wp2
      go_end0
      subst hoz
      exact ⟨rfl,⟨_,HM.out.1⟩,HM.out.2⟩
  · rw [if_neg h3] at hoz
    have d1 : decide (Ph = 3) = false:=decide_eq_false h3
    rw [d1]
    refine wp_cond_true rfl ?_
    clear hK2
    have o2:=ocell HM.out.1 hz 2 (by omega)
    simp only [oF,Nat.reduceAdd] at o2
    have fo2:=kfroz HM.out.1 (P.o + (11 + 2))
    simp only [Nat.reduceAdd] at fo2
    have hp63 : 0≤Ph∧Ph < 4:=by have:=HPP.out; omega
    go_wp2
    refine bodyPost_ret (results_none rfl _ _ _) rfl ?_
    subst hoz
    have hm:=And.intro (oset (o':=⟨kc,vs,I,Ph + 1,dn,last,err⟩) HM.out.1 2 (.int .i64 (Ph + 1)) (by omega) rfl (fun j hj=>by rcases j with _ | _ | _ | _ | _ | _ | j <;> first | rfl | omega)) (HM.out.2.setCell (p:=⟨P.kb,P.o + (11 + 2),none⟩) hB (.int .i64 (Ph + 1)))
    exact ⟨rfl,⟨_,hm.1⟩,hm.2⟩
end
end Go.Proofs.Ytoepekcheapgmaa
namespace Go.Proofs.Ytoepekcheapgmaa
open Go.RowKit Go.Turn
theorem Try.info64b : (Try.prog.info? 2).map (fun i=>(i.zero,i.size,i.bytes)) = some (some (.int .i64 0),1,8):=by kernel_rfl
theorem row_box {B : Nat} {w : World} {b : Nat} {t : TypeId} {cs : Array Value} (h : Blk w b t cs) (hB : B≤b) (f : Nat→Value) (hf : ∀ j,j < cs.size→cs[j]? = some (f j)) : (⟨t,cs.size,.slice (some ⟨b,0,none⟩) 1 1,1,f⟩ : Row).At B w:=by
  refine ⟨by simp [cellsN_len],.inr ⟨b,1,cs,rfl,hB,h,Nat.le_refl _,by unfold maxLen; omega,by simp,?_⟩⟩
  apply List.ext_getElem?
  intro j
  by_cases hj : j < cs.size
  · simp only
    rw [cellsN_get (by omega),List.getElem?_take_of_lt (by omega),Array.getElem?_toList,hf j hj]
  · rw [List.getElem?_eq_none (by simp; omega),List.getElem?_eq_none (by rw [cellsN_len]; simp; omega)]
def nilW : Value:=.slice none 0 0
def boxN13 (K fs : Int) (vS vV : Value) : Nat→Value
  | 0=>.int .i64 K
  | 1=>vS
  | 2=>vV
  | 3=>.int .i64 fs
  | _=>.int .i64 (fs - 1)
def memN13 (mb : Nat) (K fs : Int) (a : Nat) (vS : Value) (b : Nat) (vV : Value) : Rn13→Option Row
  | .M=>some ⟨76,6,.slice (some ⟨mb,0,none⟩) 1 1,1,boxN13 K fs vS vV⟩
  | .S=>some ⟨2,1,vS,a,fun _=>.int .i64 (-2)⟩
  | .V=>some ⟨2,1,vV,b,fun _=>.int .i64 0⟩
  | _=>none
section
variable {B mb a b : Nat} {K fs : Int} {vS vV : Value} {w w1 : World}
theorem ncell13 (h : Mems B (memN13 mb K fs a vS b vV) w) (k : Nat) (hk : k < 6) : w.cell? ⟨mb,k,none⟩ = some (boxN13 K fs vS vV k):=h.cell (r:=.M) rfl (by omega)
theorem snoc13 (n : Nat) (x : Value) : cellsN (n * 1) (fun _=>x) ++ [x] = cellsN ((n + 1) * 1) (fun _=>x):=by
  rw [show ([x] : List Value) = cellsN 1 (fun _=>x) from rfl,cellsN_app,show n * 1 + 1 = (n + 1) * 1 from by omega]
  exact cellsN_congr fun k _=>by split <;> rfl
theorem app13S {v' : Value} (h : Mems B (memN13 mb K fs a vS b vV) w) (hown : w1.ownsRow B 2 1 v' (a + 1) (cellsN (a * 1) (fun _=>.int .i64 (-2)) ++ [.int .i64 (-2)])) (hg : w.grownBy w1 vS.ownBlock) (hv : v'.ownBlock = vS.ownBlock∨v'.ownBlock = some w.heap.size) :
    w1.cell? ⟨mb,1,none⟩ = some vS∧w1.frozen? ⟨mb,1,none⟩ = false∧Mems B (memN13 mb K fs (a + 1) v' b vV) (w1.setCell ⟨mb,1,none⟩ v'):=by
  have h1 : Mems B (fun r=>if r = .S then some ⟨2,1,v',a + 1,fun _=>.int .i64 (-2)⟩ else memN13 mb K fs a vS b vV r) w1:=
    h.app (r:=.S) (d':=⟨2,1,v',a + 1,fun _=>.int .i64 (-2)⟩) rfl (if_pos rfl) (fun r hr=>by simp [hr]) hg (by show w1.ownsRow B _ 1 v' (a + 1) (cellsN ((a + 1) * 1) _); rw [← snoc13]; exact hown) hv
  have eb : (fun r=>if r = Rn13.S then some (⟨2,1,v',a + 1,fun _=>.int .i64 (-2)⟩ : Row) else memN13 mb K fs a vS b vV r) .M = some ⟨76,6,.slice (some ⟨mb,0,none⟩) 1 1,1,boxN13 K fs vS vV⟩:=rfl
  refine ⟨h1.cell eb (by omega),h1.frozen eb 1,h1.set (f':=boxN13 K fs v' vV) eb 1 v' rfl (fun k hk=>?_) fun r hr=>?_⟩
  · rcases k with _ | _ | _ | _ | _ | k <;> simp [boxN13]
  · cases r <;> first | rfl | exact absurd rfl hr
theorem app13V {v' : Value} (h : Mems B (memN13 mb K fs a vS b vV) w) (hown : w1.ownsRow B 2 1 v' (b + 1) (cellsN (b * 1) (fun _=>.int .i64 0) ++ [.int .i64 0])) (hg : w.grownBy w1 vV.ownBlock) (hv : v'.ownBlock = vV.ownBlock∨v'.ownBlock = some w.heap.size) :
    w1.cell? ⟨mb,2,none⟩ = some vV∧w1.frozen? ⟨mb,2,none⟩ = false∧Mems B (memN13 mb K fs a vS (b + 1) v') (w1.setCell ⟨mb,2,none⟩ v'):=by
  have h1 : Mems B (fun r=>if r = .V then some ⟨2,1,v',b + 1,fun _=>.int .i64 0⟩ else memN13 mb K fs a vS b vV r) w1:=
    h.app (r:=.V) (d':=⟨2,1,v',b + 1,fun _=>.int .i64 0⟩) rfl (if_pos rfl) (fun r hr=>by simp [hr]) hg (by show w1.ownsRow B _ 1 v' (b + 1) (cellsN ((b + 1) * 1) _); rw [← snoc13]; exact hown) hv
  have eb : (fun r=>if r = Rn13.V then some (⟨2,1,v',b + 1,fun _=>.int .i64 0⟩ : Row) else memN13 mb K fs a vS b vV r) .M = some ⟨76,6,.slice (some ⟨mb,0,none⟩) 1 1,1,boxN13 K fs vS vV⟩:=rfl
  refine ⟨h1.cell eb (by omega),h1.frozen eb 2,h1.set (f':=boxN13 K fs vS v') eb 2 v' rfl (fun k hk=>?_) fun r hr=>?_⟩
  · rcases k with _ | _ | _ | _ | _ | k <;> simp [boxN13]
  · cases r <;> first | rfl | exact absurd rfl hr
theorem first13N {w : World} (hb : Blk w mb 76 #[.int .i64 K,.slice none 0 0,.slice none 0 0,.int .i64 fs,.int .i64 (fs - 1),.int .i64 (fs - 1)]) (hB : B≤mb) : Mems B (memN13 mb K fs 0 nilW 0 nilW) w:=by
  refine ⟨fun _=>some .M,fun r d hr=>?_⟩
  cases r with
  | M =>
    cases hr
    exact ⟨row_box hb hB (boxN13 K fs nilW nilW) (fun j hj=>by rcases j with _ | _ | _ | _ | _ | _ | j <;> simp [boxN13,nilW] at hj ⊢; omega),fun _ _=>rfl⟩
  | S=>cases hr; exact ⟨⟨by simp [cellsN],.inl ⟨rfl,rfl⟩⟩,fun b hb=>by cases hb⟩
  | V=>cases hr; exact ⟨⟨by simp [cellsN],.inl ⟨rfl,rfl⟩⟩,fun b hb=>by cases hb⟩
  | _=>cases hr
def s13 (fs : Int) : MulS:=⟨fun _=>-2,fun _=>0,fs - 1,fs - 1⟩
theorem mems13 {k : Nat} (hk : 0 < k) (h : Mems B (memN13 mb k fs k vS k vV) w) : ∃ sb sc vb vc,Mems B (mulR ⟨mb,0,0,0,0,0,sb,sc,vb,vc,k,fs⟩ (s13 fs) fun _=>none) w:=by
  rcases (h.at_ (r:=.S) rfl).2 with ⟨_,h2⟩ | ⟨sb,sc,cur,h1,_⟩
  · simp only at h2; omega
  rcases (h.at_ (r:=.V) rfl).2 with ⟨_,h2⟩ | ⟨vb,vc,cur,h3,_⟩
  · simp only at h2; omega
  refine ⟨sb,sc,vb,vc,h.mono fun r d hr=>?_⟩
  simp only at h1 h3
  cases r with
  | M =>
    have : mF ⟨mb,0,0,0,0,0,sb,sc,vb,vc,k,fs⟩ (s13 fs) = boxN13 k fs vS vV:=by
      funext j
      rcases j with _ | _ | _ | _ | _ | j <;> simp [mF,boxN13,h1,h3,s13]
    simpa [mulR,memN13,this] using hr
  | S=>simpa [mulR,memN13,h1,s13] using hr
  | V=>simpa [mulR,memN13,h3,s13] using hr
  | _=>cases hr
set_option maxHeartbeats 4000000 in
set_option maxRecDepth 100000 in
theorem new13_ok (w : World) (k : Nat) (hk0 : 0 < k) (hk2 : k≤65536) (hf0 : 0≤fs) (hf1 : fs < 4611686018427387904) :
    Calls Try.prog 25 #[.int .i64 k,.int .i64 fs] w fun e w'=>e = .returned (.pointer (some ⟨w.heap.size,0,none⟩))∧(∃ sb sc vb vc,Mems w.heap.size (mulR ⟨w.heap.size,0,0,0,0,0,sb,sc,vb,vc,k,fs⟩ (s13 fs) fun _=>none) w')∧Below w.heap.size w w':=by
  obtain ⟨i0,hi0,hz0,hz1,hz2⟩:=info_parts Try.info64b
  obtain ⟨mb,hmb⟩ : ∃ mb,mb = w.heap.size:=⟨_,rfl⟩
  rw [← hmb]
  have HMB:=Lib.hid hmb
  clear hmb
  go_enter Try.func25,Try.ntmps25
  refine wp_cut fun K hK=>?_
  go_wp2
  refine hK.out _ _ ?_
  clear hK K
  refine wp_cut fun K hK=>?_
  go_wp2
  refine hK.out _ _ ?_
  clear hK K
  refine wp_cut fun K hK=>?_
  go_wp2
  refine hK.out _ _ ?_
  clear hK K
  have hbl:=Blk.new w 76 #[.int .i64 k,.slice none 0 0,.slice none 0 0,.int .i64 fs,.int .i64 (fs - 1),.int .i64 (fs - 1)]
  have hbw : Below mb w (w.alloc (.cells #[.int .i64 k,.slice none 0 0,.slice none 0 0,.int .i64 fs,.int .i64 (fs - 1),.int .i64 (fs - 1)] 76)):=(Below.refl _ _).alloc (by have:=HMB.out; omega) _
  rw [← HMB.out] at hbl ⊢
  have HM1:=Lib.hid (first13N hbl (Nat.le_refl _))
  have HB1:=Lib.hid hbw
  clear hbl hbw
  generalize World.alloc _ _ = v1 at *
  go_wp2
  go_loopw [6] (fun i wr=>∃ (j : Nat) (vS vV : Value),j≤k∧i = .int .i64 j∧Mems mb (memN13 mb k fs j vS j vV) wr∧Below mb w wr) (fun i _=>k - (intOf i).toNat)
  case atStart=>exact ⟨0,nilW,nilW,Nat.zero_le _,rfl,HM1.out,HB1.out⟩
  case round =>
    obtain ⟨j,vS,vV,hj,rfl,hm,hb⟩:=hrel
    have HM2:=Lib.hid hm
    have HB2:=Lib.hid hb
    have c0:=ncell13 hm 0 (by omega)
    simp only [boxN13] at c0
    clear hm hb
    by_cases hlt : j < k
    · refine wp_cut fun K hK=>?_
      go_wp2
      refine hK.out _ _ ?_
      clear hK K
      refine wp_cut fun K2 hK2=>?_
      refine wp_block ?_
      refine wp_cut fun K hK=>?_
      have hq : wr.ownsRow mb 2 1 vS j (cellsN (j * 1) (fun _=>.int .i64 (-2))):=HM2.out.at_ (r:=.S) rfl
      obtain ⟨A2,cA2,rfl⟩:=own_slice hq
      have d2:=ncell13 HM2.out 1 (by omega)
      simp only [boxN13] at d2
      have HQ2 : Hid (wr.ownsRow mb 2 1 (.slice A2 j cA2) j (cellsN (j * 1) (fun _=>.int .i64 (-2)))):=Lib.hid hq
      have hsz2 : mb≤wr.heap.size:=Nat.le_trans (by have:=HMB.out; omega) HB2.out.size
      clear hq
      go_wp2_with (at_builtin; refine wpList_append_lies _ rfl _ _ 22 rfl mb 2 i0 (.int .i64 0) 1 8 Try.underlying22 hi0 hz0 hz1 hz2 rfl (by decide) (.slice A2 j cA2) j _ rfl (HQ2.out.alloc _) ⟨wr.heap.size,0,none⟩ 1 1 [.int .i64 (-2)] rfl rfl (World.news_of_block (cs:=#[.int .i64 (-2)]) (t:=2) (fr:=(0,0)) (Blk.new wr 2 #[.int .i64 (-2)])) (by simp [Value.oneCell']) (by omega) (by unfold maxLen; omega) (by omega) (by simp; omega) (wr.heap.size + 1) (by simp) ?_)
      intro gg2 cap2 y2 hown hgrow hgat hgl
      obtain ⟨e2,z2,hm⟩:=app13S (v':=.slice (some ⟨gg2,0,none⟩) (j + 1) cap2) (HM2.out.alloc (.cells #[.int .i64 (-2)] 2)) (by simpa using hown) hgrow (by
        rcases hgat with z | z
        · exact .inl z.symm
        · right; simp [Value.ownBlock,z])
      have hb:=((HB2.out.alloc hsz2 (.cells #[.int .i64 (-2)] 2)).grown hgrow (by simp; omega) (fun b hb=>(HQ2.out.lt b hb).1)).setCell (p:=⟨mb,1,none⟩) (Nat.le_refl _) (.slice (some ⟨gg2,0,none⟩) (j + 1) cap2)
      have HM3:=Lib.hid hm
      have HB3:=Lib.hid hb
      clear hm hb hown hgrow hgat d2
      go_wp2
      refine hK.out _ _ ?_
      clear hK K e2 z2
      generalize World.setCell _ _ _ = wr2 at *
      have hq : wr2.ownsRow mb 2 1 vV j (cellsN (j * 1) (fun _=>.int .i64 0)):=HM3.out.at_ (r:=.V) rfl
      obtain ⟨A3,cA3,rfl⟩:=own_slice hq
      have d3:=ncell13 HM3.out 2 (by omega)
      simp only [boxN13] at d3
      have HQ3 : Hid (wr2.ownsRow mb 2 1 (.slice A3 j cA3) j (cellsN (j * 1) (fun _=>.int .i64 0))):=Lib.hid hq
      have hsz3 : mb≤wr2.heap.size:=Nat.le_trans (by have:=HMB.out; omega) HB3.out.size
      clear hq
      go_wp2_with (at_builtin; refine wpList_append_lies _ rfl _ _ 22 rfl mb 2 i0 (.int .i64 0) 1 8 Try.underlying22 hi0 hz0 hz1 hz2 rfl (by decide) (.slice A3 j cA3) j _ rfl (HQ3.out.alloc _) ⟨wr2.heap.size,0,none⟩ 1 1 [.int .i64 0] rfl rfl (World.news_of_block (cs:=#[.int .i64 0]) (t:=2) (fr:=(0,0)) (Blk.new wr2 2 #[.int .i64 0])) (by simp [Value.oneCell']) (by omega) (by unfold maxLen; omega) (by omega) (by simp; omega) (wr2.heap.size + 1) (by simp) ?_)
      intro gg3 cap3 y3 hown hgrow hgat hgl
      obtain ⟨e3,z3,hm⟩:=app13V (v':=.slice (some ⟨gg3,0,none⟩) (j + 1) cap3) (HM3.out.alloc (.cells #[.int .i64 0] 2)) (by simpa using hown) hgrow (by
        rcases hgat with z | z
        · exact .inl z.symm
        · right; simp [Value.ownBlock,z])
      have hb:=((HB3.out.alloc hsz3 (.cells #[.int .i64 0] 2)).grown hgrow (by simp; omega) (fun b hb=>(HQ3.out.lt b hb).1)).setCell (p:=⟨mb,2,none⟩) (Nat.le_refl _) (.slice (some ⟨gg3,0,none⟩) (j + 1) cap3)
      have HM4:=Lib.hid hm
      have HB4:=Lib.hid hb
      clear hm hb hown hgrow hgat d3
      go_wp2
      refine hK2.out _ _ ?_
      clear hK2 K2 e3 z3
      generalize World.setCell _ _ _ = wr3 at *
      go_wp2
      go_roundw
      case rel=>exact ⟨j + 1,_,_,by omega,by go_num,HM4.out,HB4.out⟩
      case measure=>simp [intOf]; omega
    · have ej : j = k:=by omega
      subst ej
      go_wp2
      go_ret
      exact ⟨rfl,mems13 hk0 HM2.out,HB2.out⟩
end
end Go.Proofs.Ytoepekcheapgmaa
namespace Go.Proofs.Ytoepekcheapgmaa
open Go.RowKit Go.Turn Go.Tame Go.Conc
inductive GoesC (n : Nat) (fs : Int) (u : Who13) : MulS→Cl13→Nat→MulS→Cl13→Prop
  | here (s : MulS) (c : Cl13) : GoesC n fs u s c 0 s c
  | step {s : MulS} {c : Cl13} {k : Nat} {s' : MulS} {c' : Cl13} : c.done = false→GoesC n fs u (stepC n fs s u c).1 (stepC n fs s u c).2 k s' c'→GoesC n fs u s c (k + 1) s' c'
section
variable {n : Nat} {fs : Int} {u : Who13} {s s1 s2 : MulS} {c c1 c2 : Cl13} {k k2 : Nat}
theorem GoesC.trans (h : GoesC n fs u s c k s1 c1) (h2 : GoesC n fs u s1 c1 k2 s2 c2) : GoesC n fs u s c (k + k2) s2 c2:=by
  induction h with
  | here=>rwa [Nat.zero_add]
  | step hd _ ih =>
    rw [Nat.add_right_comm]
    exact .step hd (ih h2)
theorem GoesC.one {r : MulS × Cl13} (hd : c.done = false) (h : stepC n fs s u c = r) : GoesC n fs u s c 1 r.1 r.2:=by
  subst h
  exact .step hd (.here _ _)
theorem GoesC.at_ (h : GoesC n fs u s c k s1 c1) {k' : Nat} {s' : MulS} {c' : Cl13} (h1 : k = k') (h2 : s1 = s') (h3 : c1 = c') : GoesC n fs u s c k' s' c':=by
  subst h1 h2 h3
  exact h
end
def leastH (c : Int) (nums : List Int) : Int:=nums.foldl min c
def frMc (n : Nat) (nums : List Int) : FrX:=fun S c m=>if c + m - n≤S.seen then (true,S.seen,1) else (decide (c + m - n≤leastH c nums),leastH c nums,nums.length + 2)
structure AllIn (u : Who13) : Prop where
  gate : u.gate = false
  mem : u.mem = (List.range u.num.length).map Int.ofNat
section
variable {n : Nat} {fs : Int} {u : Who13} {s : MulS} {c : Cl13}
theorem goes4 (hu : AllIn u) : ∀ (r i : Nat),i + r = u.num.length→0 < r→∀ c : Cl13,c.done = false→c.Ph = 4→c.list = u.mem→c.I = i→GoesC n fs u s c r s { c with L:=leastH c.L (u.num.drop i),I:=u.num.length,Ph:=5 }
  | 0,_,_,h,_,_,_,_,_=>by omega
  | r + 1,i,hr,_,c,hd,hp,hl,hi=>by
    have hlt : i < u.num.length:=by omega
    have hmem : c.list.getD c.I 0 = (i : Int):=by
      rw [hl,hi,hu.mem,List.getD_eq_getElem?_getD]
      simp [hlt]
    have hlen : c.list.length = u.num.length:=by rw [hl,hu.mem]; simp
    have hst : stepC n fs s u c = (s,{ c with L:=min c.L (u.num.getD i 0),I:=i + 1,Ph:=if i + 1 = u.num.length then 5 else 4 }):=by
      unfold stepC
      rw [if_neg (by omega),if_pos hp,hmem,hi,hlen,Int.toNat_natCast]
    have hdr : u.num.drop i = u.num.getD i 0 :: u.num.drop (i + 1):=by
      rw [List.drop_eq_getElem_cons hlt,List.getD_eq_getElem?_getD,List.getElem?_eq_getElem hlt]; rfl
    have h1:=GoesC.one (n:=n) (fs:=fs) (s:=s) hd hst
    rw [hdr]
    by_cases e : i + 1 = u.num.length
    · obtain rfl : r = 0:=by omega
      refine h1.at_ rfl rfl ?_
      rw [if_pos e,List.drop_eq_nil_of_le (by omega),← e]
      rfl
    · rw [if_neg e] at h1
      have h2:=goes4 hu r (i + 1) (by omega) (by omega) { c with L:=min c.L (u.num.getD i 0),I:=i + 1,Ph:=4 } hd rfl hl rfl
      exact (h1.trans h2).at_ (by omega) rfl rfl
theorem wrX_skip (st : Nat→Int) (n : Nat) (fs : Int) : ∀ (d m : Nat) (q : Int),d≤m→(0 < d→q + d≤fs)→wrX st n fs m q = wrX st n fs (m - d) (q + d)
  | 0,m,q,_,_=>by simp
  | d + 1,0,q,h,_=>by omega
  | d + 1,m + 1,q,h,h2=>by
    rw [wrX,if_neg (by have:=h2 (by omega); omega),wrX_skip st n fs d m (q + 1) (by omega) (fun _=>by have:=h2 (by omega); omega)]
    congr 1 <;> omega
theorem goes6 : ∀ (r : Nat) (c : Cl13),0 < r→c.done = false→c.Ph = 6→fs + n≤c.Q→c.Q + r = c.C + c.N + 1 →
    ∃ q p,(p = if (wrX s.st n fs r (c.Q - n)).1 then 8 else 7)∧GoesC n fs u s c (wrX s.st n fs r (c.Q - n)).2 s { c with Q:=q,Ph:=p }
  | 0,_,h,_,_,_,_=>by omega
  | r + 1,c,_,hd,hp,hq,hr=>by
    have hwx : wrX s.st n fs (r + 1) (c.Q - n) = if s.st ((c.Q - n) % n).toNat = 2 * ((c.Q - n) / n) then ((wrX s.st n fs r (c.Q - n + 1)).1,(wrX s.st n fs r (c.Q - n + 1)).2 + 1) else (false,1):=by rw [wrX,if_pos (by omega)]
    rw [hwx]
    have hst : stepC n fs s u c = (s,if s.st ((c.Q - n) % n).toNat = 2 * ((c.Q - n) / n) then { c with Q:=c.Q + 1,Ph:=if c.C + c.N < c.Q + 1 then 8 else 6 } else c.ph 7):=by
      unfold stepC
      rw [if_neg (by omega),if_neg (by omega),if_neg (by omega),if_pos hp]
    have h1:=GoesC.one (n:=n) (fs:=fs) (s:=s) hd hst
    by_cases e : s.st ((c.Q - n) % n).toNat = 2 * ((c.Q - n) / n)
    · rw [if_pos e]
      rw [if_pos e] at h1
      dsimp only at h1 ⊢
      by_cases e2 : c.C + c.N < c.Q + 1
      · obtain rfl : r = 0:=by omega
        rw [if_pos e2] at h1
        exact ⟨c.Q + 1,8,rfl,h1⟩
      · rw [if_neg e2] at h1
        obtain ⟨q,p,g1,g2⟩:=goes6 r { c with Q:=c.Q + 1,Ph:=6 } (by omega) hd rfl (by dsimp only; omega) (by dsimp only; omega)
        dsimp only at g1 g2
        have e3 : c.Q + 1 - (n : Int) = c.Q - n + 1:=by omega
        rw [e3] at g1 g2
        exact ⟨q,p,g1,(h1.trans g2).at_ (by omega) rfl rfl⟩
    · rw [if_neg e]
      rw [if_neg e] at h1
      exact ⟨c.Q,7,rfl,h1⟩
theorem goesS (C N : Int) (hC : c.C = C) (hN : c.N = N) (h0 : 1≤N) (h1 : N≤n) (hd : c.done = false) (hQ : c.Q = max (C + 1) (fs + n)) (hP : c.Ph = if C + N < max (C + 1) (fs + n) then 8 else 6) (hcur : s.cur = C) (b : Bool) (k : Nat) (hbk : wrX s.st n fs N.toNat (C + 1 - n) = (b,k)) :
    ∃ c',GoesC n fs u s c (k + 1) (if b then { s with cur:=C + N } else s) c'∧c'.done = true∧(c'.last = if b then C + N else c.last)∧(c'.err = if b then c.err else 3):=by
  subst hC hN
  obtain ⟨M,hM,m1,m2,m3⟩ : ∃ M,max (c.C + 1) (fs + n) = M∧c.C + 1≤M∧fs + n≤M∧(M = c.C + 1∨M = fs + n):=⟨_,rfl,Int.le_max_left _ _,Int.le_max_right _ _,by
    by_cases e : c.C + 1≤fs + n
    · exact .inr (Int.max_eq_right e)
    · exact .inl (Int.max_eq_left (by omega))⟩
  rw [hM] at hQ hP
  have h8 : ∀ x : Cl13,x.done = false→x.Ph = 8→x.C = c.C→x.N = c.N→GoesC n fs u s x 1 { s with cur:=c.C + c.N } { x with Ph:=1,last:=c.C + c.N,done:=true }:=fun x xd xp xc xn=>by
    have : stepC n fs s u x = ({ s with cur:=x.C + x.N },{ x with Ph:=1,last:=x.C + x.N,done:=true }):=by
      unfold stepC
      rw [if_neg (by omega),if_neg (by omega),if_neg (by omega),if_neg (by omega),if_neg (by omega),if_pos (by omega)]
    exact (GoesC.one xd this).at_ rfl (by simp only [xc,xn]) (by simp only [xc,xn])
  have h7 : ∀ x : Cl13,x.done = false→x.Ph = 7→x.C = c.C→GoesC n fs u s x 1 s ((x.ph 1).refuse 3):=fun x xd xp xc=>by
    have : stepC n fs s u x = (s,(x.ph 1).refuse 3):=by
      unfold stepC
      rw [if_neg (by omega),if_neg (by omega),if_neg (by omega),if_neg (by omega),if_pos (by omega),if_pos (by omega)]
    exact GoesC.one xd this
  by_cases e : c.C + c.N < M
  · rw [if_pos e] at hP
    have hcn : c.C + 1 - (n : Int) + c.N.toNat≤fs:=by rcases m3 with m3 | m3 <;> omega
    have hw : wrX s.st n fs c.N.toNat (c.C + 1 - n) = (true,0):=by
      rw [wrX_skip s.st n fs c.N.toNat c.N.toNat (c.C + 1 - n) (Nat.le_refl _) (fun _=>hcn),Nat.sub_self]
      rfl
    obtain ⟨rfl,rfl⟩ : b = true∧k = 0:=by rw [hbk] at hw; cases hw; exact ⟨rfl,rfl⟩
    exact ⟨_,h8 c hd hP rfl rfl,rfl,rfl,rfl⟩
  · rw [if_neg e] at hP
    obtain ⟨d,hdd⟩ : ∃ d : Nat,c.Q = c.C + 1 + d:=⟨(c.Q - (c.C + 1)).toNat,by omega⟩
    have hw:=wrX_skip s.st n fs d c.N.toNat (c.C + 1 - n) (by omega) (fun hd0=>by rcases m3 with m3 | m3 <;> omega)
    obtain ⟨q,p,g1,g2⟩:=goes6 (u:=u) (n:=n) (fs:=fs) (s:=s) (c.N.toNat - d) c (by omega) hd hP (by omega) (by omega)
    rw [hbk,show c.C + 1 - (n : Int) + d = c.Q - n by omega] at hw
    rw [← hw] at g1 g2
    dsimp only at g1 g2 ⊢
    cases b with
    | true=>exact ⟨_,g2.trans (h8 { c with Q:=q,Ph:=p } hd g1 rfl rfl),rfl,rfl,rfl⟩
    | false=>exact ⟨_,g2.trans (h7 { c with Q:=q,Ph:=p } hd g1 rfl),rfl,rfl,rfl⟩
theorem claim_goes (hu : AllIn u) (S : MulS) (N : Int) :
    ∃ cF,GoesC n fs u S (newC n N) (claimX (frMc n u.num) n fs S N).2.2.2 (claimX (frMc n u.num) n fs S N).2.2.1 cF∧cF.done = true∧cF.last = (claimX (frMc n u.num) n fs S N).1∧cF.err = (claimX (frMc n u.num) n fs S N).2.1:=by
  unfold claimX newC
  by_cases h1 : N < 1∨(n : Int) < N
  · rw [if_pos h1,if_pos h1]
    exact ⟨_,.here _ _,rfl,rfl,rfl⟩
  rw [if_neg h1,if_neg h1]
  have s1 : stepC n fs S u ⟨N,1,0,0,0,0,[],0,false,0,0⟩ = (S,if 4611686018427387904≤S.cur + N then (⟨N,2,S.cur,0,0,0,[],0,false,0,0⟩ : Cl13).refuse 8 else ⟨N,2,S.cur,0,0,0,[],0,false,0,0⟩):=by
    unfold stepC firstC
    rw [if_pos (.inl rfl),if_pos rfl]
  have g1:=GoesC.one (c:=⟨N,1,0,0,0,0,[],0,false,0,0⟩) rfl s1
  by_cases h2 : 4611686018427387904≤S.cur + N
  · rw [if_pos h2]
    rw [if_pos h2] at g1
    exact ⟨_,g1,rfl,rfl,rfl⟩
  rw [if_neg h2]
  rw [if_neg h2] at g1
  have s2 : stepC n fs S u ⟨N,2,S.cur,0,0,0,[],0,false,0,0⟩ = (S,if S.cur + N - n≤S.seen then (⟨N,2,S.cur,S.seen,0,0,[],0,false,0,0⟩ : Cl13).seen n fs else (⟨N,2,S.cur,S.seen,0,0,[],0,false,0,0⟩ : Cl13).listed u.mem):=by
    unfold stepC firstC Cl13.wide
    rw [if_pos (.inr (.inl rfl)),if_neg (show ¬ ((2 : Int) = 1) by decide),if_pos rfl,hu.gate]
    dsimp only
    by_cases e : S.cur + N - n≤S.seen
    · rw [if_pos (decide_eq_false (by omega)),if_pos e]
    · rw [if_neg (by simp; omega),if_neg e]
      rfl
  have g2:=GoesC.one (c:=⟨N,2,S.cur,0,0,0,[],0,false,0,0⟩) rfl s2
  unfold frMc
  by_cases h3 : S.cur + N - n≤S.seen
  · rw [if_pos h3] at g2 ⊢
    rw [if_neg (show ¬ (true = false) by decide)]
    obtain ⟨b,k,hbk⟩ : ∃ b k,wrX S.st n fs N.toNat (S.cur + 1 - n) = (b,k):=⟨_,_,rfl⟩
    rw [hbk]
    obtain ⟨c',g3,d1,d2,d3⟩:=goesS (u:=u) (n:=n) (fs:=fs) (s:=S) (c:=(⟨N,2,S.cur,S.seen,0,0,[],0,false,0,0⟩ : Cl13).seen n fs) S.cur N rfl rfl (by omega) (by omega) rfl rfl rfl rfl b k hbk
    have g:=(g1.trans g2).trans g3
    cases b with
    | false =>
      rw [if_pos rfl]
      exact ⟨c',g.at_ (by dsimp only; omega) rfl rfl,d1,d2,d3⟩
    | true =>
      dsimp only
      rw [if_neg (show ¬ (true = false) by decide)]
      exact ⟨c',g.at_ (by dsimp only; omega) rfl rfl,d1,d2,d3⟩
  · rw [if_neg h3] at g2 ⊢
    dsimp only
    -- the numbers
    have g4 : ∃ x : Cl13,GoesC n fs u S ((⟨N,2,S.cur,S.seen,0,0,[],0,false,0,0⟩ : Cl13).listed u.mem) u.num.length S x∧x.Ph = 5∧x.C = S.cur∧x.N = N∧x.L = leastH S.cur u.num∧x.done = false∧x.last = 0∧x.err = 0:=by
      have hlen : u.mem.length = u.num.length:=by rw [hu.mem]; simp
      by_cases e : u.num.length = 0
      · refine ⟨_,(GoesC.here _ _).at_ e.symm rfl rfl,by unfold Cl13.listed; exact if_pos (hlen.trans e),rfl,rfl,?_,rfl,rfl,rfl⟩
        have : u.num = []:=List.eq_nil_of_length_eq_zero e
        rw [this]
        rfl
      · exact ⟨_,goes4 hu u.num.length 0 (by omega) (by omega) ((⟨N,2,S.cur,S.seen,0,0,[],0,false,0,0⟩ : Cl13).listed u.mem) rfl (by unfold Cl13.listed; exact if_neg (by omega)) rfl rfl,rfl,rfl,rfl,rfl,rfl,rfl,rfl⟩
    obtain ⟨x,g5,x1,x2,x3,x4,x5,x6,x7⟩:=g4
    have s5 : stepC n fs S u x = ({ S with seen:=leastH S.cur u.num },if leastH S.cur u.num < S.cur + N - n then x.refuse 3 else x.seen n fs):=by
      unfold stepC Cl13.wide
      rw [if_neg (by omega),if_neg (by omega),if_pos x1,x2,x3,x4]
      by_cases e : leastH S.cur u.num < S.cur + N - n
      · rw [if_pos (decide_eq_true e),if_pos e]
      · rw [if_neg (by simp; omega),if_neg e]
    have g6:=GoesC.one x5 s5
    by_cases e : leastH S.cur u.num < S.cur + N - n
    · rw [if_pos e] at g6
      rw [if_pos (decide_eq_false (by omega))]
      exact ⟨_,((g1.trans g2).trans (g5.trans g6)).at_ (by dsimp only; omega) rfl rfl,rfl,x6,rfl⟩
    · rw [if_neg e] at g6
      rw [if_neg (by simp; omega)]
      obtain ⟨b,k,hbk⟩ : ∃ b k,wrX S.st n fs N.toNat (S.cur + 1 - n) = (b,k):=⟨_,_,rfl⟩
      rw [hbk]
      obtain ⟨c',g3,d1,d2,d3⟩:=goesS (u:=u) (n:=n) (fs:=fs) (s:={ S with seen:=leastH S.cur u.num }) (c:=x.seen n fs) S.cur N x2 x3 (by omega) (by omega) x5 (by rw [← x2]; rfl) (by rw [← x2,← x3]; rfl) rfl b k hbk
      have g:=((g1.trans g2).trans (g5.trans g6)).trans g3
      have d2 : c'.last = if b then S.cur + N else 0:=by rw [d2,show (x.seen n fs).last = x.last from rfl,x6]
      have d3 : c'.err = if b then 0 else 3:=by rw [d3,show (x.seen n fs).err = x.err from rfl,x7]
      cases b with
      | false =>
        rw [if_pos rfl]
        exact ⟨c',g.at_ (by dsimp only; omega) rfl rfl,d1,d2,d3⟩
      | true =>
        dsimp only
        rw [if_neg (show ¬ (true = false) by decide)]
        exact ⟨c',g.at_ (by dsimp only; omega) rfl rfl,d1,d2,d3⟩
end
inductive GoesO (n : Nat) (fs : Int) (u : Who13) : MulS→Of13→Nat→MulS→Of13→Prop
  | here (s : MulS) (o : Of13) : GoesO n fs u s o 0 s o
  | step {s : MulS} {o : Of13} {k : Nat} {s' : MulS} {o' : Of13} : o.done = false→GoesO n fs u (stepO n fs s u o).1 (stepO n fs s u o).2 k s' o'→GoesO n fs u s o (k + 1) s' o'
inductive GoesH (n : Nat) (st : Nat→Int) : Hi13→Nat→Hi13→Prop
  | here (h : Hi13) : GoesH n st h 0 h
  | step {h : Hi13} {k : Nat} {h' : Hi13} : h.done = false→GoesH n st (stepH n st h) k h'→GoesH n st h (k + 1) h'
section
variable {n : Nat} {fs : Int} {u : Who13} {s s1 s2 : MulS} {o o1 o2 : Of13} {k k2 : Nat}
theorem GoesO.trans (h : GoesO n fs u s o k s1 o1) (h2 : GoesO n fs u s1 o1 k2 s2 o2) : GoesO n fs u s o (k + k2) s2 o2:=by
  induction h with
  | here=>rwa [Nat.zero_add]
  | step hd _ ih =>
    rw [Nat.add_right_comm]
    exact .step hd (ih h2)
theorem GoesO.one {r : MulS × Of13} (hd : o.done = false) (h : stepO n fs s u o = r) : GoesO n fs u s o 1 r.1 r.2:=by
  subst h
  exact .step hd (.here _ _)
theorem GoesO.at_ (h : GoesO n fs u s o k s1 o1) {k' : Nat} {s' : MulS} {o' : Of13} (h1 : k = k') (h2 : s1 = s') (h3 : o1 = o') : GoesO n fs u s o k' s' o':=by
  subst h1 h2 h3
  exact h
theorem goesO_claim {c c1 : Cl13} (h : GoesC n fs u s c k s1 c1) : ∀ o : Of13,c1.done = true→o.k = c→c.done = false→o.done = false→GoesO n fs u s o k s1 { o with k:=c1,done:=decide (c1.err≠0),err:=c1.err }:=by
  induction h with
  | here s c=>intro o h1 _ h2; rw [h1] at h2; cases h2
  | @step s c k s' c' hd h ih =>
    intro o h1 hk _ ho
    have hst : stepO n fs s u o = ((stepC n fs s u c).1,{ o with k:=(stepC n fs s u c).2,done:=(stepC n fs s u c).2.done && decide ((stepC n fs s u c).2.err≠0),err:=(stepC n fs s u c).2.err }):=by
      unfold stepO
      rw [hk,if_pos hd]
    have g1:=GoesO.one ho hst
    cases hd2 : (stepC n fs s u c).2.done with
    | false =>
      have g2:=ih { o with k:=(stepC n fs s u c).2,done:=false,err:=(stepC n fs s u c).2.err } h1 rfl hd2 rfl
      rw [hd2] at g1
      exact (g1.trans g2).at_ (Nat.add_comm _ _) rfl rfl
    | true =>
      rw [hd2] at g1
      cases h with
      | here=>exact g1.at_ rfl rfl (by simp)
      | step hd3 _=>rw [hd3] at hd2; cases hd2
theorem putC3 (n : Nat) (s : MulS) (q v : Int) : putC n (putC n (putC n s 1 q v) 2 q v) 3 q v = putS s n q v:=by
  unfold putC putS
  rw [if_pos rfl,if_neg (by decide),if_pos rfl,if_neg (by decide),if_neg (by decide)]
  simp only [upd_upd]
theorem goesO_put : ∀ (r : Nat) (s : MulS) (o : Of13),o.I + r = o.vs.length→0 < r→o.k.done = true→o.done = false→o.Ph = 1 →
    ∃ oF,GoesO n fs u s o (3 * r) (putsS n s (o.k.last - o.vs.length + 1 + o.I) (o.vs.drop o.I)) oF∧oF.done = true∧oF.last = o.k.last∧oF.err = o.err
  | 0,_,_,_,h,_,_,_=>by omega
  | r + 1,s,o,hr,_,hkd,hd,hp=>by
    have hlt : o.I < o.vs.length:=by omega
    obtain ⟨q,hq⟩ : ∃ q,q = o.k.last - o.vs.length + 1 + o.I:=⟨_,rfl⟩
    obtain ⟨v,hv⟩ : ∃ v,v = o.vs.getD o.I 0:=⟨_,rfl⟩
    have e1 : stepO n fs s u o = (putC n s 1 q v,{ o with Ph:=2 }):=by
      rw [stepO_put n fs s u o hkd,if_neg (by omega),hp,← hq,← hv]; rfl
    have e2 : stepO n fs (putC n s 1 q v) u { o with Ph:=2 } = (putC n (putC n s 1 q v) 2 q v,{ o with Ph:=3 }):=by
      rw [stepO_put n fs _ u { o with Ph:=2 } hkd,if_neg (show ¬ (2 : Int) = 3 by decide)]; dsimp only; rw [← hq,← hv]; rfl
    have e3 : stepO n fs (putC n (putC n s 1 q v) 2 q v) u { o with Ph:=3 } = (putS s n q v,if o.I + 1 = o.vs.length then { o with Ph:=1,I:=o.I + 1,done:=true,last:=o.k.last } else { o with Ph:=1,I:=o.I + 1 }):=by
      rw [stepO_put n fs _ u { o with Ph:=3 } hkd,if_pos rfl]; dsimp only; rw [← hq,← hv,putC3]
    have g:=((GoesO.one hd e1).trans (GoesO.one (o:={ o with Ph:=2 }) hd e2)).trans (GoesO.one (o:={ o with Ph:=3 }) hd e3)
    have hdr : o.vs.drop o.I = v :: o.vs.drop (o.I + 1):=by
      rw [List.drop_eq_getElem_cons hlt,hv,List.getD_eq_getElem?_getD,List.getElem?_eq_getElem hlt]; rfl
    rw [hdr,← hq]
    by_cases e : o.I + 1 = o.vs.length
    · obtain rfl : r = 0:=by omega
      rw [if_pos e] at g
      refine ⟨_,g.at_ rfl ?_ rfl,rfl,rfl,rfl⟩
      rw [List.drop_eq_nil_of_le (by omega)]
      rfl
    · rw [if_neg e] at g
      obtain ⟨oF,g2,d1,d2,d3⟩:=goesO_put r (putS s n q v) { o with Ph:=1,I:=o.I + 1 } (by dsimp only; omega) (by omega) hkd hd rfl
      dsimp only at g2 d2 d3
      refine ⟨oF,(g.trans g2).at_ (by omega) ?_ rfl,d1,d2,d3⟩
      show putsS n (putS s n q v) (o.k.last - o.vs.length + 1 + ((o.I + 1 : Nat) : Int)) (o.vs.drop (o.I + 1)) = putsS n (putS s n q v) (q + 1) (o.vs.drop (o.I + 1))
      congr 1
      omega
theorem offer_goes (hu : AllIn u) (S : MulS) (vs : List Int) :
    ∃ oF,GoesO n fs u S (newO n vs) (offerX (frMc n u.num) n fs S vs).2.2.2 (offerX (frMc n u.num) n fs S vs).2.2.1 oF∧oF.done = true∧oF.last = (offerX (frMc n u.num) n fs S vs).1∧oF.err = (offerX (frMc n u.num) n fs S vs).2.1:=by
  obtain ⟨cF,g,d1,d2,d3⟩:=claim_goes (fs:=fs) hu S (vs.length : Int) (n:=n)
  have hok:=claimX_ok (fr:=frMc n u.num) (N:=n) (fs:=fs) (S:=S) (m:=vs.length)
  unfold offerX
  obtain ⟨x,e,S',k,hr⟩ : ∃ x e S' k,claimX (frMc n u.num) n fs S vs.length = (x,e,S',k):=⟨_,_,_,_,rfl⟩
  rw [hr] at g d2 d3 hok ⊢
  dsimp only at g d2 d3 hok ⊢
  cases hd : (newC n vs.length).done with
  | true =>
    cases g with
    | here =>
      have he : e≠0:=by
        rw [← d3]
        unfold newC at hd ⊢
        split at hd
        · rename_i h; rw [if_pos h]; exact (show ¬ ((1 : Int) = 0) by decide)
        · cases hd
      rw [if_neg he]
      exact ⟨_,.here _ _,hd,rfl,d3⟩
    | step hd2 _=>rw [hd2] at hd; cases hd
  | false =>
    have g2:=goesO_claim g (newO n vs) d1 rfl hd hd
    by_cases he : e = 0
    · rw [if_pos he]
      obtain ⟨h1,h2,h3,h4⟩:=hok he
      obtain ⟨oF,g3,f1,f2,f3⟩:=goesO_put (n:=n) (fs:=fs) (u:=u) vs.length S' { newO n vs with k:=cF,done:=decide (cF.err≠0),err:=cF.err } (by simp [newO]) (by omega) d1 (by simp [d3,he]) rfl
      have e3 : ({ newO n vs with k:=cF,done:=decide (cF.err≠0),err:=cF.err } : Of13).vs = vs:=rfl
      dsimp only [newO] at g3 f2 f3
      refine ⟨oF,(g2.trans g3).at_ rfl ?_ rfl,f1,by rw [f2,d2],by rw [f3,d3,he]⟩
      rw [d2,List.drop_zero]
      congr 1
      omega
    · rw [if_neg he]
      exact ⟨_,g2,by simp [d3,he],rfl,d3⟩
end
section
variable {n : Nat} {st : Nat→Int}
theorem goesH : ∀ (kk : Nat) (h : Hi13),h.done = false→h.T = h.Q + kk→∃ hF,GoesH n st h (highR st n (kk + 1) h.Q).2 hF∧hF.done = true∧hF.N = (highR st n (kk + 1) h.Q).1
  | kk,h,hd,hT=>by
    have hone : ∀ r,stepH n st h = r→GoesH n st h 1 r:=fun r e=>by subst e; exact .step hd (.here _)
    rw [highR]
    by_cases e : st (h.Q % n).toNat = 2 * (h.Q / n)
    · rw [if_pos e]
      cases kk with
      | zero =>
        have : stepH n st h = { h with done:=true,N:=h.Q,Q:=h.Q + 1 }:=by
          unfold stepH; rw [if_pos e,if_pos (by omega)]
        refine ⟨_,hone _ this,rfl,?_⟩
        show h.Q = h.Q + 1 - 1
        omega
      | succ kk =>
        have : stepH n st h = { h with Q:=h.Q + 1 }:=by
          unfold stepH; rw [if_pos e,if_neg (by omega)]
        obtain ⟨hF,g,d1,d2⟩:=goesH kk { h with Q:=h.Q + 1 } hd (by dsimp only; omega)
        exact ⟨hF,.step hd (this ▸ g),d1,d2⟩
    · rw [if_neg e]
      have : stepH n st h = { h with done:=true,N:=h.Q - 1 }:=by
        unfold stepH; rw [if_neg e]
      exact ⟨_,hone _ this,rfl,rfl⟩
theorem highR_le : ∀ (k : Nat) (q : Int),(highR st n k q).2≤k
  | 0,_=>Nat.le_refl _
  | k + 1,q=>by
    rw [highR]
    split
    · exact Nat.succ_le_succ (highR_le k (q + 1))
    · exact Nat.le_add_left _ _
theorem high_goes (S : MulS) (q : Int) (g : GoodQ q) (hc : S.cur < 4611686018427387904) (hn : 0 < n) : ∃ hF k,GoesH n S.st (newH n q S.cur) k hF∧hF.done = true∧hF.N = (pubX n S q).1∧1 + k = (pubX n S q).2∧k≤n:=by
  obtain ⟨g0,g1⟩:=id g
  have hp : pubX n S q = if q≤S.cur then ((highR S.st n (highN n q S.cur) q).1,1 + (highR S.st n (highN n q S.cur) q).2) else (q - 1,1):=by
    unfold pubX
    rw [if_neg (by omega),if_neg (by omega)]
  rw [hp]
  unfold newH
  by_cases h : S.cur < q
  · rw [if_pos (.inr h),if_neg (by omega)]
    exact ⟨_,0,.here _,rfl,rfl,rfl,Nat.zero_le _⟩
  · rw [if_neg (fun z=>z.elim (fun z=>z g) h),if_pos (by omega)]
    obtain ⟨kk,hkk⟩ : ∃ kk : Nat,min S.cur (min (q + n - 1) 4611686018427387903) = q + kk:=⟨(min S.cur (min (q + n - 1) 4611686018427387903) - q).toNat,by omega⟩
    obtain ⟨hF,g2,d1,d2⟩:=goesH (n:=n) (st:=S.st) kk ⟨q,min S.cur (min (q + n - 1) 4611686018427387903),q,false,0⟩ rfl hkk
    have e : highN n q S.cur = kk + 1:=by
      unfold highN
      rw [Int.min_assoc,hkk]
      omega
    rw [e]
    exact ⟨hF,_,g2,d1,d2,rfl,Nat.le_trans (highR_le _ _) (by omega)⟩
end
end Go.Proofs.Ytoepekcheapgmaa
namespace Go.Proofs.Ytoepekcheapgmaa
open Go.RowKit Go.Turn
def xR (X : Nat→Option Row) : Rn13→Option Row
  | .X k=>X k
  | _=>none
def xF (P : Pl13) : Nat→Value
  | 0=>.pointer (some ⟨P.mb,0,none⟩)
  | _=>.pointer (some ⟨P.wb,0,none⟩)
def xRow (P : Pl13) (xb : Nat) : Row:=⟨64,2,.slice (some ⟨xb,0,none⟩) 1 1,1,xF P⟩
abbrev mcR (P : Pl13) (s : MulS) (u : Who13) (X : Nat→Option Row) : Rn13→Option Row:=mulR P s (whoR P u (xR X))
section
variable {P : Pl13} {B xb : Nat} {s : MulS} {u : Who13} {c : Cl13} {vL : Value} {f : Nat→Value} {X : Nat→Option Row} {w w' : World}
theorem xcell {R : Rn13→Option Row} (h : Mems B R w) (hR : ∀ k,R (.X k) = X k) (hX : X 0 = some (xRow P xb)) (i : Nat) (hi : i < 2) : w.cell? ⟨xb,i,none⟩ = some (xF P i):=h.cell (r:=.X 0) ((hR 0).trans hX) (by omega)
theorem mems_claim (h : Mems B (mcR P s u X) w) (hB : B≤w.heap.size) (hl : c.list = []) : Mems B (allR { P with kb:=w.heap.size,o:=0,sz:=11,T:=108 } s u c (.slice none 0 0) (fun _=>undef) X) (w.alloc (.cells (clCells c) 108)):=by
  have h1 : Mems B (fun r=>if r = .K then some ⟨108,11,.slice (some ⟨w.heap.size,0,none⟩) 1 1,1,inF 0 11 (kF c (.slice none 0 0)) fun _=>undef⟩ else mcR P s u X r) (w.alloc (.cells (clCells c) 108)):=by
    refine h.new (r:=.K) rfl (fun r hr=>by simp [hr]) (fun b hb=>Below.heap_alloc _ _ _ hb) ?_ (fun b hb=>by cases hb; exact Nat.le_refl _)
    refine row_box (Blk.new w 108 (clCells c)) hB _ fun j hj=>?_
    rcases j with _ | _ | _ | _ | _ | _ | _ | _ | _ | _ | _ | j <;> first | rfl | (simp [clCells] at hj; omega)
  refine h1.dropped fun r d hr=>?_
  cases r with
  | L=>cases hr; exact .inr ⟨rfl,by show c.list.length = 0; rw [hl]; rfl⟩
  | _=>exact .inl hr
theorem mems_free {Q : Pl13} (h : Mems B (allR Q s u c vL f X) w) (hm : Q.mb = P.mb) (hw : Q.wb = P.wb) (h1 : Q.sb = P.sb) (h2 : Q.sc = P.sc) (h3 : Q.vb = P.vb) (h4 : Q.vc = P.vc) (h5 : Q.n = P.n) (h6 : Q.fs = P.fs) : Mems B (mcR P s u X) w:=by
  refine h.mono fun r d hr=>?_
  have em : mF Q s = mF P s:=by
    funext j
    rcases j with _ | _ | _ | _ | _ | j <;> simp [mF,h1,h2,h3,h4,h5,h6]
  cases r with
  | M=>simpa [mulR,hm,em] using hr
  | S=>simpa [mulR,h1,h2,h5] using hr
  | V=>simpa [mulR,h3,h4,h5] using hr
  | W=>simpa [mulR,whoR,hw] using hr
  | I=>exact hr
  | N=>exact hr
  | X k=>exact hr
  | K=>cases hr
  | L=>cases hr
theorem Try.size108 : (Try.prog.info? 108).map (·.size) = some 11:=by kernel_rfl
set_option maxHeartbeats 2000000 in
set_option maxRecDepth 100000 in
theorem wclaim_ok (h : Mems B (mcR P s u X) w) (k : P.Ok s) (hX : X 0 = some (xRow P xb)) (hBm : B≤P.mb) (N : Int) {T : Nat} {sF : MulS} {cF : Cl13} (hG : GoesC P.n P.fs u s (newC P.n N) T sF cF) (hF : cF.done = true) (hT : T < 4611686018427387904) (hm0 : ∀ x ∈ u.mem,0≤x∧x < u.num.length) (hm1 : u.num.length≤65536) (hm2 : u.mem.length≤65536) :
    Calls Try.prog 57 #[.pointer (some ⟨xb,0,none⟩),.int .i64 N] w fun e w'=>e = .returned (.tuple #[.int .i64 cF.last,.int .i64 cF.err,.int .i64 T])∧Mems B (mcR P sF u X) w'∧Below B w w':=by
  have x0:=xcell h (fun _=>rfl) hX 0 (by omega)
  simp only [xF] at x0
  have hBs : B≤w.heap.size:=by have:=(h.lt (r:=.M) rfl (b:=P.mb) rfl).2; omega
  obtain ⟨b,er,hbe⟩:=newC_eq P.n N
  have HNC : Hid (Calls Try.prog 86 #[.pointer (some ⟨P.mb,0,none⟩),.int .i64 N] w fun e w'=>e = .returned (.agg #[.int .i64 N,.int .i64 1,.int .i64 0,.int .i64 0,.int .i64 0,.int .i64 0,.slice none 0 0,.int .i64 0,.bool b,.int .i64 0,.int .i64 er])∧Kept (fun _=>False) w w'):=Lib.hid (by
    have:=newclaim_ok h k N
    rw [hbe] at this
    exact this.mono fun e w' ⟨h1,h2⟩=>⟨h1,h2 ▸ (Kept.alloc _ _).trans (Kept.alloc _ _)⟩)
  have hok0 : (newC P.n N).done = false→(newC P.n N).Ok P u:=fun hd=>by
    unfold newC at hd ⊢
    split at hd
    · cases hd
    · rename_i hn
      rw [if_neg hn]
      exact ⟨by show 1≤N; omega,by show N≤P.n; omega,by show (1 : Int)≤1; omega,by show (1 : Int)≤8; omega,fun z=>absurd rfl z,fun z=>absurd (show (1 : Int) = 4 from z) (by decide),fun z=>absurd (show (1 : Int) = 6 from z) (by decide),hm0,hm1,hm2⟩
  have HM:=Lib.hid (And.intro h (Below.refl B w))
  have HP:=Lib.hid k
  have HX:=Lib.hid hX
  have HG:=Lib.hid hG
  have HOK:=Lib.hid hok0
  have HBE:=Lib.hid hbe
  have HF:=Lib.hid hF
  have HWM:=Lib.hid (And.intro hm0 (And.intro hm1 hm2))
  clear h k hX hG hok0 hbe hF hm0 hm1 hm2
  go_enter Try.func57,Try.ntmps57
  refine wp_cut fun K hK=>?_
  go_wp2
  refine hK.out _ _ ?_
  clear hK K
  refine wp_cut fun K hK=>?_
  go_wp2_with (first | (go_at_call 86; refine HNC.out.mono ?_; rintro e w1 ⟨rfl,k1⟩) | (refine wpList_store_row rfl 108 (.tmp 7) (.tmp 14) rfl _ _ rfl rfl 108 _ (Blk.new w1 _ _) Try.size108 (by rfl) (by simp [Value.oneCell']) ?_; rw [setRow_last rfl]))
  simp only [Act.put]
  refine hK.out _ _ ?_
  clear hK K
  clear HNC x0
  obtain ⟨kb,hkb⟩ : ∃ kb,kb = w1.heap.size:=⟨_,rfl⟩
  have hR1 : Mems B (mcR P s u X) w1:=HM.out.1.same fun b hb=>k1.block b hb id
  have hB1 : Below B w (w1.alloc (.cells #[.int .i64 N,.int .i64 1,.int .i64 0,.int .i64 0,.int .i64 0,.int .i64 0,.slice none 0 0,.int .i64 0,.bool b,.int .i64 0,.int .i64 er] 108)):=(k1.to_below (fun b z=>z.elim) hBs).alloc (by have:=k1.size; omega) _
  have hR2:=mems_claim (c:=newC P.n N) hR1 (by have:=k1.size; omega) (by rw [HBE.out])
  rw [← hkb] at hR2 ⊢
  rw [show (w1.alloc (.cells (clCells (newC P.n N)) 108)) = w1.alloc (.cells #[.int .i64 N,.int .i64 1,.int .i64 0,.int .i64 0,.int .i64 0,.int .i64 0,.slice none 0 0,.int .i64 0,.bool b,.int .i64 0,.int .i64 er] 108) by rw [HBE.out]; rfl] at hR2
  have hBk : B≤kb:=by have:=k1.size; omega
  obtain ⟨Q,hQ⟩ : ∃ Q : Pl13,Q = { P with kb:=kb,o:=0,sz:=11,T:=108 }:=⟨_,rfl⟩
  have q1 : Q.mb = P.mb∧Q.wb = P.wb∧Q.kb = kb∧Q.o = 0∧Q.sz = 11∧Q.n = P.n∧Q.fs = P.fs∧Q.sb = P.sb∧Q.sc = P.sc∧Q.vb = P.vb∧Q.vc = P.vc:=by subst hQ; exact ⟨rfl,rfl,rfl,rfl,rfl,rfl,rfl,rfl,rfl,rfl,rfl⟩
  rw [← hQ] at hR2
  have HQ:=Lib.hid q1
  have HM1:=Lib.hid (And.intro hR2 hB1)
  clear q1 hQ hR1 hB1 hR2 k1 hkb HM
  generalize World.alloc _ _ = w2 at *
  go_wp2
  go_loopw [8] (fun st wr=>∃ (j k' : Nat) (s' : MulS) (c' : Cl13) (vL : Value),st = .int .i64 j∧GoesC P.n P.fs u s' c' k' sF cF∧j + k' = T∧Mems B (allR Q s' u c' vL (fun _=>undef) X) wr∧Below B w wr∧P.Ok s'∧(c'.done = false→c'.Ok P u)) (fun st _=>T - (intOf st).toNat)
  case atStart=>exact ⟨0,T,s,newC P.n N,_,rfl,HG.out,by omega,HM1.out.1,HM1.out.2,HP.out,HOK.out⟩
  case round =>
    obtain ⟨j,k',s',c',vL,rfl,hg,hjk,hm,hb,hp,ho⟩:=hrel
    have HM:=Lib.hid (And.intro hm hb)
    have HR:=Lib.hid (And.intro hg (And.intro hp ho))
    obtain ⟨qm,qw,qk,qo,qz,qn,qf,-⟩:=HQ.out
    have k8:=kcell hm (by omega) 8 (by omega)
    rw [qk,qo] at k8
    simp only [kF,Nat.zero_add] at k8
    have x0:=xcell hm (fun _=>rfl) HX.out 0 (by omega)
    have x1:=xcell hm (fun _=>rfl) HX.out 1 (by omega)
    simp only [xF] at x0 x1
    have hbs : c'.done = true∨c'.done = false:=by cases c'.done <;> simp
    have hst : c'.done = false→∀ z,Mems B (allR Q s' u c' vL (fun _=>undef) X) z→Calls Try.prog 87 #[.pointer (some ⟨P.mb,0,none⟩),.pointer (some ⟨kb,0,none⟩),.pointer (some ⟨P.wb,0,none⟩)] z fun e w'=>e = .returned (.tuple #[])∧Left13 Q B (stepC P.n P.fs s' u c').1 u (stepC P.n P.fs s' u c').2 (fun _=>undef) X z w':=fun hd z hz=>by
      have hpq : Q.Ok s':=⟨qn ▸ hp.n0,qn ▸ hp.n1,qf ▸ hp.f0,qf ▸ hp.f1,hp.c0,hp.c1⟩
      have ho1:=ho hd
      have hoq : c'.Ok Q u:=⟨ho1.n0,qn ▸ ho1.n1,ho1.p0,ho1.p1,ho1.c0,ho1.l0,fun z=>by rw [qf,qn]; exact ho1.q0 z,ho1.mem,ho1.nums,ho1.mems⟩
      have:=step13_ok hz hpq hoq (by omega) (by omega) (by omega)
      rw [qm,qk,qo,qw,qn,qf] at this
      exact this
    have HST:=Lib.hid hst
    clear hg hm hb hp ho hst qm qw qk qo qz qn qf
    rcases hbs with hd | hd
    · rw [hd] at k8
      obtain ⟨hg,hp,ho⟩:=HR.out
      cases hg with
      | step hd2 _=>rw [hd] at hd2; cases hd2
      | here =>
        obtain rfl : j = T:=by omega
        have k9:=kcell HM.out.1 (by have:=HQ.out; omega) 9 (by omega)
        have k10:=kcell HM.out.1 (by have:=HQ.out; omega) 10 (by omega)
        rw [HQ.out.2.2.1,HQ.out.2.2.2.1] at k9 k10
        simp only [kF,Nat.zero_add] at k9 k10
        clear HST HR x0 x1 hp ho
        go_wp2
        go_quiet (fail)
        go_wp2
        go_ret3
        exact ⟨rfl,mems_free (HM.out.1.drewN _) HQ.out.1 HQ.out.2.1 HQ.out.2.2.2.2.2.2.2.1 HQ.out.2.2.2.2.2.2.2.2.1 HQ.out.2.2.2.2.2.2.2.2.2.1 HQ.out.2.2.2.2.2.2.2.2.2.2 HQ.out.2.2.2.2.2.1 HQ.out.2.2.2.2.2.2.1,HM.out.2.trans (Below.drewN (Below.refl B _) _)⟩
    · rw [hd] at k8
      have HD:=Lib.hid hd
      clear hd
      refine wp_cut fun K2 hK2=>?_
      go_wp2
      refine hK2.out _ _ ?_
      clear hK2 K2 k8
      refine wp_block ?_
      refine wp_cut fun K hK=>?_
      refine wp_region_lastQ 8 (by kernel_rfl) (by kernel_rfl) (by kernel_rfl) (by kernel_rfl) ?_
      simp only [idle,List.modify_toArray,List.modify_succ_cons,List.modify_zero_cons,List.size_toArray,List.length_cons,List.length_nil,Nat.reduceAdd]
      repeat (go_big_quiet_step (fail))
      refine wpQuiet_nil ?_
      rintro _ ⟨nq,rfl⟩
      refine wpOps_list (m:=8) rfl ?_
      have hmd:=Lib.hid (And.intro (HM.out.1.drewN nq) (HM.out.2.trans (Below.drewN (Below.refl B _) nq)))
      clear HM
      have HM:=hmd
      clear hmd
      generalize World.drewN _ nq = w3 at *
      go_wp2_with (go_at_call 87; refine (HST.out HD.out _ HM.out.1).mono ?_; rintro e w4 ⟨rfl,⟨vL1,m4⟩,b4⟩)
      refine hK.out _ _ ?_
      clear hK K
      have H4:=Lib.hid (And.intro m4 (HM.out.2.trans b4))
      clear m4 b4 HM x0 x1 HST
      have hlt : j < T:=by
        obtain ⟨hg,-,-⟩:=HR.out
        cases hg with
        | here=>exact absurd HF.out (by rw [HD.out]; decide)
        | step=>omega
      go_wp2
      go_roundw
      case rel =>
        obtain ⟨hg,hp,ho⟩:=HR.out
        cases hg with
        | here=>exact absurd HF.out (by rw [HD.out]; decide)
        | @step _ _ k'' _ _ hd2 g2=>exact ⟨j + 1,k'',_,_,vL1,by go_num,g2,by omega,H4.out.1,H4.out.2,stepC_ring hp (ho HD.out),stepC_ok hp (ho HD.out)⟩
      case measure=>simp [intOf]; omega
end
end Go.Proofs.Ytoepekcheapgmaa
namespace Go.Proofs.Ytoepekcheapgmaa
open Go.RowKit Go.Turn
def putsC (n : Nat) (s : MulS) (q v : Int) : Nat→MulS
  | 0=>s
  | j + 1=>putC n (putsC n s q v j) ((j : Int) + 1) q v
theorem putsC_ok {P : Pl13} {s : MulS} (k : P.Ok s) (q v : Int) : ∀ j,P.Ok (putsC P.n s q v j)
  | 0=>k
  | j + 1=>by
    have:=putsC_ok k q v j
    unfold putsC putC
    split
    · exact ⟨this.n0,this.n1,this.f0,this.f1,this.c0,this.c1⟩
    split
    · exact ⟨this.n0,this.n1,this.f0,this.f1,this.c0,this.c1⟩
    · exact ⟨this.n0,this.n1,this.f0,this.f1,this.c0,this.c1⟩
theorem callAlloc {P : Program} {ops : Array Oper} {md : Region.Mode} {Q : Exit→Act→World→Prop} {S : World→Prop} {fuel : Nat} {listed : Array Bool} {a : Act} {w : World} (i j : Nat) {oi oj : Oper} (di dj : Tmp) (v : Value) (ty : TypeId) (zs : Array Value)
    (hr : Region.ready md ops listed = [i,j]) (hri : Region.ready md ops (listed.setIfInBounds i true) = [j]) (hrj : Region.ready md ops (listed.setIfInBounds j true) = [i])
    (hoi : ops[i]? = some oi) (hoj : ops[j]? = some oj) (hgi : oi.guard = none) (hgj : oj.guard = none)
    (hC0 : ∀ K : Act→World→Prop,(∀ z',Kept (fun _=>False) w z'→K (a.put (some di) v) z')→oi.wp P a w K Q)
    (hC1 : ∀ p,∀ K : Act→World→Prop,(∀ z',Kept (fun _=>False) (w.alloc (.cells zs ty)) z'→K ((a.put (some dj) p).put (some di) v) z')→oi.wp P (a.put (some dj) p) (w.alloc (.cells zs ty)) K Q)
    (hA : ∀ (y : Act) (z : World) (K : Act→World→Prop),K (y.put (some dj) (.pointer (some ⟨z.heap.size,0,none⟩))) (z.alloc (.cells zs ty))→oj.wp P y z K Q)
    (hS : ∀ z,Kept (fun _=>False) w z→S z)
    (hc : ∀ p,(a.put (some dj) p).put (some di) v = (a.put (some di) v).put (some dj) p)
    (hl : (listed.setIfInBounds j true).setIfInBounds i true = (listed.setIfInBounds i true).setIfInBounds j true)
    (h : ∀ kb z,w.heap.size≤kb→Kept (fun _=>False) w z→Blk z kb ty zs→wpAnyH P md ops Q S fuel ((listed.setIfInBounds i true).setIfInBounds j true) ((a.put (some di) v).put (some dj) (.pointer (some ⟨kb,0,none⟩))) z) : wpAnyH P md ops Q S (fuel + 2) listed a w:=by
  have hwi : ∀ y : Act,Region.wanted oi (yielded ops y.tmps) = true:=fun y=>by simp [Region.wanted,hgi]
  have hwj : ∀ y : Act,Region.wanted oj (yielded ops y.tmps) = true:=fun y=>by simp [Region.wanted,hgj]
  refine wpAnyH_all hr (by simp) fun x hx=>?_
  simp only [List.mem_cons,List.not_mem_nil,or_false] at hx
  rcases hx with rfl | rfl
  · refine opL hoi (hwi _) (hC0 _ fun z' hz=>⟨hS _ hz,?_⟩)
    refine wpAnyH_all hri (by simp) fun y hy=>?_
    simp only [List.mem_singleton] at hy
    subst hy
    refine opL hoj (hwj _) (hA _ _ _ ⟨hS _ (hz.trans (Kept.alloc _ _)),?_⟩)
    exact h _ _ hz.size (hz.trans (Kept.alloc _ _)) (Blk.new _ _ _)
  · refine opL hoj (hwj _) (hA _ _ _ ⟨hS _ (Kept.alloc _ _),?_⟩)
    refine wpAnyH_all hrj (by simp) fun y hy=>?_
    simp only [List.mem_singleton] at hy
    subst hy
    refine opL hoi (hwi _) (hC1 _ _ fun z' hz=>⟨hS _ ((Kept.alloc _ _).trans hz),?_⟩)
    rw [hc,hl]
    exact h _ _ (Nat.le_refl _) ((Kept.alloc _ _).trans hz) ((Blk.new _ _ _).kept hz id)
section
variable {P : Pl13} {B xb : Nat} {s : MulS} {u : Who13} {c : Cl13} {vL : Value} {f : Nat→Value} {X : Nat→Option Row} {w w' : World}
set_option maxHeartbeats 2000000 in
set_option maxRecDepth 100000 in
theorem wwrite_ok (h : Mems B (mcR P s u X) w) (k : P.Ok s) (hX : X 0 = some (xRow P xb)) (q v : Int) :
    Calls Try.prog 58 #[.pointer (some ⟨xb,0,none⟩),.int .i64 q,.int .i64 v] w fun e w'=>e = .returned (.tuple #[.int .i64 (if GoodQ q then 0 else 1),.int .i64 (if GoodQ q then 3 else 0)])∧Mems B (mcR P (if GoodQ q then putS s P.n q v else s) u X) w'∧Below B w w':=by
  have HGD:=Lib.hid (good13_ok q)
  by_cases g : GoodQ q
  · rw [if_pos g,if_pos g,if_pos g]
    have hg : decide (GoodQ q) = true:=decide_eq_true g
    rw [hg] at HGD
    have HM:=Lib.hid h
    have HX:=Lib.hid hX
    have HP:=Lib.hid k
    have HG:=Lib.hid g
    clear h k hX g hg
    go_enter Try.func58,Try.ntmps58
    go_wp2_with (go_at_call 88; refine (HGD.out _).mono ?_; rintro e w' ⟨rfl,hw'⟩; subst hw')
    go_loopw [8] (fun i wr=>∃ j : Nat,j≤3∧i = .int .i64 ((j : Int) + 1)∧Mems B (mcR P (putsC P.n s q v j) u X) wr∧Below B w wr) (fun i _=>4 - (intOf i).toNat)
    case atStart=>exact ⟨0,by omega,rfl,HM.out,Below.refl _ _⟩
    case round =>
      obtain ⟨j,hj,rfl,hm,hb⟩:=hrel
      have HM2:=Lib.hid (And.intro hm hb)
      have x0:=xcell hm (fun _=>rfl) HX.out 0 (by omega)
      simp only [xF] at x0
      clear hm hb
      by_cases hlt : j < 3
      · have HPT:=Lib.hid (put13_ok HM2.out.1 (putsC_ok HP.out q v j) ((j : Int) + 1) q v HG.out (by omega) (by omega))
        go_wp2_with (go_at_call 72; refine HPT.out.mono ?_; rintro e w2 ⟨rfl,m2,b2⟩)
        have H2:=Lib.hid (And.intro m2 (HM2.out.2.trans b2))
        clear m2 b2 HPT HM2
        go_wp2
        go_roundw
        case rel=>exact ⟨j + 1,by omega,by go_num,H2.out.1,H2.out.2⟩
        case measure=>simp [intOf]; omega
      · obtain rfl : j = 3:=by omega
        go_wp2
        go_ret2
        have e3 : putsC P.n s q v 3 = putS s P.n q v:=putC3 P.n s q v
        rw [← e3]
        exact ⟨rfl,HM2.out⟩
  · rw [if_neg g,if_neg g,if_neg g]
    have hg : decide (GoodQ q) = false:=decide_eq_false g
    rw [hg] at HGD
    have HM:=Lib.hid h
    clear h k hX g hg
    go_enter Try.func58,Try.ntmps58
    go_wp2_with (go_at_call 88; refine (HGD.out _).mono ?_; rintro e w' ⟨rfl,hw'⟩; subst hw')
    go_ret2
    exact ⟨rfl,HM.out,Below.refl _ _⟩
theorem Try.size114 : (Try.prog.info? 114).map (·.size) = some 5:=by kernel_rfl
def hiP (P : Pl13) (kb : Nat) : Pl13:={ P with kb:=kb,o:=0,sz:=5,T:=114 }
theorem mems_high {h0 : Hi13} {kb : Nat} (h : Mems B (mcR P s u X) w) (hk : Kept (fun b=>w.heap.size≤b) w w') (hB : B≤kb) (hkb : w.heap.size≤kb) (hb : Blk w' kb 114 #[.int .i64 h0.F,.int .i64 h0.T,.int .i64 h0.Q,.bool h0.done,.int .i64 h0.N]) :
    Mems B (mulR P s (withK (kRow (hiP P kb) 5 (hF h0) fun _=>undef) (whoR P u (xR X)))) w':=by
  refine h.new (r:=.K) rfl (fun r hr=>by cases r <;> first | exact absurd rfl hr | rfl) (fun b hb=>hk.block b hb (by omega)) ?_ (fun b hb=>by cases hb; exact hkb)
  refine row_box hb hB _ fun j hj=>?_
  rcases j with _ | _ | _ | _ | _ | j <;> first | rfl | (simp at hj; omega)
theorem mems_high_free {r0 : Row} (h : Mems B (mulR P s (withK r0 (whoR P u (xR X)))) w) : Mems B (mcR P s u X) w:=
  h.mono fun r d hr=>by cases r <;> first | exact hr | cases hr
def OkH (h : Hi13) : Prop:=h.done = false→GoodQ h.Q∧h.Q≤h.T∧h.T < 4611686018427387904
theorem stepH_ok {n : Nat} {st : Nat→Int} {h : Hi13} (k : OkH h) (hd : h.done = false) : OkH (stepH n st h):=by
  obtain ⟨g,a,b⟩:=k hd
  unfold stepH
  split
  · split
    · intro z; cases z
    · intro _; exact ⟨⟨by have:=g.1; show 0≤h.Q + 1; omega,by show h.Q + 1 < _; omega⟩,by show h.Q + 1≤h.T; omega,b⟩
  · intro z; cases z
theorem newH_ok (n : Nat) (hn : 0 < n) (F T : Int) : OkH (newH n F T):=by
  unfold newH
  split
  · intro z; cases z
  · rename_i h
    have h1 : GoodQ F:=Decidable.byContradiction fun z=>h (.inl z)
    have h2 : F≤T:=by omega
    intro _
    refine ⟨h1,?_,?_⟩
    · have:=h1.1
      have:=h1.2
      show F≤min T (min (F + n - 1) 4611686018427387903)
      omega
    · show min T (min (F + n - 1) 4611686018427387903) < _
      omega
set_option maxHeartbeats 4000000 in
set_option maxRecDepth 100000 in
theorem wpub_ok (h : Mems B (mcR P s u X) w) (k : P.Ok s) (hX : X 0 = some (xRow P xb)) (hBm : B≤P.mb) (q : Int) (h0 : -9223372036854775808≤q) (h1 : q < 9223372036854775808) :
    Calls Try.prog 60 #[.pointer (some ⟨xb,0,none⟩),.int .i64 q] w fun e w'=>e = .returned (.tuple #[.int .i64 (pubX P.n s q).1,.int .i64 (pubX P.n s q).2])∧Mems B (mcR P s u X) w'∧Below B w w':=by
  have HGD:=Lib.hid (good13_ok q)
  have HM:=Lib.hid h
  have HX:=Lib.hid hX
  have HP:=Lib.hid k
  by_cases g : GoodQ q
  · have hg : decide (GoodQ q) = true:=decide_eq_true g
    rw [hg] at HGD
    obtain ⟨hE,T,hG,hd,hN,hT,hTn⟩:=high_goes s q g k.c1 k.n0
    rw [← hN,← hT]
    have hTb : T≤65536:=Nat.le_trans hTn k.n1
    have hx0 : w.cell? ⟨xb,0,none⟩ = some (.pointer (some ⟨P.mb,0,none⟩)):=xcell h (fun _=>rfl) hX 0 (by omega)
    have hm4 : w.cell? ⟨P.mb,4,none⟩ = some (.int .i64 s.cur):=mcell h 4 (by omega)
    have hBs : B≤w.heap.size:=by have:=(h.lt (r:=.M) rfl (b:=P.mb) rfl).2; omega
    have HNH:=Lib.hid (fun z (hz : Kept (fun _=>False) w z)=>newhigh_ok (h.same (w':=z) fun b hb=>hz.block b hb id) k q s.cur g)
    have HG:=Lib.hid hG
    have HD:=Lib.hid hd
    have HOK:=Lib.hid (newH_ok P.n k.n0 q s.cur)
    have HGG:=Lib.hid g
    have key : ∀ z,Kept (fun b=>w.heap.size≤b) w z→z.cell? ⟨xb,0,none⟩ = some (.pointer (some ⟨P.mb,0,none⟩))∧z.cell? ⟨P.mb,4,none⟩ = some (.int .i64 s.cur):=fun z hz =>
      ⟨(World.cell?_of_block (w:=w) (a:=⟨xb,0,none⟩) (hz.block xb (lt_of_cell hx0) (by have:=lt_of_cell hx0; omega))).trans hx0,(World.cell?_of_block (w:=w) (a:=⟨P.mb,4,none⟩) (hz.block P.mb (lt_of_cell hm4) (by have:=lt_of_cell hm4; omega))).trans hm4⟩
    have HKEY:=Lib.hid key
    clear h k hX g hg hG hd hN hT hx0 hm4 key
    go_enter Try.func60,Try.ntmps60
    refine wp_cut fun K hK=>?_
    go_wp2
    refine hK.out _ _ ?_
    clear hK K
    refine wp_cut fun K hK=>?_
    go_wp2_with (go_at_call 88; refine (HGD.out _).mono ?_; rintro e w' ⟨rfl,hw'⟩; subst hw')
    refine hK.out _ _ ?_
    clear hK K
    refine wp_cut fun K hK=>?_
    refine strictL ?_
    refine wp_region_held (S:=fun w'=>w'.cell? ⟨xb,0,none⟩ = some (.pointer (some ⟨P.mb,0,none⟩))∧w'.cell? ⟨P.mb,4,none⟩ = some (.int .i64 s.cur)) (by kernel_rfl) ?_
    simp only [List.size_toArray,List.length_cons,List.length_nil,Nat.reduceAdd]
    have kd : Kept (fun _=>False) w ({ w with drawn:=w.drawn + 1 } : World):=Kept.drewN _ w 1
    have zd : ({ w with drawn:=w.drawn + 1 } : World).heap.size = w.heap.size:=rfl
    generalize ({ w with drawn:=w.drawn + 1 } : World) = wd at kd zd ⊢
    have HS:=Lib.hid (HKEY.out _ (kd.mono fun _ _ z=>z.elim))
    have HKD:=Lib.hid (And.intro kd zd)
    clear kd zd
    refine rdL 0 14 18 ?_
    refine ⟨_,rfl,rfl,by kernel_rfl,by kernel_rfl,by kernel_rfl,(fun c a w h=>by cases h.1),rfl,HS.out,?_⟩
    apply Exists.intro
    refine ⟨fun wq hw=>?_,?_⟩
    · obtain ⟨hw1,hw2⟩:=hw
      go_simp
      rfl
    simp only [Act.put,List.setIfInBounds_toArray,List.set_cons_zero,List.set_cons_succ]
    refine rdL 1 13 19 ?_
    refine ⟨_,rfl,rfl,by kernel_rfl,by kernel_rfl,by kernel_rfl,(fun c a w h=>by cases h.1),rfl,HS.out,?_⟩
    apply Exists.intro
    refine ⟨fun wq hw=>?_,?_⟩
    · obtain ⟨hw1,hw2⟩:=hw
      go_simp
      rfl
    simp only [Act.put,List.setIfInBounds_toArray,List.set_cons_zero,List.set_cons_succ]
    refine rdL 2 12 20 ?_
    refine ⟨_,rfl,rfl,by kernel_rfl,by kernel_rfl,by kernel_rfl,(fun c a w h=>by cases h.1),rfl,HS.out,?_⟩
    apply Exists.intro
    refine ⟨fun wq hw=>?_,?_⟩
    · obtain ⟨hw1,hw2⟩:=hw
      go_simp
      rfl
    simp only [Act.put,List.setIfInBounds_toArray,List.set_cons_zero,List.set_cons_succ]
    refine rdL 3 11 21 ?_
    refine ⟨_,rfl,rfl,by kernel_rfl,by kernel_rfl,by kernel_rfl,(fun c a w h=>by cases h.1),rfl,HS.out,?_⟩
    apply Exists.intro
    refine ⟨fun wq hw=>?_,?_⟩
    · obtain ⟨hw1,hw2⟩:=hw
      go_simp
      rfl
    simp only [Act.put,List.setIfInBounds_toArray,List.set_cons_zero,List.set_cons_succ]
    refine rdL 4 10 22 ?_
    refine ⟨_,rfl,rfl,by kernel_rfl,by kernel_rfl,by kernel_rfl,(fun c a w h=>by cases h.1),rfl,HS.out,?_⟩
    apply Exists.intro
    refine ⟨fun wq hw=>?_,?_⟩
    · obtain ⟨hw1,hw2⟩:=hw
      go_simp
      rfl
    simp only [Act.put,List.setIfInBounds_toArray,List.set_cons_zero,List.set_cons_succ]
    refine rdL 5 9 23 ?_
    refine ⟨_,rfl,rfl,by kernel_rfl,by kernel_rfl,by kernel_rfl,(fun c a w h=>by cases h.1),rfl,HS.out,?_⟩
    apply Exists.intro
    refine ⟨fun wq hw=>?_,?_⟩
    · obtain ⟨hw1,hw2⟩:=hw
      go_simp
      rfl
    simp only [Act.put,List.setIfInBounds_toArray,List.set_cons_zero,List.set_cons_succ]
    refine rdL 6 8 24 ?_
    refine ⟨_,rfl,rfl,by kernel_rfl,by kernel_rfl,by kernel_rfl,(fun c a w h=>by cases h.1),rfl,HS.out,?_⟩
    apply Exists.intro
    refine ⟨fun wq hw=>?_,?_⟩
    · obtain ⟨hw1,hw2⟩:=hw
      go_simp
      rfl
    simp only [Act.put,List.setIfInBounds_toArray,List.set_cons_zero,List.set_cons_succ]
    refine rdL 7 7 25 ?_
    refine ⟨_,rfl,rfl,by kernel_rfl,by kernel_rfl,by kernel_rfl,(fun c a w h=>by cases h.1),rfl,HS.out,?_⟩
    apply Exists.intro
    refine ⟨fun wq hw=>?_,?_⟩
    · obtain ⟨hw1,hw2⟩:=hw
      go_simp
      rfl
    simp only [Act.put,List.setIfInBounds_toArray,List.set_cons_zero,List.set_cons_succ]
    refine rdL 8 6 26 ?_
    refine ⟨_,rfl,rfl,by kernel_rfl,by kernel_rfl,by kernel_rfl,(fun c a w h=>by cases h.1),rfl,HS.out,?_⟩
    apply Exists.intro
    refine ⟨fun wq hw=>?_,?_⟩
    · obtain ⟨hw1,hw2⟩:=hw
      go_simp
      rfl
    simp only [Act.put,List.setIfInBounds_toArray,List.set_cons_zero,List.set_cons_succ]
    refine rdL 9 5 27 ?_
    refine ⟨_,rfl,rfl,by kernel_rfl,by kernel_rfl,by kernel_rfl,(fun c a w h=>by cases h.1),rfl,HS.out,?_⟩
    apply Exists.intro
    refine ⟨fun wq hw=>?_,?_⟩
    · obtain ⟨hw1,hw2⟩:=hw
      go_simp
      rfl
    simp only [Act.put,List.setIfInBounds_toArray,List.set_cons_zero,List.set_cons_succ]
    refine rdL 10 4 28 ?_
    refine ⟨_,rfl,rfl,by kernel_rfl,by kernel_rfl,by kernel_rfl,(fun c a w h=>by cases h.1),rfl,HS.out,?_⟩
    apply Exists.intro
    refine ⟨fun wq hw=>?_,?_⟩
    · obtain ⟨hw1,hw2⟩:=hw
      go_simp
      rfl
    simp only [Act.put,List.setIfInBounds_toArray,List.set_cons_zero,List.set_cons_succ]
    refine rdL 11 3 29 ?_
    refine ⟨_,rfl,rfl,by kernel_rfl,by kernel_rfl,by kernel_rfl,(fun c a w h=>by cases h.1),rfl,HS.out,?_⟩
    apply Exists.intro
    refine ⟨fun wq hw=>?_,?_⟩
    · obtain ⟨hw1,hw2⟩:=hw
      go_simp
      rfl
    simp only [Act.put,List.setIfInBounds_toArray,List.set_cons_zero,List.set_cons_succ]
    obtain ⟨F0,T0,Q0,D0,N0,hH0⟩ : ∃ F0 T0 Q0 D0 N0,newH P.n q s.cur = ⟨F0,T0,Q0,D0,N0⟩:=⟨_,_,_,_,_,rfl⟩
    have hnh:=HNH.out
    rw [hH0] at hnh
    have HNH2:=Lib.hid hnh
    have HH0:=Lib.hid hH0
    clear hnh hH0 HNH
    refine callAlloc (fuel:=1) 12 13 30 6 (hiV ⟨F0,T0,Q0,D0,N0⟩) 114 #[.int .i64 0,.int .i64 0,.int .i64 0,.bool false,.int .i64 0] (by kernel_rfl) (by kernel_rfl) (by kernel_rfl) rfl rfl rfl rfl (fun K' hK'=>?_) (fun p K' hK'=>?_) (fun y z K' hK'=>?_) (fun z hz=>HKEY.out _ ((HKD.out.1.trans hz).mono fun _ _ z=>z.elim)) (fun p=>rfl) rfl (fun kb z hkb hkz hblk=>?_)
    · unfold Oper.wp
      go_simp
      refine (HNH2.out _ HKD.out.1).mono ?_
      rintro e w2 ⟨rfl,k2⟩
      exact hK' _ k2
    · unfold Oper.wp
      go_simp
      refine (HNH2.out _ (HKD.out.1.trans (Kept.alloc _ _))).mono ?_
      rintro e w2 ⟨rfl,k2⟩
      exact hK' _ k2
    · unfold Oper.wp
      go_simp
      exact hK'
    simp only [Act.put,List.setIfInBounds_toArray,List.set_cons_zero,List.set_cons_succ]
    have hwz : Kept (fun b=>w.heap.size≤b) w z:=(HKD.out.1.trans hkz).mono fun _ _ z=>z.elim
    have hkb2 : w.heap.size≤kb:=by have:=HKD.out.2; omega
    refine oneL (i:=14) (fuel:=0) (by kernel_rfl) rfl rfl fun K' hK'=>?_
    refine wp_store_row 114 (.tmp 6) (.tmp 30) rfl kb #[.int .i64 F0,.int .i64 T0,.int .i64 Q0,.bool D0,.int .i64 N0] rfl rfl 114 _ hblk Try.size114 (by rfl) (by simp [Value.oneCell']) ?_
    have hfin : Kept (fun b=>w.heap.size≤b) w (z.setRow kb #[.int .i64 F0,.int .i64 T0,.int .i64 Q0,.bool D0,.int .i64 N0]):=hwz.trans ((Kept.setRow z kb _).mono fun b _ e=>by rw [e]; exact hkb2)
    have hbf:=hblk.setRow #[.int .i64 F0,.int .i64 T0,.int .i64 Q0,.bool D0,.int .i64 N0]
    refine hK' _ _ (HKEY.out _ hfin) ?_
    clear hK' K'
    have hR:=mems_high (h0:=⟨F0,T0,Q0,D0,N0⟩) HM.out hfin (by omega) hkb2 hbf
    have hBf : Below B w (z.setRow kb #[.int .i64 F0,.int .i64 T0,.int .i64 Q0,.bool D0,.int .i64 N0]):=hfin.to_below (fun b hb=>by omega) hBs
    have hBk : B≤kb:=by omega
    rw [← HH0.out] at hR
    have HM1:=Lib.hid (And.intro hR hBf)
    clear hR hBf hfin hbf hwz hblk hkz hkb hkb2 HNH2 HS HKEY HKD HM
    generalize World.setRow _ _ _ = w2 at *
    dsimp only [Act.put]
    refine wpAnyH_done (by kernel_rfl) ⟨rfl,?_⟩ _
    refine hK.out _ _ ?_
    clear hK K
    have hst : ∀ (h : Hi13) z,OkH h→h.done = false→Mems B (mulR P s (withK (kRow (hiP P kb) 5 (hF h) fun _=>undef) (whoR P u (xR X)))) z→Calls Try.prog 91 #[.pointer (some ⟨P.mb,0,none⟩),.pointer (some ⟨kb,0,none⟩)] z fun e w'=>e = .returned (.tuple #[])∧Mems B (mulR P s (withK (kRow (hiP P kb) 5 (hF (stepH P.n s.st h)) fun _=>undef) (whoR P u (xR X)))) w'∧Below B z w':=fun h z ho hd hz=>by
      have hpq : (hiP P kb).Ok s:=⟨HP.out.n0,HP.out.n1,HP.out.f0,HP.out.f1,HP.out.c0,HP.out.c1⟩
      exact stephigh_ok (P:=hiP P kb) (f:=fun _=>undef) (E:=whoR P u (xR X)) (hi:=h) hz hpq (Nat.le_refl 5) hBk (ho hd).1
    have HST:=Lib.hid hst
    clear hst
    go_wp2
    go_loopw [7] (fun st wr=>∃ (j k' : Nat) (h : Hi13),st = .int .i64 (1 + (j : Int))∧GoesH P.n s.st h k' hE∧j + k' = T∧Mems B (mulR P s (withK (kRow (hiP P kb) 5 (hF h) fun _=>undef) (whoR P u (xR X)))) wr∧Below B w wr∧OkH h) (fun st _=>T + 1 - (intOf st).toNat)
    case atStart=>exact ⟨0,T,newH P.n q s.cur,rfl,HG.out,by omega,HM1.out.1,HM1.out.2,HOK.out⟩
    case round =>
      obtain ⟨j,k',h,rfl,hg,hjk,hm,hb,ho⟩:=hrel
      have HM:=Lib.hid (And.intro hm hb)
      have HR:=Lib.hid (And.intro hg ho)
      have k3 : wr.cell? ⟨kb,3,none⟩ = some (.bool h.done):=by
        have:=hcell (P:=hiP P kb) (E:=whoR P u (xR X)) (f:=fun _=>undef) (hi:=h) hm (Nat.le_refl 5) 3 (by omega)
        simpa [hiP,Go.Proofs.Ytoepekcheapgmaa.hF] using this
      have x0:=xcell hm (fun _=>rfl) HX.out 0 (by omega)
      simp only [xF] at x0
      have hbs : h.done = true∨h.done = false:=by cases h.done <;> simp
      clear hg hm hb ho
      rcases hbs with hd | hd
      · rw [hd] at k3
        obtain ⟨hg,ho⟩:=HR.out
        cases hg with
        | step hd2 _=>rw [hd] at hd2; cases hd2
        | here =>
          obtain rfl : j = T:=by omega
          have k4 : wr.cell? ⟨kb,4,none⟩ = some (.int .i64 hE.N):=by
            have:=hcell (P:=hiP P kb) (E:=whoR P u (xR X)) (f:=fun _=>undef) (hi:=hE) HM.out.1 (Nat.le_refl 5) 4 (by omega)
            simpa [hiP,Go.Proofs.Ytoepekcheapgmaa.hF] using this
          clear HST HR x0 ho
          go_wp2
          go_ret2
          exact ⟨by simp,mems_high_free HM.out.1,HM.out.2⟩
      · rw [hd] at k3
        have HDN:=Lib.hid hd
        have HC:=Lib.hid (HST.out h wr HR.out.2 hd HM.out.1)
        have hlt : j < T:=by
          obtain ⟨hg,-⟩:=HR.out
          cases hg with
          | here=>exact absurd HD.out (by rw [hd]; decide)
          | step=>omega
        clear hd
        go_wp2_with (go_at_call 91; refine HC.out.mono ?_; rintro e w4 ⟨rfl,m4,b4⟩)
        have H4:=Lib.hid (And.intro m4 (HM.out.2.trans b4))
        clear m4 b4 HM x0 HST k3 HC
        go_wp2
        go_roundw
        case rel =>
          obtain ⟨hg,ho⟩:=HR.out
          cases hg with
          | here=>exact absurd HD.out (by rw [HDN.out]; decide)
          | @step _ k'' _ hd2 g2=>exact ⟨j + 1,k'',_,by go_num,g2,by omega,H4.out.1,H4.out.2,stepH_ok ho HDN.out⟩
        case measure=>simp [intOf]; omega
  · have hg : decide (GoodQ q) = false:=decide_eq_false g
    rw [hg] at HGD
    have hng : q < 0∨4611686018427387904≤q:=by
      rcases Int.lt_or_le q 0 with h | h
      · exact .inl h
      · exact .inr (Int.not_lt.1 fun z=>g ⟨h,z⟩)
    clear h k hX g hg
    unfold pubX
    by_cases e : q = -9223372036854775808
    · rw [if_pos e]
      subst e
      have d1 : decide ((-9223372036854775808 : Int) < wrap64 (-9223372036854775809)) = true:=by unfold wrap64; simp
      go_enter Try.func60,Try.ntmps60
      go_wp2_with (go_at_call 88; refine (HGD.out _).mono ?_; rintro e w' ⟨rfl,hw'⟩; subst hw')
      go_ret2
      exact ⟨rfl,HM.out,Below.refl _ _⟩
    · rw [if_neg e,if_pos hng]
      have hq1 : -9223372036854775808 < q:=by omega
      clear e hng
      go_enter Try.func60,Try.ntmps60
      go_wp2_with (go_at_call 88; refine (HGD.out _).mono ?_; rintro e w' ⟨rfl,hw'⟩; subst hw')
      go_ret2
      exact ⟨rfl,HM.out,Below.refl _ _⟩
end
end Go.Proofs.Ytoepekcheapgmaa
namespace Go.Proofs.Ytoepekcheapgmaa
open Go.RowKit Go.Turn
def RdI (B : Nat) (w : World) (A : Option Addr) (vs : List Int) : Prop:=∀ i,i < vs.length→∃ b o,A = some ⟨b,o,none⟩∧b < B∧w.cell? ⟨b,o + i,none⟩ = some (.int .i64 (vs.getD i 0))
theorem RdI.below {B : Nat} {w w' : World} {A : Option Addr} {vs : List Int} (h : RdI B w A vs) (k : Below B w w') : RdI B w' A vs:=fun i hi=>by
  obtain ⟨b,o,h1,h2,h3⟩:=h i hi
  exact ⟨b,o,h1,h2,(World.cell?_of_block (w:=w) (a:=⟨b,o + i,none⟩) (k.block b h2)).trans h3⟩
def OkO (P : Pl13) (u : Who13) (o : Of13) : Prop:=o.done = false →
  (o.k.done = false∧o.k.Ok P u∧o.k.N = o.vs.length∧o.k.err = 0∧o.I = 0∧o.Ph = 1)∨(o.k.done = true∧o.I < o.vs.length∧o.vs.length≤65536∧1≤o.Ph∧o.Ph≤3∧-1≤o.k.last - o.vs.length∧o.k.last < 4611686018427387904)
section
variable {P : Pl13} {s : MulS} {u : Who13} {c : Cl13} {o : Of13}
theorem stepC_stay (hd : c.done = false) : (stepC P.n P.fs s u c).2.N = c.N∧((stepC P.n P.fs s u c).2.done = false→(stepC P.n P.fs s u c).2.err = c.err)∧((stepC P.n P.fs s u c).2.done = true→(stepC P.n P.fs s u c).2.err = 0→c.Ph≠1∧(stepC P.n P.fs s u c).2.last = c.C + c.N):=by
  unfold stepC
  split
  · unfold firstC
    split
    · split
      · exact ⟨rfl,fun z=>(by cases z),fun _ z=>absurd (show (8 : Int) = 0 from z) (by decide)⟩
      · exact ⟨rfl,fun _=>rfl,fun z=>absurd (hd.symm.trans z) (by decide)⟩
    · split
      · split
        · exact ⟨rfl,fun _=>rfl,fun z=>absurd (hd.symm.trans z) (by decide)⟩
        · split
          · exact ⟨rfl,fun _=>rfl,fun z=>absurd (hd.symm.trans z) (by decide)⟩
          · exact ⟨rfl,fun _=>rfl,fun z=>absurd (hd.symm.trans z) (by decide)⟩
      · exact ⟨rfl,fun _=>rfl,fun z=>absurd (hd.symm.trans z) (by decide)⟩
  · rename_i hp
    split
    · exact ⟨rfl,fun _=>rfl,fun z=>absurd (hd.symm.trans z) (by decide)⟩
    · split
      · dsimp only
        split
        · exact ⟨rfl,fun z=>(by cases z),fun _ z=>absurd (show (3 : Int) = 0 from z) (by decide)⟩
        · exact ⟨rfl,fun _=>rfl,fun z=>absurd (hd.symm.trans z) (by decide)⟩
      · split
        · dsimp only
          split
          · exact ⟨rfl,fun _=>rfl,fun z=>absurd (hd.symm.trans z) (by decide)⟩
          · exact ⟨rfl,fun _=>rfl,fun z=>absurd (hd.symm.trans z) (by decide)⟩
        · split
          · dsimp only
            split
            · exact ⟨rfl,fun z=>(by cases z),fun _ z=>absurd (show (3 : Int) = 0 from z) (by decide)⟩
            · exact ⟨rfl,fun _=>rfl,fun z=>absurd (hd.symm.trans z) (by decide)⟩
          · split
            · exact ⟨rfl,fun z=>(by cases z),fun _ _=>⟨fun z=>hp (.inl z),rfl⟩⟩
            · exact ⟨rfl,fun _=>rfl,fun z=>absurd (hd.symm.trans z) (by decide)⟩
theorem stepO_ring (k : P.Ok s) (ho : OkO P u o) (hd : o.done = false) : P.Ok (stepO P.n P.fs s u o).1:=by
  rcases ho hd with ⟨h1,h2,_⟩ | ⟨h1,_⟩
  · unfold stepO
    rw [if_pos h1]
    exact stepC_ring k h2
  · rw [stepO_put _ _ _ _ _ h1]
    dsimp only
    unfold putC
    split
    · exact ⟨k.n0,k.n1,k.f0,k.f1,k.c0,k.c1⟩
    split
    · exact ⟨k.n0,k.n1,k.f0,k.f1,k.c0,k.c1⟩
    · exact ⟨k.n0,k.n1,k.f0,k.f1,k.c0,k.c1⟩
theorem stepO_ok (k : P.Ok s) (ho : OkO P u o) (hd : o.done = false) : OkO P u (stepO P.n P.fs s u o).2∧(stepO P.n P.fs s u o).2.vs = o.vs:=by
  rcases ho hd with ⟨h1,h2,h3,h4,h5,h6⟩ | ⟨h1,h2,h3,h4,h5,h6,h7⟩
  · unfold stepO
    rw [if_pos h1]
    refine ⟨fun z=>?_,rfl⟩
    obtain ⟨e1,e2,e3⟩:=stepC_stay (P:=P) (s:=s) (u:=u) h1
    dsimp only at z ⊢
    cases hc : (stepC P.n P.fs s u o.k).2.done with
    | false=>exact .inl ⟨rfl,stepC_ok k h2 hc,e1.trans h3,(e2 hc).trans h4,h5,h6⟩
    | true =>
      rw [hc] at z
      have he : (stepC P.n P.fs s u o.k).2.err = 0:=by simpa using z
      obtain ⟨g1,g2⟩:=e3 hc he
      obtain ⟨g3,g4⟩:=h2.c0 g1
      have:=h2.n0
      have:=h2.n1
      have:=k.n1
      exact .inr ⟨rfl,by omega,by omega,by omega,by omega,by omega,by omega⟩
  · rw [stepO_put _ _ _ _ _ h1]
    dsimp only
    by_cases e : o.Ph = 3
    · rw [if_pos e]
      by_cases e2 : o.I + 1 = o.vs.length
      · rw [if_pos e2]; exact ⟨fun z=>(by cases z),rfl⟩
      · rw [if_neg e2]; exact ⟨fun _=>.inr ⟨h1,by dsimp only; omega,h3,by show (1 : Int)≤1; omega,by show (1 : Int)≤3; omega,h6,h7⟩,rfl⟩
    · rw [if_neg e]; exact ⟨fun _=>.inr ⟨h1,h2,h3,by dsimp only; omega,by dsimp only; omega,h6,h7⟩,rfl⟩
end
section
variable {P : Pl13} {B xb : Nat} {s : MulS} {u : Who13} {o : Of13} {vL : Value} {f : Nat→Value} {X : Nat→Option Row} {w w' : World} {A : Option Addr} {cp : Nat}
theorem stepoffer_all (h : Mems B (allR P s u o.k vL (ofF P o (.slice A o.vs.length cp) f) X) w) (k : P.Ok s) (hz : P.o + 17≤P.sz) (hB : B≤P.kb) (hBm : B≤P.mb) (hO : OkO P u o) (hd : o.done = false) (hr : RdI B w A o.vs) :
    Calls Try.prog 74 #[.pointer (some ⟨P.mb,0,none⟩),.pointer (some ⟨P.kb,P.o,none⟩),.pointer (some ⟨P.wb,0,none⟩)] w fun e w'=>e = .returned (.tuple #[])∧(∃ vL',Mems B (allR P (stepO P.n P.fs s u o).1 u (stepO P.n P.fs s u o).2.k vL' (ofF P (stepO P.n P.fs s u o).2 (.slice A o.vs.length cp) f) X) w')∧Below B w w':=by
  rcases hO hd with ⟨h1,h2,_⟩ | ⟨h1,h2,h3,h4,h5,h6,h7⟩
  · exact stepoffer_claim h k h2 hz hB hBm h1
  · obtain ⟨b,j,rfl,hb,hc⟩:=hr o.I h2
    exact stepoffer_put h k hz hB h1 h2 h3 h4 h5 ⟨by omega,by omega⟩ (by omega) h7 fun s' w' _ hk=>(World.cell?_of_block (w:=w) (a:=⟨b,j + o.I,none⟩) (hk.block b hb)).trans hc
def ofP (P : Pl13) (kb : Nat) : Pl13:={ P with kb:=kb,o:=0,sz:=17,T:=110 }
theorem mems_offer (h : Mems B (mcR P s u X) w) (hB : B≤w.heap.size) (hl : o.k.list = []) {vO : Value} : Mems B (allR (ofP P w.heap.size) s u o.k (.slice none 0 0) (ofF (ofP P w.heap.size) o vO fun _=>undef) X) (w.alloc (.cells (ofCells o vO) 110)):=by
  have h1 : Mems B (fun r=>if r = .K then some ⟨110,17,.slice (some ⟨w.heap.size,0,none⟩) 1 1,1,inF 0 11 (kF o.k (.slice none 0 0)) (inF 11 6 (oF o vO) fun _=>undef)⟩ else mcR P s u X r) (w.alloc (.cells (ofCells o vO) 110)):=by
    refine h.new (r:=.K) rfl (fun r hr=>by simp [hr]) (fun b hb=>Below.heap_alloc _ _ _ hb) ?_ (fun b hb=>by cases hb; exact Nat.le_refl _)
    refine row_box (Blk.new w 110 (ofCells o vO)) hB _ fun j hj=>?_
    rcases j with _ | _ | _ | _ | _ | _ | _ | _ | _ | _ | _ | _ | _ | _ | _ | _ | _ | j <;> first | rfl | (simp [ofCells] at hj; omega)
  refine h1.dropped fun r d hr=>?_
  cases r with
  | L=>cases hr; exact .inr ⟨rfl,by show o.k.list.length = 0; rw [hl]; rfl⟩
  | _=>exact .inl hr
set_option maxHeartbeats 2000000 in
set_option maxRecDepth 100000 in
theorem woffer_ok (h : Mems B (mcR P s u X) w) (k : P.Ok s) (hX : X 0 = some (xRow P xb)) (hBm : B≤P.mb) (vs : List Int) (hr : RdI B w A vs) (hvl : vs.length≤maxLen) {T : Nat} {sF : MulS} {oE : Of13} (hG : GoesO P.n P.fs u s (newO P.n vs) T sF oE) (hF : oE.done = true) (hT : T < 4611686018427387904) (hm0 : ∀ x ∈ u.mem,0≤x∧x < u.num.length) (hm1 : u.num.length≤65536) (hm2 : u.mem.length≤65536) :
    Calls Try.prog 59 #[.pointer (some ⟨xb,0,none⟩),.slice A vs.length cp] w fun e w'=>e = .returned (.tuple #[.int .i64 oE.last,.int .i64 oE.err,.int .i64 T])∧Mems B (mcR P sF u X) w'∧Below B w w':=by
  have x0:=xcell h (fun _=>rfl) hX 0 (by omega)
  simp only [xF] at x0
  have hBs : B≤w.heap.size:=by have:=(h.lt (r:=.M) rfl (b:=P.mb) rfl).2; omega
  obtain ⟨b,er,hbe⟩:=newC_eq P.n vs.length
  have hno : newO P.n vs = ⟨⟨vs.length,1,0,0,0,0,[],0,b,0,er⟩,vs,0,1,b,0,er⟩:=by unfold newO; rw [hbe]
  have HNO : Hid (Calls Try.prog 89 #[.pointer (some ⟨P.mb,0,none⟩),.slice A vs.length cp] w fun e w'=>e = .returned (.agg #[.int .i64 vs.length,.int .i64 1,.int .i64 0,.int .i64 0,.int .i64 0,.int .i64 0,.slice none 0 0,.int .i64 0,.bool b,.int .i64 0,.int .i64 er,.slice A vs.length cp,.int .i64 0,.int .i64 1,.bool b,.int .i64 0,.int .i64 er])∧Kept (fun _=>False) w w'):=Lib.hid (by
    have:=newoffer_ok h k A cp vs hvl
    rw [hno] at this
    exact this)
  have hok0 : OkO P u (newO P.n vs):=fun hd=>by
    unfold newO at hd ⊢
    dsimp only at hd ⊢
    unfold newC at hd ⊢
    split at hd
    · cases hd
    · rename_i hn
      rw [if_neg hn]
      exact .inl ⟨rfl,⟨by show 1≤(vs.length : Int); omega,by show (vs.length : Int)≤P.n; omega,by show (1 : Int)≤1; omega,by show (1 : Int)≤8; omega,fun z=>absurd rfl z,fun z=>absurd (show (1 : Int) = 4 from z) (by decide),fun z=>absurd (show (1 : Int) = 6 from z) (by decide),hm0,hm1,hm2⟩,rfl,rfl,rfl,rfl⟩
  have HM:=Lib.hid (And.intro h (Below.refl B w))
  have HP:=Lib.hid k
  have HX:=Lib.hid hX
  have HG:=Lib.hid hG
  have HOK:=Lib.hid hok0
  have HBE:=Lib.hid hno
  have HF:=Lib.hid hF
  have HRD:=Lib.hid hr
  obtain ⟨L,hL⟩ : ∃ L,L = vs.length:=⟨_,rfl⟩
  rw [← hL] at HNO
  have HL:=Lib.hid hL
  rw [← hL]
  unfold maxLen at hvl
  rw [← hL] at hvl
  clear h k hX hG hok0 hbe hno hF hm0 hm1 hm2 hr hL
  go_enter Try.func59,Try.ntmps59
  refine wp_cut fun K hK=>?_
  go_wp2
  refine hK.out _ _ ?_
  clear hK K
  refine wp_cut fun K hK=>?_
  go_wp2_with (first | (go_at_call 89; refine HNO.out.mono ?_; rintro e w1 ⟨rfl,k1⟩) | (refine wpList_store_row rfl 110 (.tmp 7) (.tmp 14) rfl _ _ rfl rfl 110 _ (Blk.new w1 _ _) Try.size110 (by rfl) (by simp [Value.oneCell']) ?_; rw [setRow_last rfl]))
  simp only [Act.put]
  refine hK.out _ _ ?_
  clear hK K
  clear HNO x0
  have hR1 : Mems B (mcR P s u X) w1:=HM.out.1.same fun b hb=>k1.block b hb id
  have hB1 : Below B w (w1.alloc (.cells #[.int .i64 L,.int .i64 1,.int .i64 0,.int .i64 0,.int .i64 0,.int .i64 0,.slice none 0 0,.int .i64 0,.bool b,.int .i64 0,.int .i64 er,.slice A L cp,.int .i64 0,.int .i64 1,.bool b,.int .i64 0,.int .i64 er] 110)):=(k1.to_below (fun b z=>z.elim) hBs).alloc (by have:=k1.size; omega) _
  have hR2:=mems_offer (o:=newO P.n vs) (vO:=.slice A L cp) hR1 (by have:=k1.size; omega) (by rw [HBE.out])
  rw [show (w1.alloc (.cells (ofCells (newO P.n vs) (.slice A L cp)) 110)) = w1.alloc (.cells #[.int .i64 L,.int .i64 1,.int .i64 0,.int .i64 0,.int .i64 0,.int .i64 0,.slice none 0 0,.int .i64 0,.bool b,.int .i64 0,.int .i64 er,.slice A L cp,.int .i64 0,.int .i64 1,.bool b,.int .i64 0,.int .i64 er] 110) by rw [HBE.out,HL.out]; rfl] at hR2
  obtain ⟨kb,hkb⟩ : ∃ kb,kb = w1.heap.size:=⟨_,rfl⟩
  rw [← hkb] at hR2 ⊢
  have hBk : B≤kb:=by have:=k1.size; omega
  have HM1:=Lib.hid (And.intro hR2 hB1)
  clear hR1 hB1 hR2 k1 hkb HM
  generalize World.alloc _ _ = w2 at *
  have hst : ∀ (s' : MulS) (o' : Of13) (vL : Value) z,P.Ok s'→OkO P u o'→o'.done = false→o'.vs = vs→RdI B z A vs→Mems B (allR (ofP P kb) s' u o'.k vL (ofF (ofP P kb) o' (.slice A L cp) fun _=>undef) X) z→Calls Try.prog 74 #[.pointer (some ⟨P.mb,0,none⟩),.pointer (some ⟨kb,0,none⟩),.pointer (some ⟨P.wb,0,none⟩)] z fun e w'=>e = .returned (.tuple #[])∧(∃ vL',Mems B (allR (ofP P kb) (stepO P.n P.fs s' u o').1 u (stepO P.n P.fs s' u o').2.k vL' (ofF (ofP P kb) (stepO P.n P.fs s' u o').2 (.slice A L cp) fun _=>undef) X) w')∧Below B z w':=fun s' o' vL z hp ho hd hv hr hz=>by
    have hpq : (ofP P kb).Ok s':=⟨hp.n0,hp.n1,hp.f0,hp.f1,hp.c0,hp.c1⟩
    have hoq : OkO (ofP P kb) u o':=fun z=>by
      rcases ho z with ⟨h1,h2,h3⟩ | h
      · exact .inl ⟨h1,⟨h2.n0,h2.n1,h2.p0,h2.p1,h2.c0,h2.l0,h2.q0,h2.mem,h2.nums,h2.mems⟩,h3⟩
      · exact .inr h
    rw [HL.out,← hv] at hz ⊢
    exact stepoffer_all (P:=ofP P kb) (f:=fun _=>undef) (X:=X) hz hpq (Nat.le_refl 17) hBk hBm hoq hd (by rw [hv]; exact hr)
  have HST:=Lib.hid hst
  clear hst
  go_wp2
  go_loopw [8] (fun st wr=>∃ (j k' : Nat) (s' : MulS) (o' : Of13) (vL : Value),st = .int .i64 j∧GoesO P.n P.fs u s' o' k' sF oE∧j + k' = T∧Mems B (allR (ofP P kb) s' u o'.k vL (ofF (ofP P kb) o' (.slice A L cp) fun _=>undef) X) wr∧Below B w wr∧P.Ok s'∧OkO P u o'∧o'.vs = vs) (fun st _=>T - (intOf st).toNat)
  case atStart=>exact ⟨0,T,s,newO P.n vs,_,rfl,HG.out,by omega,HM1.out.1,HM1.out.2,HP.out,HOK.out,rfl⟩
  case round =>
    obtain ⟨j,k',s',o',vL,rfl,hg,hjk,hm,hb,hp,ho,hv⟩:=hrel
    have HM:=Lib.hid (And.intro hm hb)
    have HR:=Lib.hid (And.intro hg (And.intro hp (And.intro ho hv)))
    have k14 : wr.cell? ⟨kb,14,none⟩ = some (.bool o'.done):=by
      have:=ocell (P:=ofP P kb) (f:=fun _=>undef) hm (Nat.le_refl 17) 3 (by omega)
      simpa [ofP,oF] using this
    have x0:=xcell hm (fun _=>rfl) HX.out 0 (by omega)
    have x1:=xcell hm (fun _=>rfl) HX.out 1 (by omega)
    simp only [xF] at x0 x1
    have hbs : o'.done = true∨o'.done = false:=by cases o'.done <;> simp
    clear hg hm hb hp ho hv
    rcases hbs with hd | hd
    · rw [hd] at k14
      obtain ⟨hg,hp,ho,hv⟩:=HR.out
      cases hg with
      | step hd2 _=>rw [hd] at hd2; cases hd2
      | here =>
        obtain rfl : j = T:=by omega
        have k15 : wr.cell? ⟨kb,15,none⟩ = some (.int .i64 oE.last):=by
          have:=ocell (P:=ofP P kb) (f:=fun _=>undef) HM.out.1 (Nat.le_refl 17) 4 (by omega)
          simpa [ofP,oF] using this
        have k16 : wr.cell? ⟨kb,16,none⟩ = some (.int .i64 oE.err):=by
          have:=ocell (P:=ofP P kb) (f:=fun _=>undef) HM.out.1 (Nat.le_refl 17) 5 (by omega)
          simpa [ofP,oF] using this
        clear HST HR x0 x1 hp ho hv
        go_wp2
        go_quiet (fail)
        go_wp2
        go_ret3
        exact ⟨rfl,mems_free (P:=P) (HM.out.1.drewN _) rfl rfl rfl rfl rfl rfl rfl rfl,HM.out.2.trans (Below.drewN (Below.refl B _) _)⟩
    · rw [hd] at k14
      have HD:=Lib.hid hd
      have hlt : j < T:=by
        obtain ⟨hg,-⟩:=HR.out
        cases hg with
        | here=>exact absurd HF.out (by rw [hd]; decide)
        | step=>omega
      clear hd
      refine wp_cut fun K2 hK2=>?_
      go_wp2
      refine hK2.out _ _ ?_
      clear hK2 K2 k14
      refine wp_block ?_
      refine wp_cut fun K hK=>?_
      refine wp_region_lastQ 8 (by kernel_rfl) (by kernel_rfl) (by kernel_rfl) (by kernel_rfl) ?_
      simp only [idle,List.modify_toArray,List.modify_succ_cons,List.modify_zero_cons,List.size_toArray,List.length_cons,List.length_nil,Nat.reduceAdd]
      repeat (go_big_quiet_step (fail))
      refine wpQuiet_nil ?_
      rintro _ ⟨nq,rfl⟩
      refine wpOps_list (m:=8) rfl ?_
      have hmd:=Lib.hid (And.intro (HM.out.1.drewN nq) (HM.out.2.trans (Below.drewN (Below.refl B _) nq)))
      clear HM
      have HM:=hmd
      clear hmd
      generalize World.drewN _ nq = w3 at *
      go_wp2_with (go_at_call 74; refine (HST.out _ _ _ _ HR.out.2.1 HR.out.2.2.1 HD.out HR.out.2.2.2 (HRD.out.below HM.out.2) HM.out.1).mono ?_; rintro e w4 ⟨rfl,⟨vL1,m4⟩,b4⟩)
      refine hK.out _ _ ?_
      clear hK K
      have H4:=Lib.hid (And.intro m4 (HM.out.2.trans b4))
      clear m4 b4 HM x0 x1 HST
      go_wp2
      go_roundw
      case rel =>
        obtain ⟨hg,hp,ho,hv⟩:=HR.out
        cases hg with
        | here=>exact absurd HF.out (by rw [HD.out]; decide)
        | @step _ _ k'' _ _ hd2 g2=>exact ⟨j + 1,k'',_,_,vL1,by go_num,g2,by omega,H4.out.1,H4.out.2,stepO_ring hp ho HD.out,(stepO_ok hp ho HD.out).1,(stepO_ok hp ho HD.out).2.trans hv⟩
      case measure=>simp [intOf]; omega
end
end Go.Proofs.Ytoepekcheapgmaa
