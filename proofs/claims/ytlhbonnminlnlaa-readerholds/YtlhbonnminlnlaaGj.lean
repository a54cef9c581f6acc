/- DERIVED. The ring of many writers (package multi) among threads: trees speak of no address. -/
import Derived.Test.YtlhbonnminlnlaaGi
import Derived.Test.YtlhbonnminlnlaaGd
import Derived.Test.YtlhbonnminlnlaaGh
set_option linter.unusedVariables false
namespace Go.Proofs.Ytlhbonnminlnlaa
open Go.RowKit Go.Turn Go.Tame Go.Conc
structure MIds where
 mb : Nat
 rb : Nat
 gb : Nat
 cb : Nat
 eb : Nat
 n : Nat
 first : Int
structure MultiIn (D : OpsD) (L : Lg Try.prog (Tree D.St D.St)) (Cap : (Nat→Prop)→World→Prop) (V : Value) (rl : RLens D.A) (cl el : WLens D.A) (M : MIds) : Prop where
 ring : RingLaw L Cap V rl M.rb M.n
 cur : WordLaw L Cap V cl M.cb
 seen : WordLaw L Cap V el M.eb
 rc : ∀ (s : D.St) (H : Nat→Prop) (w : World),RepO D s H w→w.cell? ⟨M.rb,0,none⟩ = some (.slice (some ⟨M.gb,0,none⟩) M.n M.n)
 blk : ∀ (s : D.St) (H : Nat→Prop) (w : World),RepO D s H w→w.cell? ⟨M.mb,0,none⟩ = some (.pointer (some ⟨M.rb,0,none⟩))∧w.cell? ⟨M.mb,1,none⟩ = some (.int .i64 M.first)∧w.cell? ⟨M.mb,2,none⟩ = some (.pointer (some ⟨M.cb,0,none⟩))∧w.cell? ⟨M.mb,3,none⟩ = some (.pointer (some ⟨M.eb,0,none⟩))
 bd : ∀ (s : D.St) (H : Nat→Prop) (w : World),RepO D s H w→-1≤cl.get s.1∧cl.get s.1 < 4611686018427387904
 cok : ∀ x,-1≤x→x < 4611686018427387904→cl.ok x
 eok : ∀ x,el.ok x
 n0 : 0 < M.n
 n2 : M.n≤65536
 f0 : 0≤M.first
 f1 : M.first < 4611686018427387904
abbrev HoldT (S : Type) : Type:=Int→S→(Int→S→Tree S S)→Tree S S
structure HoldIn (D : OpsD) (L : Lg Try.prog (Tree D.St D.St)) (Cap : (Nat→Prop)→World→Prop) (V : Value) (t : TypeId) (rv : Value) (hT : HoldT D.St) : Prop where
 law : ∃ f,(∀ (m : Nat) (w : World),(method (m + 1) t rv "Least").run Try.prog w = .ok (f,rv) w)∧(∀ (args : Array Value) (w : World),(callFunc f args).run Try.prog w = .ok (.enter f args) w)∧∀ (H0 : Nat→Prop) (w0 : World) (s : D.St) (H : Nat→Prop) (w : World),Now D Cap H0 w0 s H w→∀ (c : Int) (k : Int→D.St→Tree D.St D.St),
  Ccalls L f #[rv,V,.int .i64 c] (hT c s k) w fun u t' w'=>∃ m p s' H',u = .tuple #[.int .i64 m,.int .i64 p]∧t' = k m s'∧Now D Cap H0 w0 s' H' w'
section
variable {A : Type} (rl : RLens A) (cl el : WLens A) (M : MIds) (hT : HoldT (A × (Nat→List Ans)))
abbrev St2 (A : Type) : Type:=A × (Nat→List Ans)
def freeT (c n : Int) (s : St2 A) (k : Bool→St2 A→Tree (St2 A) (St2 A)) : Tree (St2 A) (St2 A):=
 loadW el s fun g s=>if c + n - M.n≤g then k true s else hT c s fun l s=>storeW el (min l c) s fun s=>k (decide (c + n - M.n≤min l c)) s
def wrotL : Nat→Int→St2 A→(Bool→St2 A→Tree (St2 A) (St2 A))→Tree (St2 A) (St2 A)
 | 0,_,s,k=>k true s
 | m + 1,q,s,k=>if M.first≤q then thereG rl M.n q s fun b s=>if b then wrotL m (q + 1) s k else k false s else wrotL m (q + 1) s k
def claimL (n : Int) : Nat→St2 A→(Int→Int→St2 A→Tree (St2 A) (St2 A))→Tree (St2 A) (St2 A)
 | 0,_,_=>.cut
 | f + 1,s,k=>loadW cl s fun c s=>if 4611686018427387904≤c + n then k 0 8 s else
   freeT el M hT c n s fun b s=>if b = true then
    wrotL rl M n.toNat (c + 1 - M.n) s fun b s=>if b = true then casW cl c (c + n) s fun b s=>if b = true then k (c + n) 0 s else claimL n f s k
     else loadW cl s fun d s=>if d = c then k 0 3 s else claimL n f s k
   else k 0 3 s
def claimM (n : Int) (s : St2 A) (k : Int→Int→St2 A→Tree (St2 A) (St2 A)) : Tree (St2 A) (St2 A):=if n < 1∨(M.n : Int) < n then k 0 1 s else claimL rl cl el M hT n 4611686018427387906 s k
end
theorem multi_noM (m r : Nat) (w : World) (h : w.cell? ⟨m,0,none⟩ = some (.pointer (some ⟨r,0,none⟩))) : Calls Try.prog 45 #[.pointer (some ⟨m,0,none⟩)] w fun e w'=>e = .returned (.bool false)∧w = w':=by
 go_enter Try.func45,Try.ntmps45
 go_wp2
 go_ret
 exact ⟨rfl,rfl⟩
theorem multi_sizeM (m r : Nat) (sa : Option Addr) (n c : Nat) (w : World) (h : w.cell? ⟨m,0,none⟩ = some (.pointer (some ⟨r,0,none⟩))) (h2 : w.cell? ⟨r,0,none⟩ = some (.slice sa n c)) : Calls Try.prog 28 #[.pointer (some ⟨m,0,none⟩)] w fun e w'=>e = .returned (.int .i64 n)∧w = w':=by
 go_enter Try.func28,Try.ntmps28
 go_wp2_with (first | (go_at_call 45; refine (multi_noM _ _ _ h).mono ?_; rintro e w' ⟨rfl,rfl⟩) | (go_at_call 46; refine (size_ring _ _ _ _ _ h2).mono ?_; rintro e w' ⟨rfl,rfl⟩))
 go_ret
 exact ⟨rfl,rfl⟩
theorem run_minM {P : Program} {w : World} (ts : Array TypeId) (t : TypeId) (k k' : IntKind) (x y : Int) : (Builtin.min_ ts t #[.int k x,.int k' y]).run P w = .ok (.int k (min x y)) w:=by
 rw [run_min_int2]
 congr 2
 by_cases h : y < x
 ·rw [if_pos h]; omega
 ·rw [if_neg h]; omega
attribute [local go_sem high] run_minM
set_option maxHeartbeats 4000000 in
set_option maxRecDepth 100000 in
theorem multi_freeT {D : OpsD} {rl : RLens D.A} {cl el : WLens D.A} {M : MIds} {L : Lg Try.prog (Tree D.St D.St)} {Cap : (Nat→Prop)→World→Prop} {V : Value} (R : MultiIn D L Cap V rl cl el M) (hk : CapK Cap) (H0 : Nat→Prop) (w0 : World) (s : D.St) (H : Nat→Prop) (w : World) (hn : Now D Cap H0 w0 s H w) {ht : TypeId} {hv : Value} {hT : HoldT D.St} (hh : HoldIn D L Cap V ht hv hT) (q n : Int) (hq0 : -1≤q) (hq1 : q < 4611686018427387904) (hn1 : 1≤n) (hn2 : n≤M.n) (k : Bool→D.St→Tree D.St D.St) :
  Ccalls L 71 #[.pointer (some ⟨M.mb,0,none⟩),V,.iface ht hv,.int .i64 q,.int .i64 n] (freeT el M hT q n s k) w fun u t' w'=>∃ b s' H',u = .bool b∧t' = k b s'∧Now D Cap H0 w0 s' H' w':=by
 have hM2:=R.n2
 intro c mid hR
 have HR:=Lib.hid hR
 have HN:=Lib.hid hn
 clear hR hn
 rw [show Frame.enter Try.prog 71 #[.pointer (some ⟨M.mb,0,none⟩),V,.iface ht hv,.int .i64 q,.int .i64 n] .normal = Frame.at { (default : Frame) with fn:=71,kind:=.normal } ⟨#[.pointer (some ⟨M.mb,0,none⟩),V,.iface ht hv,.int .i64 q,.int .i64 n] ++ Array.replicate (Try.f71.ntmps - 5) undef,[]⟩ [.code (Try.f71.body.getD .skip)] from by simp [Frame.enter,Frame.at,Try.func71]; rfl]
 simp only [Try.f71,Option.getD_some,Nat.reduceSub,Array.replicate_succ,Array.replicate_zero,List.push_toArray,List.append_toArray,List.nil_append,List.cons_append]
 repeat (first
  | with_reducible refine Lg.mv_seq _ ?_
  | with_reducible refine Lg.mv_skip _ ?_
  | with_reducible refine Lg.mv_block _ ?_
  | with_reducible refine Lg.mv_inBlock _ ?_
  | with_reducible refine Lg.mv_end _ ?_
  | ((with_reducible refine Lg.mv_condT _ ?_ ?_); exact rfl)
  | ((with_reducible refine Lg.mv_condF _ ?_ ?_); exact rfl)
  | ((with_reducible apply Lg.mv_exit); exact rfl)
  | (with_reducible refine Lg.mv_reg _ ?_
     intro K hK y τ n' hy
     subst hy
     have hn:=HN.out.re hk
     clear HN
     have HN:=Lib.hid hn
     clear hn
     have hr0:=R.rc _ _ _ HN.out.rep
     obtain ⟨b0,b1,b2,b3⟩:=R.blk _ _ _ HN.out.rep
     go_wp2_with (first | (go_at_call 28; refine (multi_sizeM _ _ _ _ _ _ b0 hr0).mono ?_; rintro e w' ⟨rfl,hw'⟩; subst hw') | (go_at_call 45; refine (multi_noM _ _ _ b0).mono ?_; rintro e w' ⟨rfl,hw'⟩; subst hw'))
     refine hK _ _ (fun _=>rfl) ?_
     clear hK K hr0 b0 b1 b2 b3))
 unfold freeT
 with_reducible refine Lg.mv_region _ ?_
 refine Lg.pre 0 6 2 (by simp) fun K hK y τ n' hy=>?_
 subst hy
 have hn:=HN.out.re hk
 clear HN
 have HN:=Lib.hid hn
 clear hn
 have hr0:=R.rc _ _ _ HN.out.rep
 obtain ⟨b0,b1,b2,b3⟩:=R.blk _ _ _ HN.out.rep
 simp only [List.drop_zero,List.take_succ_cons,List.take_zero]
 go_wp2
 refine hK _ _ (fun _=>rfl) ?_
 clear hK K hr0 b0 b1 b2 b3
 refine Lg.call (i:=6) (rest:=[7]) (f:=47) (args:=#[.pointer (some ⟨M.eb,0,none⟩),V]) rfl rfl (fun y=>by go_simp) (R.seen.load _ _ _ _ _ HN.out _) ?_
 rintro vv t' w' ⟨g,s,H,rfl,-,rfl,hn⟩
 clear HN
 by_cases hg : q + n - M.n≤g
 ·rw [if_pos hg]
  have hd : decide (q + n - (M.n : Int)≤g) = true:=decide_eq_true hg
  rw [Frame.finish_at]
  walk_nrm
  have HN:=Lib.hid hn
  clear hn
  refine (show L.T _ (Frame.at _ ⟨_,[]⟩ (.inRegion _ (List.range' 7 (1 + 0)) :: _)) (c :: mid) _ from ?_)
  refine Lg.pre 7 1 0 (by simp) fun K hK y τ n' hy=>?_
  subst hy
  have hn:=HN.out.re hk
  clear HN
  have HN:=Lib.hid hn
  clear hn
  have hr0:=R.rc _ _ _ HN.out.rep
  obtain ⟨b0,b1,b2,b3⟩:=R.blk _ _ _ HN.out.rep
  simp only [List.drop_succ_cons,List.drop_zero,List.take_succ_cons,List.take_zero]
  go_wp2
  refine hK _ _ (fun _=>rfl) ?_
  clear hK K hr0 b0 b1 b2 b3
  refine Lg.move _ (fun _ _=>step_region_end) (fun h=>h) ?_
  repeat (first
   | with_reducible refine Lg.mv_seq _ ?_
   | with_reducible refine Lg.mv_skip _ ?_
   | with_reducible refine Lg.mv_block _ ?_
   | with_reducible refine Lg.mv_inBlock _ ?_
   | with_reducible refine Lg.mv_end _ ?_
   | ((with_reducible refine Lg.mv_condT _ ?_ ?_); exact rfl)
   | ((with_reducible refine Lg.mv_condF _ ?_ ?_); exact rfl)
   | ((with_reducible apply Lg.mv_exit); exact rfl)
   | (with_reducible refine Lg.mv_reg _ ?_
      intro K hK y τ n' hy
      subst hy
      have hn:=HN.out.re hk
      clear HN
      have HN:=Lib.hid hn
      clear hn
      have hr0:=R.rc _ _ _ HN.out.rep
      obtain ⟨b0,b1,b2,b3⟩:=R.blk _ _ _ HN.out.rep
      go_wp2_with (first | (go_at_call 28; refine (multi_sizeM _ _ _ _ _ _ b0 hr0).mono ?_; rintro e w' ⟨rfl,hw'⟩; subst hw') | (go_at_call 45; refine (multi_noM _ _ _ b0).mono ?_; rintro e w' ⟨rfl,hw'⟩; subst hw'))
      refine hK _ _ (fun _=>rfl) ?_
      clear hK K hr0 b0 b1 b2 b3))
  with_reducible refine Lg.mv_ret _ ?_
  exact Lg.leave rfl Try.func71 rfl (v:=.bool true) (fun _ _ _ _=>by simp [results,Try.f71]) (HR.out _ _ _ ⟨true,s,H,rfl,rfl,HN.out⟩)
 rw [if_neg hg]
 have hd : decide (q + n - (M.n : Int)≤g) = false:=decide_eq_false hg
 rw [Frame.finish_at]
 walk_nrm
 have HN:=Lib.hid hn
 clear hn
 refine (show L.T _ (Frame.at _ ⟨_,[]⟩ (.inRegion _ (List.range' 7 (1 + 0)) :: _)) (c :: mid) _ from ?_)
 refine Lg.pre 7 1 0 (by simp) fun K hK y τ n' hy=>?_
 subst hy
 have hn:=HN.out.re hk
 clear HN
 have HN:=Lib.hid hn
 clear hn
 have hr0:=R.rc _ _ _ HN.out.rep
 obtain ⟨b0,b1,b2,b3⟩:=R.blk _ _ _ HN.out.rep
 simp only [List.drop_succ_cons,List.drop_zero,List.take_succ_cons,List.take_zero]
 go_wp2
 refine hK _ _ (fun _=>rfl) ?_
 clear hK K hr0 b0 b1 b2 b3
 refine Lg.move _ (fun _ _=>step_region_end) (fun h=>h) ?_
 repeat (first
  | with_reducible refine Lg.mv_seq _ ?_
  | with_reducible refine Lg.mv_skip _ ?_
  | with_reducible refine Lg.mv_block _ ?_
  | with_reducible refine Lg.mv_inBlock _ ?_
  | with_reducible refine Lg.mv_end _ ?_
  | ((with_reducible refine Lg.mv_condT _ ?_ ?_); exact rfl)
  | ((with_reducible refine Lg.mv_condF _ ?_ ?_); exact rfl)
  | ((with_reducible apply Lg.mv_exit); exact rfl)
  | (with_reducible refine Lg.mv_reg _ ?_
     intro K hK y τ n' hy
     subst hy
     have hn:=HN.out.re hk
     clear HN
     have HN:=Lib.hid hn
     clear hn
     have hr0:=R.rc _ _ _ HN.out.rep
     obtain ⟨b0,b1,b2,b3⟩:=R.blk _ _ _ HN.out.rep
     go_wp2_with (first | (go_at_call 28; refine (multi_sizeM _ _ _ _ _ _ b0 hr0).mono ?_; rintro e w' ⟨rfl,hw'⟩; subst hw') | (go_at_call 45; refine (multi_noM _ _ _ b0).mono ?_; rintro e w' ⟨rfl,hw'⟩; subst hw'))
     refine hK _ _ (fun _=>rfl) ?_
     clear hK K hr0 b0 b1 b2 b3))
 clear hd hg
 obtain ⟨hf,hmeth,hent,hlaw⟩:=hh.law
 have hm:=fun wx=>hmeth wx
 with_reducible refine Lg.mv_region _ ?_
 refine Lg.pre 0 3 6 (by simp) fun K hK y τ n' hy=>?_
 subst hy
 have hn:=HN.out.re hk
 clear HN
 have HN:=Lib.hid hn
 clear hn
 have hr0:=R.rc _ _ _ HN.out.rep
 obtain ⟨b0,b1,b2,b3⟩:=R.blk _ _ _ HN.out.rep
 simp only [List.drop_zero,List.take_succ_cons,List.take_zero]
 go_wp2
 refine hK _ _ (fun _=>rfl) ?_
 clear hK K hr0 b0 b1 b2 b3
 refine Lg.call (i:=3) (rest:=[4,5,6,7,8]) (f:=hf) (args:=#[hv,V,.int .i64 q]) rfl rfl (fun y=>by go_simp) (hlaw _ _ _ _ _ HN.out _ _) ?_
 rintro vv t' w' ⟨m,p,s,H,rfl,rfl,hn⟩
 clear HN hm
 rw [Frame.finish_at]
 walk_nrm
 have HN:=Lib.hid hn
 clear hn
 refine (show L.T _ (Frame.at _ ⟨_,[]⟩ (.inRegion _ (List.range' 4 (5 + 0)) :: _)) (c :: mid) _ from ?_)
 refine Lg.pre 4 5 0 (by simp) fun K hK y τ n' hy=>?_
 subst hy
 have hn:=HN.out.re hk
 clear HN
 have HN:=Lib.hid hn
 clear hn
 have hr0:=R.rc _ _ _ HN.out.rep
 obtain ⟨b0,b1,b2,b3⟩:=R.blk _ _ _ HN.out.rep
 simp only [List.drop_succ_cons,List.drop_zero,List.take_succ_cons,List.take_zero]
 go_wp2
 refine hK _ _ (fun _=>rfl) ?_
 clear hK K hr0 b0 b1 b2 b3
 refine Lg.move _ (fun _ _=>step_region_end) (fun h=>h) ?_
 repeat (first
  | with_reducible refine Lg.mv_seq _ ?_
  | with_reducible refine Lg.mv_skip _ ?_
  | with_reducible refine Lg.mv_block _ ?_
  | with_reducible refine Lg.mv_inBlock _ ?_
  | with_reducible refine Lg.mv_end _ ?_
  | ((with_reducible refine Lg.mv_condT _ ?_ ?_); exact rfl)
  | ((with_reducible refine Lg.mv_condF _ ?_ ?_); exact rfl)
  | ((with_reducible apply Lg.mv_exit); exact rfl)
  | (with_reducible refine Lg.mv_reg _ ?_
     intro K hK y τ n' hy
     subst hy
     have hn:=HN.out.re hk
     clear HN
     have HN:=Lib.hid hn
     clear hn
     have hr0:=R.rc _ _ _ HN.out.rep
     obtain ⟨b0,b1,b2,b3⟩:=R.blk _ _ _ HN.out.rep
     go_wp2_with (first | (go_at_call 28; refine (multi_sizeM _ _ _ _ _ _ b0 hr0).mono ?_; rintro e w' ⟨rfl,hw'⟩; subst hw') | (go_at_call 45; refine (multi_noM _ _ _ b0).mono ?_; rintro e w' ⟨rfl,hw'⟩; subst hw'))
     refine hK _ _ (fun _=>rfl) ?_
     clear hK K hr0 b0 b1 b2 b3))
 with_reducible refine Lg.mv_region _ ?_
 refine Lg.pre 0 6 1 (by simp) fun K hK y τ n' hy=>?_
 subst hy
 have hn:=HN.out.re hk
 clear HN
 have HN:=Lib.hid hn
 clear hn
 have hr0:=R.rc _ _ _ HN.out.rep
 obtain ⟨b0,b1,b2,b3⟩:=R.blk _ _ _ HN.out.rep
 simp only [List.drop_zero,List.take_succ_cons,List.take_zero]
 go_wp2
 refine hK _ _ (fun _=>rfl) ?_
 clear hK K hr0 b0 b1 b2 b3
 refine Lg.call (i:=6) (rest:=[]) (f:=86) (args:=#[.pointer (some ⟨M.eb,0,none⟩),V,.int .i64 (min m q)]) rfl rfl (fun y=>by go_simp) (R.seen.store _ _ _ _ _ HN.out _ (R.eok _) _) ?_
 rintro vv t' w' ⟨s,H,rfl,rfl,hn⟩
 clear HN
 rw [Frame.finish_at]
 walk_nrm
 have HN:=Lib.hid hn
 clear hn
 with_reducible refine Lg.mv_end _ ?_
 repeat (first
  | with_reducible refine Lg.mv_seq _ ?_
  | with_reducible refine Lg.mv_skip _ ?_
  | with_reducible refine Lg.mv_block _ ?_
  | with_reducible refine Lg.mv_inBlock _ ?_
  | with_reducible refine Lg.mv_end _ ?_
  | ((with_reducible refine Lg.mv_condT _ ?_ ?_); exact rfl)
  | ((with_reducible refine Lg.mv_condF _ ?_ ?_); exact rfl)
  | ((with_reducible apply Lg.mv_exit); exact rfl)
  | (with_reducible refine Lg.mv_reg _ ?_
     intro K hK y τ n' hy
     subst hy
     have hn:=HN.out.re hk
     clear HN
     have HN:=Lib.hid hn
     clear hn
     have hr0:=R.rc _ _ _ HN.out.rep
     obtain ⟨b0,b1,b2,b3⟩:=R.blk _ _ _ HN.out.rep
     go_wp2_with (first | (go_at_call 28; refine (multi_sizeM _ _ _ _ _ _ b0 hr0).mono ?_; rintro e w' ⟨rfl,hw'⟩; subst hw') | (go_at_call 45; refine (multi_noM _ _ _ b0).mono ?_; rintro e w' ⟨rfl,hw'⟩; subst hw'))
     refine hK _ _ (fun _=>rfl) ?_
     clear hK K hr0 b0 b1 b2 b3))
 with_reducible refine Lg.mv_ret _ ?_
 exact Lg.leave rfl Try.func71 rfl (v:=.bool (decide (q + n - (M.n : Int)≤min m q))) (fun _ _ _ _=>by simp [results,Try.f71]) (HR.out _ _ _ ⟨_,s,H,rfl,rfl,HN.out⟩)
structure FreeIn (D : OpsD) (L : Lg Try.prog (Tree D.St D.St)) (Cap : (Nat→Prop)→World→Prop) (V : Value) (el : WLens D.A) (M : MIds) (hval : Value) (hT : HoldT D.St) : Prop where
 law : ∀ (H0 : Nat→Prop) (w0 : World) (s : D.St) (H : Nat→Prop) (w : World),Now D Cap H0 w0 s H w→∀ (q n : Int),-1≤q→q < 4611686018427387904→1≤n→n≤M.n→∀ (k : Bool→D.St→Tree D.St D.St),
  Ccalls L 71 #[.pointer (some ⟨M.mb,0,none⟩),V,hval,.int .i64 q,.int .i64 n] (freeT el M hT q n s k) w fun u t' w'=>∃ b s' H',u = .bool b∧t' = k b s'∧Now D Cap H0 w0 s' H' w'
theorem MultiIn.free_in {D : OpsD} {rl : RLens D.A} {cl el : WLens D.A} {M : MIds} {L : Lg Try.prog (Tree D.St D.St)} {Cap : (Nat→Prop)→World→Prop} {V : Value} (R : MultiIn D L Cap V rl cl el M) (hk : CapK Cap) {ht : TypeId} {hv : Value} {hT : HoldT D.St} (hh : HoldIn D L Cap V ht hv hT) : FreeIn D L Cap V el M (.iface ht hv) hT:=
 ⟨fun H0 w0 s H w hn q n h0 h1 h2 h3 k=>multi_freeT R hk H0 w0 s H w hn hh q n h0 h1 h2 h3 k⟩
abbrev frWr (f : Nat→Value) : Array Value:=#[f 0,f 1,f 2,f 3,f 4,f 5,f 6,f 7,f 8,f 9,f 10,f 11,f 12,f 13,f 14,f 15,f 16,f 17,f 18,f 19,f 20,f 21,f 22,f 23,f 24,f 25,f 26,f 27,f 28,f 29,f 30,f 31,f 32,f 33,f 34,f 35,f 36,f 37,f 38,f 39,f 40]
set_option maxHeartbeats 4000000 in
set_option maxRecDepth 100000 in
theorem multi_writtenT {D : OpsD} {rl : RLens D.A} {cl el : WLens D.A} {M : MIds} {L : Lg Try.prog (Tree D.St D.St)} {Cap : (Nat→Prop)→World→Prop} {V : Value} (R : MultiIn D L Cap V rl cl el M) (hk : CapK Cap) (H0 : Nat→Prop) (w0 : World) (s : D.St) (H : Nat→Prop) (w : World) (hn : Now D Cap H0 w0 s H w) (q : Int) (n : Nat) (hq0 : -1≤q) (hq1 : q + n < 4611686018427387904) (hn2 : n≤M.n) (k : Bool→D.St→Tree D.St D.St) :
  Ccalls L 72 #[.pointer (some ⟨M.mb,0,none⟩),V,.int .i64 q,.int .i64 n] (wrotL rl M n (q + 1 - M.n) s k) w fun u t' w'=>∃ b s' H',u = .bool b∧t' = k b s'∧Now D Cap H0 w0 s' H' w':=by
 have hM2:=R.n2
 have hM0:=R.n0
 have hf0:=R.f0
 have hf1:=R.f1
 intro c mid hR
 have HR:=Lib.hid hR
 have HN:=Lib.hid hn
 clear hR hn
 rw [show Frame.enter Try.prog 72 #[.pointer (some ⟨M.mb,0,none⟩),V,.int .i64 q,.int .i64 n] .normal = Frame.at { (default : Frame) with fn:=72,kind:=.normal } ⟨#[.pointer (some ⟨M.mb,0,none⟩),V,.int .i64 q,.int .i64 n] ++ Array.replicate (Try.f72.ntmps - 4) undef,[]⟩ [.code (Try.f72.body.getD .skip)] from by simp [Frame.enter,Frame.at,Try.func72]; rfl]
 simp only [Try.f72,Option.getD_some,Nat.reduceSub,Array.replicate_succ,Array.replicate_zero,List.push_toArray,List.append_toArray,List.nil_append,List.cons_append]
 repeat (first
  | with_reducible refine Lg.mv_seq _ ?_
  | with_reducible refine Lg.mv_skip _ ?_
  | with_reducible refine Lg.mv_block _ ?_
  | with_reducible refine Lg.mv_inBlock _ ?_
  | with_reducible refine Lg.mv_end _ ?_
  | ((with_reducible refine Lg.mv_condT _ ?_ ?_); exact rfl)
  | ((with_reducible refine Lg.mv_condF _ ?_ ?_); exact rfl)
  | ((with_reducible apply Lg.mv_exit); exact rfl)
  | (with_reducible refine Lg.mv_reg _ ?_
     intro K hK y τ n' hy
     subst hy
     have hn:=HN.out.re hk
     clear HN
     have HN:=Lib.hid hn
     clear hn
     have hr0:=R.rc _ _ _ HN.out.rep
     obtain ⟨b0,b1,b2,b3⟩:=R.blk _ _ _ HN.out.rep
     go_wp2_with (first | (go_at_call 28; refine (multi_sizeM _ _ _ _ _ _ b0 hr0).mono ?_; rintro e w' ⟨rfl,hw'⟩; subst hw') | (go_at_call 45; refine (multi_noM _ _ _ b0).mono ?_; rintro e w' ⟨rfl,hw'⟩; subst hw'))
     refine hK _ _ (fun _=>rfl) ?_
     clear hK K hr0 b0 b1 b2 b3))
 refine Lg.family frWr (R:=fun f=>f 0 = .pointer (some ⟨M.mb,0,none⟩)∧f 1 = V∧f 2 = .int .i64 q∧f 3 = .int .i64 n∧f 9 = .int .i64 (q + 1 - M.n)) ?_ (by rfl) ⟨rfl,rfl,rfl,rfl,rfl⟩
 rintro f1 ⟨n0,n1,n2,n3,n9⟩
 refine Lg.loop_fr frWr (fun f t w=>∃ j : Nat,j≤n∧∃ s' H',f 0 = .pointer (some ⟨M.mb,0,none⟩)∧f 1 = V∧f 2 = .int .i64 q∧f 3 = .int .i64 n∧f 9 = .int .i64 (q + 1 - M.n + j)∧t = wrotL rl M (n - j) (q + 1 - M.n + j) s' k∧Now D Cap H0 w0 s' H' w) (fun f _ _=>(q + n + 1 - intOf (f 9)).toNat) ⟨0,Nat.zero_le _,s,H,n0,n1,n2,n3,by rw [n9]; simp,by simp,HN.out⟩ ?_
 clear HN n0 n1 n2 n3 n9 f1 s H
 rintro f2 t w2 ⟨j,hj,s,H,k0,k1,k2,k3,k9,rfl,hn⟩ hnext
 have HX:=Lib.hid hnext
 have HN:=Lib.hid hn
 clear hnext hn
 obtain ⟨x,hx⟩ : ∃ x,x = q + 1 - M.n + j:=⟨_,rfl⟩
 rw [← hx] at k9 ⊢
 simp only [frWr,k0,k1,k2,k3,k9]
 have hx0 : -65537≤x:=by omega
 have hx1 : x < 4611686018427387904:=by omega
 by_cases hlt : j < n
 ·have hd : decide (x≤q + n - M.n) = true:=decide_eq_true (by omega)
  have hxq : x≤q + n:=by omega
  have HXX:=Lib.hid hx
  clear hx
  repeat (first
   | with_reducible refine Lg.mv_seq _ ?_
   | with_reducible refine Lg.mv_skip _ ?_
   | with_reducible refine Lg.mv_block _ ?_
   | with_reducible refine Lg.mv_inBlock _ ?_
   | with_reducible refine Lg.mv_end _ ?_
   | ((with_reducible refine Lg.mv_condT _ ?_ ?_); exact rfl)
   | ((with_reducible refine Lg.mv_condF _ ?_ ?_); exact rfl)
   | ((with_reducible apply Lg.mv_exit); exact rfl)
   | (with_reducible refine Lg.mv_reg _ ?_
      intro K hK y τ n' hy
      subst hy
      have hn:=HN.out.re hk
      clear HN
      have HN:=Lib.hid hn
      clear hn
      have hr0:=R.rc _ _ _ HN.out.rep
      obtain ⟨b0,b1,b2,b3⟩:=R.blk _ _ _ HN.out.rep
      go_wp2_with (first | (go_at_call 28; refine (multi_sizeM _ _ _ _ _ _ b0 hr0).mono ?_; rintro e w' ⟨rfl,hw'⟩; subst hw') | (go_at_call 45; refine (multi_noM _ _ _ b0).mono ?_; rintro e w' ⟨rfl,hw'⟩; subst hw'))
      refine hK _ _ (fun _=>rfl) ?_
      clear hK K hr0 b0 b1 b2 b3))
  clear hd
  rw [show n - j = (n - (j + 1)) + 1 by omega,show wrotL rl M ((n - (j + 1)) + 1) x s k = (if M.first≤x then thereG rl M.n x s fun b s=>if b then wrotL rl M (n - (j + 1)) (x + 1) s k else k false s else wrotL rl M (n - (j + 1)) (x + 1) s k) from rfl]
  by_cases hf : M.first≤x
  ·rw [if_pos hf]
   have hd : decide (M.first≤x) = true:=decide_eq_true hf
   with_reducible refine Lg.mv_region _ ?_
   refine Lg.pre 0 13 3 (by simp) fun K hK y τ n' hy=>?_
   subst hy
   have hn:=HN.out.re hk
   clear HN
   have HN:=Lib.hid hn
   clear hn
   have hr0:=R.rc _ _ _ HN.out.rep
   obtain ⟨b0,b1,b2,b3⟩:=R.blk _ _ _ HN.out.rep
   simp only [List.drop_zero,List.take_succ_cons,List.take_zero]
   go_wp2
   refine hK _ _ (fun _=>rfl) ?_
   clear hK K hr0 b0 b1 b2 b3
   refine Lg.call (i:=13) (rest:=[14,15]) (f:=60) (args:=#[.pointer (some ⟨M.rb,0,none⟩),V,.int .i64 x]) rfl rfl (fun y=>by go_simp) (R.ring.there _ _ _ _ _ HN.out _ _) ?_
   rintro vv t' w' ⟨b,s,H,rfl,rfl,hn⟩
   clear HN
   cases b with
   | true =>
     refine (show L.T (wrotL rl M (n - (j + 1)) (x + 1) s k) _ _ _ from ?_)
     rw [Frame.finish_at]
     walk_nrm
     have HN:=Lib.hid hn
     clear hn
     refine (show L.T _ (Frame.at _ ⟨_,[]⟩ (.inRegion _ (List.range' 14 (2 + 0)) :: _)) (c :: mid) _ from ?_)
     refine Lg.pre 14 2 0 (by simp) fun K hK y τ n' hy=>?_
     subst hy
     have hn:=HN.out.re hk
     clear HN
     have HN:=Lib.hid hn
     clear hn
     have hr0:=R.rc _ _ _ HN.out.rep
     obtain ⟨b0,b1,b2,b3⟩:=R.blk _ _ _ HN.out.rep
     simp only [List.drop_succ_cons,List.drop_zero,List.take_succ_cons,List.take_zero]
     go_wp2
     refine hK _ _ (fun _=>rfl) ?_
     clear hK K hr0 b0 b1 b2 b3
     refine Lg.move _ (fun _ _=>step_region_end) (fun h=>h) ?_
     clear hd
     repeat (first
      | with_reducible refine Lg.mv_seq _ ?_
      | with_reducible refine Lg.mv_skip _ ?_
      | with_reducible refine Lg.mv_block _ ?_
      | with_reducible refine Lg.mv_inBlock _ ?_
      | with_reducible refine Lg.mv_end _ ?_
      | ((with_reducible refine Lg.mv_condT _ ?_ ?_); exact rfl)
      | ((with_reducible refine Lg.mv_condF _ ?_ ?_); exact rfl)
      | ((with_reducible apply Lg.mv_exit); exact rfl)
      | (with_reducible refine Lg.mv_reg _ ?_
         intro K hK y τ n' hy
         subst hy
         have hn:=HN.out.re hk
         clear HN
         have HN:=Lib.hid hn
         clear hn
         have hr0:=R.rc _ _ _ HN.out.rep
         obtain ⟨b0,b1,b2,b3⟩:=R.blk _ _ _ HN.out.rep
         go_wp2_with (first | (go_at_call 28; refine (multi_sizeM _ _ _ _ _ _ b0 hr0).mono ?_; rintro e w' ⟨rfl,hw'⟩; subst hw') | (go_at_call 45; refine (multi_noM _ _ _ b0).mono ?_; rintro e w' ⟨rfl,hw'⟩; subst hw'))
         refine hK _ _ (fun _=>rfl) ?_
         clear hK K hr0 b0 b1 b2 b3))
     refine Lg.family frWr (R:=fun f=>f 0 = .pointer (some ⟨M.mb,0,none⟩)∧f 1 = V∧f 2 = .int .i64 q∧f 3 = .int .i64 n∧f 9 = .int .i64 (x + 1)) ?_ (by rfl) ⟨rfl,rfl,rfl,rfl,rfl⟩
     rintro f' ⟨p0,p1,p2,p3,p9⟩
     exact HX.out f' _ _ ⟨j + 1,by omega,s,H,p0,p1,p2,p3,by rw [p9,HXX.out]; congr 1; omega,by rw [HXX.out]; congr 1; omega,HN.out⟩ (by rw [p9,k9]; simp only [intOf]; omega)
   | false =>
     refine (show L.T (k false s) _ _ _ from ?_)
     rw [Frame.finish_at]
     walk_nrm
     have HN:=Lib.hid hn
     clear hn
     refine (show L.T _ (Frame.at _ ⟨_,[]⟩ (.inRegion _ (List.range' 14 (2 + 0)) :: _)) (c :: mid) _ from ?_)
     refine Lg.pre 14 2 0 (by simp) fun K hK y τ n' hy=>?_
     subst hy
     have hn:=HN.out.re hk
     clear HN
     have HN:=Lib.hid hn
     clear hn
     have hr0:=R.rc _ _ _ HN.out.rep
     obtain ⟨b0,b1,b2,b3⟩:=R.blk _ _ _ HN.out.rep
     simp only [List.drop_succ_cons,List.drop_zero,List.take_succ_cons,List.take_zero]
     go_wp2
     refine hK _ _ (fun _=>rfl) ?_
     clear hK K hr0 b0 b1 b2 b3
     refine Lg.move _ (fun _ _=>step_region_end) (fun h=>h) ?_
     clear hd
     repeat (first
      | with_reducible refine Lg.mv_seq _ ?_
      | with_reducible refine Lg.mv_skip _ ?_
      | with_reducible refine Lg.mv_block _ ?_
      | with_reducible refine Lg.mv_inBlock _ ?_
      | with_reducible refine Lg.mv_end _ ?_
      | ((with_reducible refine Lg.mv_condT _ ?_ ?_); exact rfl)
      | ((with_reducible refine Lg.mv_condF _ ?_ ?_); exact rfl)
      | ((with_reducible apply Lg.mv_exit); exact rfl)
      | (with_reducible refine Lg.mv_reg _ ?_
         intro K hK y τ n' hy
         subst hy
         have hn:=HN.out.re hk
         clear HN
         have HN:=Lib.hid hn
         clear hn
         have hr0:=R.rc _ _ _ HN.out.rep
         obtain ⟨b0,b1,b2,b3⟩:=R.blk _ _ _ HN.out.rep
         go_wp2_with (first | (go_at_call 28; refine (multi_sizeM _ _ _ _ _ _ b0 hr0).mono ?_; rintro e w' ⟨rfl,hw'⟩; subst hw') | (go_at_call 45; refine (multi_noM _ _ _ b0).mono ?_; rintro e w' ⟨rfl,hw'⟩; subst hw'))
         refine hK _ _ (fun _=>rfl) ?_
         clear hK K hr0 b0 b1 b2 b3))
     with_reducible refine Lg.mv_ret _ ?_
     exact Lg.leave rfl Try.func72 rfl (v:=.bool false) (fun _ _ _ _=>by simp [results,Try.f72]) (HR.out _ _ _ ⟨_,s,H,rfl,rfl,HN.out⟩)
  ·rw [if_neg hf]
   have hd : decide (M.first≤x) = false:=decide_eq_false hf
   repeat (first
    | with_reducible refine Lg.mv_seq _ ?_
    | with_reducible refine Lg.mv_skip _ ?_
    | with_reducible refine Lg.mv_block _ ?_
    | with_reducible refine Lg.mv_inBlock _ ?_
    | with_reducible refine Lg.mv_end _ ?_
    | ((with_reducible refine Lg.mv_condT _ ?_ ?_); exact rfl)
    | ((with_reducible refine Lg.mv_condF _ ?_ ?_); exact rfl)
    | ((with_reducible apply Lg.mv_exit); exact rfl)
    | (with_reducible refine Lg.mv_reg _ ?_
       intro K hK y τ n' hy
       subst hy
       have hn:=HN.out.re hk
       clear HN
       have HN:=Lib.hid hn
       clear hn
       have hr0:=R.rc _ _ _ HN.out.rep
       obtain ⟨b0,b1,b2,b3⟩:=R.blk _ _ _ HN.out.rep
       go_wp2_with (first | (go_at_call 28; refine (multi_sizeM _ _ _ _ _ _ b0 hr0).mono ?_; rintro e w' ⟨rfl,hw'⟩; subst hw') | (go_at_call 45; refine (multi_noM _ _ _ b0).mono ?_; rintro e w' ⟨rfl,hw'⟩; subst hw'))
       refine hK _ _ (fun _=>rfl) ?_
       clear hK K hr0 b0 b1 b2 b3))
   clear hd
   refine Lg.family frWr (R:=fun f=>f 0 = .pointer (some ⟨M.mb,0,none⟩)∧f 1 = V∧f 2 = .int .i64 q∧f 3 = .int .i64 n∧f 9 = .int .i64 (x + 1)) ?_ (by rfl) ⟨rfl,rfl,rfl,rfl,rfl⟩
   rintro f' ⟨p0,p1,p2,p3,p9⟩
   exact HX.out f' _ _ ⟨j + 1,by omega,s,H,p0,p1,p2,p3,by rw [p9,HXX.out]; congr 1; omega,by rw [HXX.out]; congr 1; omega,HN.out⟩ (by rw [p9,k9]; simp only [intOf]; omega)
 ·have hd : decide (x≤q + n - M.n) = false:=decide_eq_false (by omega)
  clear hx
  repeat (first
   | with_reducible refine Lg.mv_seq _ ?_
   | with_reducible refine Lg.mv_skip _ ?_
   | with_reducible refine Lg.mv_block _ ?_
   | with_reducible refine Lg.mv_inBlock _ ?_
   | with_reducible refine Lg.mv_end _ ?_
   | ((with_reducible refine Lg.mv_condT _ ?_ ?_); exact rfl)
   | ((with_reducible refine Lg.mv_condF _ ?_ ?_); exact rfl)
   | ((with_reducible apply Lg.mv_exit); exact rfl)
   | (with_reducible refine Lg.mv_reg _ ?_
      intro K hK y τ n' hy
      subst hy
      have hn:=HN.out.re hk
      clear HN
      have HN:=Lib.hid hn
      clear hn
      have hr0:=R.rc _ _ _ HN.out.rep
      obtain ⟨b0,b1,b2,b3⟩:=R.blk _ _ _ HN.out.rep
      go_wp2_with (first | (go_at_call 28; refine (multi_sizeM _ _ _ _ _ _ b0 hr0).mono ?_; rintro e w' ⟨rfl,hw'⟩; subst hw') | (go_at_call 45; refine (multi_noM _ _ _ b0).mono ?_; rintro e w' ⟨rfl,hw'⟩; subst hw'))
      refine hK _ _ (fun _=>rfl) ?_
      clear hK K hr0 b0 b1 b2 b3))
  obtain rfl : j = n:=by omega
  rw [show wrotL rl M (j - j) x s k = k true s from by rw [Nat.sub_self]; rfl]
  with_reducible refine Lg.mv_ret _ ?_
  exact Lg.leave rfl Try.func72 rfl (v:=.bool true) (fun _ _ _ _=>by simp [results,Try.f72]) (HR.out _ _ _ ⟨_,s,H,rfl,rfl,HN.out⟩)
attribute [local go_sem high] run_minM
abbrev frCl (f : Nat→Value) : Array Value:=#[f 0,f 1,f 2,f 3,f 4,f 5,f 6,f 7,f 8,f 9,f 10,f 11,f 12,f 13,f 14,f 15,f 16,f 17,f 18,f 19,f 20,f 21,f 22,f 23,f 24,f 25,f 26,f 27,f 28,f 29,f 30,f 31,f 32,f 33,f 34,f 35,f 36,f 37,f 38,f 39,f 40,f 41,f 42,f 43,f 44,f 45,f 46,f 47,f 48,f 49,f 50,f 51,f 52,f 53,f 54,f 55,f 56,f 57,f 58,f 59,f 60,f 61,f 62]
set_option maxHeartbeats 8000000 in
set_option maxRecDepth 100000 in
theorem multi_claimT {D : OpsD} {rl : RLens D.A} {cl el : WLens D.A} {M : MIds} {L : Lg Try.prog (Tree D.St D.St)} {Cap : (Nat→Prop)→World→Prop} {V : Value} (R : MultiIn D L Cap V rl cl el M) (hk : CapK Cap) (H0 : Nat→Prop) (w0 : World) (s : D.St) (H : Nat→Prop) (w : World) (hn : Now D Cap H0 w0 s H w) {hval : Value} {hT : HoldT D.St} (hh : FreeIn D L Cap V el M hval hT) (hcut : ∀ fr mid x,L.T .cut fr mid x) (n : Int) (k : Int→Int→D.St→Tree D.St D.St) :
  Ccalls L 42 #[.pointer (some ⟨M.mb,0,none⟩),V,hval,.int .i64 n] (claimM rl cl el M hT n s k) w fun u t' w'=>∃ x e s' H',u = .tuple #[.int .i64 x,.int .i64 e]∧(0≤x∧x < 4611686018427387904∧(e = 0→1≤n∧n≤M.n))∧t' = k x e s'∧Now D Cap H0 w0 s' H' w':=by
 have hM2:=R.n2
 have hM0:=R.n0
 intro c mid hR
 have HR:=Lib.hid hR
 have HN:=Lib.hid hn
 clear hR hn
 rw [show Frame.enter Try.prog 42 #[.pointer (some ⟨M.mb,0,none⟩),V,hval,.int .i64 n] .normal = Frame.at { (default : Frame) with fn:=42,kind:=.normal } ⟨#[.pointer (some ⟨M.mb,0,none⟩),V,hval,.int .i64 n] ++ Array.replicate (Try.f42.ntmps - 4) undef,[]⟩ [.code (Try.f42.body.getD .skip)] from by simp [Frame.enter,Frame.at,Try.func42]; rfl]
 simp only [Try.f42,Option.getD_some,Nat.reduceSub,Array.replicate_succ,Array.replicate_zero,List.push_toArray,List.append_toArray,List.nil_append,List.cons_append]
 unfold claimM
 by_cases h1 : n < 1
 ·rw [if_pos (.inl h1)]
  have hd : decide (n < 1) = true:=decide_eq_true h1
  repeat (first
   | with_reducible refine Lg.mv_seq _ ?_
   | with_reducible refine Lg.mv_skip _ ?_
   | with_reducible refine Lg.mv_block _ ?_
   | with_reducible refine Lg.mv_inBlock _ ?_
   | with_reducible refine Lg.mv_end _ ?_
   | ((with_reducible refine Lg.mv_condT _ ?_ ?_); exact rfl)
   | ((with_reducible refine Lg.mv_condF _ ?_ ?_); exact rfl)
   | ((with_reducible apply Lg.mv_exit); exact rfl)
   | (with_reducible refine Lg.mv_reg _ ?_
      intro K hK y τ n' hy
      subst hy
      have hn:=HN.out.re hk
      clear HN
      have HN:=Lib.hid hn
      clear hn
      have hr0:=R.rc _ _ _ HN.out.rep
      obtain ⟨b0,b1,b2,b3⟩:=R.blk _ _ _ HN.out.rep
      go_wp2_with (first | (go_at_call 28; refine (multi_sizeM _ _ _ _ _ _ b0 hr0).mono ?_; rintro e w' ⟨rfl,hw'⟩; subst hw') | (go_at_call 45; refine (multi_noM _ _ _ b0).mono ?_; rintro e w' ⟨rfl,hw'⟩; subst hw'))
      refine hK _ _ (fun _=>rfl) ?_
      clear hK K hr0 b0 b1 b2 b3))
  with_reducible refine Lg.mv_ret _ ?_
  exact Lg.leave rfl Try.func42 rfl (v:=.tuple #[.int .i64 (0),.int .i64 1]) (fun _ _ _ _=>by simp [results,Try.f42]) (HR.out _ _ _ ⟨0,1,s,H,rfl,⟨by omega,by omega,fun z=>by omega⟩,rfl,HN.out⟩)
 have hd1 : decide (n < 1) = false:=decide_eq_false h1
 by_cases h2 : (M.n : Int) < n
 ·rw [if_pos (.inr h2)]
  have hd : decide ((M.n : Int) < n) = true:=decide_eq_true h2
  repeat (first
   | with_reducible refine Lg.mv_seq _ ?_
   | with_reducible refine Lg.mv_skip _ ?_
   | with_reducible refine Lg.mv_block _ ?_
   | with_reducible refine Lg.mv_inBlock _ ?_
   | with_reducible refine Lg.mv_end _ ?_
   | ((with_reducible refine Lg.mv_condT _ ?_ ?_); exact rfl)
   | ((with_reducible refine Lg.mv_condF _ ?_ ?_); exact rfl)
   | ((with_reducible apply Lg.mv_exit); exact rfl)
   | (with_reducible refine Lg.mv_reg _ ?_
      intro K hK y τ n' hy
      subst hy
      have hn:=HN.out.re hk
      clear HN
      have HN:=Lib.hid hn
      clear hn
      have hr0:=R.rc _ _ _ HN.out.rep
      obtain ⟨b0,b1,b2,b3⟩:=R.blk _ _ _ HN.out.rep
      go_wp2_with (first | (go_at_call 28; refine (multi_sizeM _ _ _ _ _ _ b0 hr0).mono ?_; rintro e w' ⟨rfl,hw'⟩; subst hw') | (go_at_call 45; refine (multi_noM _ _ _ b0).mono ?_; rintro e w' ⟨rfl,hw'⟩; subst hw'))
      refine hK _ _ (fun _=>rfl) ?_
      clear hK K hr0 b0 b1 b2 b3))
  with_reducible refine Lg.mv_ret _ ?_
  exact Lg.leave rfl Try.func42 rfl (v:=.tuple #[.int .i64 (0),.int .i64 1]) (fun _ _ _ _=>by simp [results,Try.f42]) (HR.out _ _ _ ⟨0,1,s,H,rfl,⟨by omega,by omega,fun z=>by omega⟩,rfl,HN.out⟩)
 have hd2 : decide ((M.n : Int) < n) = false:=decide_eq_false h2
 rw [if_neg (by omega)]
 repeat (first
  | with_reducible refine Lg.mv_seq _ ?_
  | with_reducible refine Lg.mv_skip _ ?_
  | with_reducible refine Lg.mv_block _ ?_
  | with_reducible refine Lg.mv_inBlock _ ?_
  | with_reducible refine Lg.mv_end _ ?_
  | ((with_reducible refine Lg.mv_condT _ ?_ ?_); exact rfl)
  | ((with_reducible refine Lg.mv_condF _ ?_ ?_); exact rfl)
  | ((with_reducible apply Lg.mv_exit); exact rfl)
  | (with_reducible refine Lg.mv_reg _ ?_
     intro K hK y τ n' hy
     subst hy
     have hn:=HN.out.re hk
     clear HN
     have HN:=Lib.hid hn
     clear hn
     have hr0:=R.rc _ _ _ HN.out.rep
     obtain ⟨b0,b1,b2,b3⟩:=R.blk _ _ _ HN.out.rep
     go_wp2_with (first | (go_at_call 28; refine (multi_sizeM _ _ _ _ _ _ b0 hr0).mono ?_; rintro e w' ⟨rfl,hw'⟩; subst hw') | (go_at_call 45; refine (multi_noM _ _ _ b0).mono ?_; rintro e w' ⟨rfl,hw'⟩; subst hw'))
     refine hK _ _ (fun _=>rfl) ?_
     clear hK K hr0 b0 b1 b2 b3))
 clear hd1 hd2
 obtain ⟨m,rfl⟩ : ∃ m : Nat,n = m:=⟨n.toNat,by omega⟩
 refine Lg.family frCl (R:=fun f=>f 0 = .pointer (some ⟨M.mb,0,none⟩)∧f 1 = V∧f 2 = hval∧f 3 = .int .i64 m) ?_ (by rfl) ⟨rfl,rfl,rfl,rfl⟩
 rintro f1 ⟨n0,n1,n2,n3⟩
 refine Lg.loop_fuel L frCl (fun F f t w=>∃ s' H',f 0 = .pointer (some ⟨M.mb,0,none⟩)∧f 1 = V∧f 2 = hval∧f 3 = .int .i64 m∧t = claimL rl cl el M hT m F s' k∧Now D Cap H0 w0 s' H' w) _ ⟨s,H,n0,n1,n2,n3,rfl,HN.out⟩ ?_
 clear HN n0 n1 n2 n3 f1 s H
 rintro F f2 t w2 ⟨s,H,k0,k1,k2,k3,rfl,hn⟩ hnext
 cases F with
 | zero=>exact hcut _ _ _
 | succ F =>
 have HX:=Lib.hid hnext
 have HN:=Lib.hid hn
 clear hnext hn
 simp only [frCl,k0,k1,k2,k3]
 clear k0 k1 k2 k3
 with_reducible refine Lg.mv_block _ ?_
 with_reducible refine Lg.mv_seq _ ?_
 refine (show L.T (loadW cl s fun c s=>if 4611686018427387904≤c + (m : Int) then k 0 8 s else
  freeT el M hT c m s fun b s=>if b = true then
   wrotL rl M m (c + 1 - M.n) s fun b s=>if b = true then casW cl c (c + m) s fun b s=>if b = true then k (c + m) 0 s else claimL rl cl el M hT m F s k
    else loadW cl s fun d s=>if d = c then k 0 3 s else claimL rl cl el M hT m F s k
  else k 0 3 s) _ _ _ from ?_)
 with_reducible refine Lg.mv_region _ ?_
 refine Lg.pre 0 5 2 (by simp) fun K hK y τ n' hy=>?_
 subst hy
 have hn:=HN.out.re hk
 clear HN
 have HN:=Lib.hid hn
 clear hn
 have hr0:=R.rc _ _ _ HN.out.rep
 obtain ⟨b0,b1,b2,b3⟩:=R.blk _ _ _ HN.out.rep
 simp only [List.drop_zero,List.take_succ_cons,List.take_zero]
 go_wp2
 refine hK _ _ (fun _=>rfl) ?_
 clear hK K hr0 b0 b1 b2 b3
 refine Lg.call (i:=5) (rest:=[6]) (f:=47) (args:=#[.pointer (some ⟨M.cb,0,none⟩),V]) rfl rfl (fun y=>by go_simp) (R.cur.load _ _ _ _ _ HN.out _) ?_
 rintro vv t' w' ⟨q,s,H,rfl,hq,rfl,hn⟩
 clear HN
 have hqb:=R.bd _ _ _ hn.rep
 rw [← hq] at hqb
 clear hq
 obtain ⟨hq0,hq1⟩:=hqb
 by_cases he : 4611686018427387904≤q + (m : Int)
 ·rw [if_pos he]
  have hd : decide (4611686018427387904≤q + (m : Int)) = true:=decide_eq_true he
  rw [Frame.finish_at]
  walk_nrm
  have HN:=Lib.hid hn
  clear hn
  refine (show L.T _ (Frame.at _ ⟨_,[]⟩ (.inRegion _ (List.range' 6 (1 + 0)) :: _)) (c :: mid) _ from ?_)
  refine Lg.pre 6 1 0 (by simp) fun K hK y τ n' hy=>?_
  subst hy
  have hn:=HN.out.re hk
  clear HN
  have HN:=Lib.hid hn
  clear hn
  have hr0:=R.rc _ _ _ HN.out.rep
  obtain ⟨b0,b1,b2,b3⟩:=R.blk _ _ _ HN.out.rep
  simp only [List.drop_succ_cons,List.drop_zero,List.take_succ_cons,List.take_zero]
  go_wp2
  refine hK _ _ (fun _=>rfl) ?_
  clear hK K hr0 b0 b1 b2 b3
  refine Lg.move _ (fun _ _=>step_region_end) (fun h=>h) ?_
  repeat (first
   | with_reducible refine Lg.mv_seq _ ?_
   | with_reducible refine Lg.mv_skip _ ?_
   | with_reducible refine Lg.mv_block _ ?_
   | with_reducible refine Lg.mv_inBlock _ ?_
   | with_reducible refine Lg.mv_end _ ?_
   | ((with_reducible refine Lg.mv_condT _ ?_ ?_); exact rfl)
   | ((with_reducible refine Lg.mv_condF _ ?_ ?_); exact rfl)
   | ((with_reducible apply Lg.mv_exit); exact rfl)
   | (with_reducible refine Lg.mv_reg _ ?_
      intro K hK y τ n' hy
      subst hy
      have hn:=HN.out.re hk
      clear HN
      have HN:=Lib.hid hn
      clear hn
      have hr0:=R.rc _ _ _ HN.out.rep
      obtain ⟨b0,b1,b2,b3⟩:=R.blk _ _ _ HN.out.rep
      go_wp2_with (first | (go_at_call 28; refine (multi_sizeM _ _ _ _ _ _ b0 hr0).mono ?_; rintro e w' ⟨rfl,hw'⟩; subst hw') | (go_at_call 45; refine (multi_noM _ _ _ b0).mono ?_; rintro e w' ⟨rfl,hw'⟩; subst hw'))
      refine hK _ _ (fun _=>rfl) ?_
      clear hK K hr0 b0 b1 b2 b3))
  with_reducible refine Lg.mv_ret _ ?_
  exact Lg.leave rfl Try.func42 rfl (v:=.tuple #[.int .i64 (0),.int .i64 8]) (fun _ _ _ _=>by simp [results,Try.f42]) (HR.out _ _ _ ⟨0,8,s,H,rfl,⟨by omega,by omega,fun z=>by omega⟩,rfl,HN.out⟩)
 rw [if_neg he]
 have hd : decide (4611686018427387904≤q + (m : Int)) = false:=decide_eq_false he
 rw [Frame.finish_at]
 walk_nrm
 have HN:=Lib.hid hn
 clear hn
 refine (show L.T _ (Frame.at _ ⟨_,[]⟩ (.inRegion _ (List.range' 6 (1 + 0)) :: _)) (c :: mid) _ from ?_)
 refine Lg.pre 6 1 0 (by simp) fun K hK y τ n' hy=>?_
 subst hy
 have hn:=HN.out.re hk
 clear HN
 have HN:=Lib.hid hn
 clear hn
 have hr0:=R.rc _ _ _ HN.out.rep
 obtain ⟨b0,b1,b2,b3⟩:=R.blk _ _ _ HN.out.rep
 simp only [List.drop_succ_cons,List.drop_zero,List.take_succ_cons,List.take_zero]
 go_wp2
 refine hK _ _ (fun _=>rfl) ?_
 clear hK K hr0 b0 b1 b2 b3
 refine Lg.move _ (fun _ _=>step_region_end) (fun h=>h) ?_
 repeat (first
  | with_reducible refine Lg.mv_seq _ ?_
  | with_reducible refine Lg.mv_skip _ ?_
  | with_reducible refine Lg.mv_block _ ?_
  | with_reducible refine Lg.mv_inBlock _ ?_
  | with_reducible refine Lg.mv_end _ ?_
  | ((with_reducible refine Lg.mv_condT _ ?_ ?_); exact rfl)
  | ((with_reducible refine Lg.mv_condF _ ?_ ?_); exact rfl)
  | ((with_reducible apply Lg.mv_exit); exact rfl)
  | (with_reducible refine Lg.mv_reg _ ?_
     intro K hK y τ n' hy
     subst hy
     have hn:=HN.out.re hk
     clear HN
     have HN:=Lib.hid hn
     clear hn
     have hr0:=R.rc _ _ _ HN.out.rep
     obtain ⟨b0,b1,b2,b3⟩:=R.blk _ _ _ HN.out.rep
     go_wp2_with (first | (go_at_call 28; refine (multi_sizeM _ _ _ _ _ _ b0 hr0).mono ?_; rintro e w' ⟨rfl,hw'⟩; subst hw') | (go_at_call 45; refine (multi_noM _ _ _ b0).mono ?_; rintro e w' ⟨rfl,hw'⟩; subst hw'))
     refine hK _ _ (fun _=>rfl) ?_
     clear hK K hr0 b0 b1 b2 b3))
 clear hd
 with_reducible refine Lg.mv_region _ ?_
 refine Lg.pre 0 5 2 (by simp) fun K hK y τ n' hy=>?_
 subst hy
 have hn:=HN.out.re hk
 clear HN
 have HN:=Lib.hid hn
 clear hn
 have hr0:=R.rc _ _ _ HN.out.rep
 obtain ⟨b0,b1,b2,b3⟩:=R.blk _ _ _ HN.out.rep
 simp only [List.drop_zero,List.take_succ_cons,List.take_zero]
 go_wp2
 refine hK _ _ (fun _=>rfl) ?_
 clear hK K hr0 b0 b1 b2 b3
 refine Lg.call (i:=5) (rest:=[6]) (f:=71) (args:=#[.pointer (some ⟨M.mb,0,none⟩),V,hval,.int .i64 q,.int .i64 m]) rfl rfl (fun y=>by go_simp) (hh.law _ _ _ _ _ HN.out q m hq0 hq1 (by omega) (by omega) _) ?_
 rintro vv t' w' ⟨b,s,H,rfl,rfl,hn⟩
 clear HN
 cases b with
 | false =>
   refine (show L.T (k 0 3 s) _ _ _ from ?_)
   rw [Frame.finish_at]
   walk_nrm
   have HN:=Lib.hid hn
   clear hn
   refine (show L.T _ (Frame.at _ ⟨_,[]⟩ (.inRegion _ (List.range' 6 (1 + 0)) :: _)) (c :: mid) _ from ?_)
   refine Lg.pre 6 1 0 (by simp) fun K hK y τ n' hy=>?_
   subst hy
   have hn:=HN.out.re hk
   clear HN
   have HN:=Lib.hid hn
   clear hn
   have hr0:=R.rc _ _ _ HN.out.rep
   obtain ⟨b0,b1,b2,b3⟩:=R.blk _ _ _ HN.out.rep
   simp only [List.drop_succ_cons,List.drop_zero,List.take_succ_cons,List.take_zero]
   go_wp2
   refine hK _ _ (fun _=>rfl) ?_
   clear hK K hr0 b0 b1 b2 b3
   refine Lg.move _ (fun _ _=>step_region_end) (fun h=>h) ?_
   repeat (first
    | with_reducible refine Lg.mv_seq _ ?_
    | with_reducible refine Lg.mv_skip _ ?_
    | with_reducible refine Lg.mv_block _ ?_
    | with_reducible refine Lg.mv_inBlock _ ?_
    | with_reducible refine Lg.mv_end _ ?_
    | ((with_reducible refine Lg.mv_condT _ ?_ ?_); exact rfl)
    | ((with_reducible refine Lg.mv_condF _ ?_ ?_); exact rfl)
    | ((with_reducible apply Lg.mv_exit); exact rfl)
    | (with_reducible refine Lg.mv_reg _ ?_
       intro K hK y τ n' hy
       subst hy
       have hn:=HN.out.re hk
       clear HN
       have HN:=Lib.hid hn
       clear hn
       have hr0:=R.rc _ _ _ HN.out.rep
       obtain ⟨b0,b1,b2,b3⟩:=R.blk _ _ _ HN.out.rep
       go_wp2_with (first | (go_at_call 28; refine (multi_sizeM _ _ _ _ _ _ b0 hr0).mono ?_; rintro e w' ⟨rfl,hw'⟩; subst hw') | (go_at_call 45; refine (multi_noM _ _ _ b0).mono ?_; rintro e w' ⟨rfl,hw'⟩; subst hw'))
       refine hK _ _ (fun _=>rfl) ?_
       clear hK K hr0 b0 b1 b2 b3))
   with_reducible refine Lg.mv_ret _ ?_
   exact Lg.leave rfl Try.func42 rfl (v:=.tuple #[.int .i64 (0),.int .i64 3]) (fun _ _ _ _=>by simp [results,Try.f42]) (HR.out _ _ _ ⟨0,3,s,H,rfl,⟨by omega,by omega,fun z=>by omega⟩,rfl,HN.out⟩)
 | true =>
 refine (show L.T (wrotL rl M m (q + 1 - M.n) s fun b s=>if b = true then casW cl q (q + m) s fun b s=>if b = true then k (q + m) 0 s else claimL rl cl el M hT m F s k
    else loadW cl s fun d s=>if d = q then k 0 3 s else claimL rl cl el M hT m F s k) _ _ _ from ?_)
 rw [Frame.finish_at]
 walk_nrm
 have HN:=Lib.hid hn
 clear hn
 refine (show L.T _ (Frame.at _ ⟨_,[]⟩ (.inRegion _ (List.range' 6 (1 + 0)) :: _)) (c :: mid) _ from ?_)
 refine Lg.pre 6 1 0 (by simp) fun K hK y τ n' hy=>?_
 subst hy
 have hn:=HN.out.re hk
 clear HN
 have HN:=Lib.hid hn
 clear hn
 have hr0:=R.rc _ _ _ HN.out.rep
 obtain ⟨b0,b1,b2,b3⟩:=R.blk _ _ _ HN.out.rep
 simp only [List.drop_succ_cons,List.drop_zero,List.take_succ_cons,List.take_zero]
 go_wp2
 refine hK _ _ (fun _=>rfl) ?_
 clear hK K hr0 b0 b1 b2 b3
 refine Lg.move _ (fun _ _=>step_region_end) (fun h=>h) ?_
 repeat (first
  | with_reducible refine Lg.mv_seq _ ?_
  | with_reducible refine Lg.mv_skip _ ?_
  | with_reducible refine Lg.mv_block _ ?_
  | with_reducible refine Lg.mv_inBlock _ ?_
  | with_reducible refine Lg.mv_end _ ?_
  | ((with_reducible refine Lg.mv_condT _ ?_ ?_); exact rfl)
  | ((with_reducible refine Lg.mv_condF _ ?_ ?_); exact rfl)
  | ((with_reducible apply Lg.mv_exit); exact rfl)
  | (with_reducible refine Lg.mv_reg _ ?_
     intro K hK y τ n' hy
     subst hy
     have hn:=HN.out.re hk
     clear HN
     have HN:=Lib.hid hn
     clear hn
     have hr0:=R.rc _ _ _ HN.out.rep
     obtain ⟨b0,b1,b2,b3⟩:=R.blk _ _ _ HN.out.rep
     go_wp2_with (first | (go_at_call 28; refine (multi_sizeM _ _ _ _ _ _ b0 hr0).mono ?_; rintro e w' ⟨rfl,hw'⟩; subst hw') | (go_at_call 45; refine (multi_noM _ _ _ b0).mono ?_; rintro e w' ⟨rfl,hw'⟩; subst hw'))
     refine hK _ _ (fun _=>rfl) ?_
     clear hK K hr0 b0 b1 b2 b3))
 with_reducible refine Lg.mv_region _ ?_
 refine Lg.pre 0 4 2 (by simp) fun K hK y τ n' hy=>?_
 subst hy
 have hn:=HN.out.re hk
 clear HN
 have HN:=Lib.hid hn
 clear hn
 have hr0:=R.rc _ _ _ HN.out.rep
 obtain ⟨b0,b1,b2,b3⟩:=R.blk _ _ _ HN.out.rep
 simp only [List.drop_zero,List.take_succ_cons,List.take_zero]
 go_wp2
 refine hK _ _ (fun _=>rfl) ?_
 clear hK K hr0 b0 b1 b2 b3
 refine Lg.call (i:=4) (rest:=[5]) (f:=72) (args:=#[.pointer (some ⟨M.mb,0,none⟩),V,.int .i64 q,.int .i64 m]) rfl rfl (fun y=>by go_simp) (multi_writtenT R hk _ _ _ _ _ HN.out q m hq0 (by omega) (by omega) _) ?_
 rintro vv t' w' ⟨b,s,H,rfl,rfl,hn⟩
 clear HN
 cases b with
 | false =>
   refine (show L.T (loadW cl s fun d s=>if d = q then k 0 3 s else claimL rl cl el M hT m F s k) _ _ _ from ?_)
   rw [Frame.finish_at]
   walk_nrm
   have HN:=Lib.hid hn
   clear hn
   refine (show L.T _ (Frame.at _ ⟨_,[]⟩ (.inRegion _ (List.range' 5 (1 + 0)) :: _)) (c :: mid) _ from ?_)
   refine Lg.pre 5 1 0 (by simp) fun K hK y τ n' hy=>?_
   subst hy
   have hn:=HN.out.re hk
   clear HN
   have HN:=Lib.hid hn
   clear hn
   have hr0:=R.rc _ _ _ HN.out.rep
   obtain ⟨b0,b1,b2,b3⟩:=R.blk _ _ _ HN.out.rep
   simp only [List.drop_succ_cons,List.drop_zero,List.take_succ_cons,List.take_zero]
   go_wp2
   refine hK _ _ (fun _=>rfl) ?_
   clear hK K hr0 b0 b1 b2 b3
   refine Lg.move _ (fun _ _=>step_region_end) (fun h=>h) ?_
   repeat (first
    | with_reducible refine Lg.mv_seq _ ?_
    | with_reducible refine Lg.mv_skip _ ?_
    | with_reducible refine Lg.mv_block _ ?_
    | with_reducible refine Lg.mv_inBlock _ ?_
    | with_reducible refine Lg.mv_end _ ?_
    | ((with_reducible refine Lg.mv_condT _ ?_ ?_); exact rfl)
    | ((with_reducible refine Lg.mv_condF _ ?_ ?_); exact rfl)
    | ((with_reducible apply Lg.mv_exit); exact rfl)
    | (with_reducible refine Lg.mv_reg _ ?_
       intro K hK y τ n' hy
       subst hy
       have hn:=HN.out.re hk
       clear HN
       have HN:=Lib.hid hn
       clear hn
       have hr0:=R.rc _ _ _ HN.out.rep
       obtain ⟨b0,b1,b2,b3⟩:=R.blk _ _ _ HN.out.rep
       go_wp2_with (first | (go_at_call 28; refine (multi_sizeM _ _ _ _ _ _ b0 hr0).mono ?_; rintro e w' ⟨rfl,hw'⟩; subst hw') | (go_at_call 45; refine (multi_noM _ _ _ b0).mono ?_; rintro e w' ⟨rfl,hw'⟩; subst hw'))
       refine hK _ _ (fun _=>rfl) ?_
       clear hK K hr0 b0 b1 b2 b3))
   with_reducible refine Lg.mv_region _ ?_
   refine Lg.pre 0 5 3 (by simp) fun K hK y τ n' hy=>?_
   subst hy
   have hn:=HN.out.re hk
   clear HN
   have HN:=Lib.hid hn
   clear hn
   have hr0:=R.rc _ _ _ HN.out.rep
   obtain ⟨b0,b1,b2,b3⟩:=R.blk _ _ _ HN.out.rep
   simp only [List.drop_zero,List.take_succ_cons,List.take_zero]
   go_wp2
   refine hK _ _ (fun _=>rfl) ?_
   clear hK K hr0 b0 b1 b2 b3
   refine Lg.call (i:=5) (rest:=[6,7]) (f:=47) (args:=#[.pointer (some ⟨M.cb,0,none⟩),V]) rfl rfl (fun y=>by go_simp) (R.cur.load _ _ _ _ _ HN.out _) ?_
   rintro vv t' w' ⟨d,s,H,rfl,-,rfl,hn⟩
   clear HN
   by_cases hdq : d = q
   ·rw [if_pos hdq]
    have hd : (d == q) = true:=by simpa using hdq
    clear hdq
    rw [Frame.finish_at]
    walk_nrm
    have HN:=Lib.hid hn
    clear hn
    refine (show L.T _ (Frame.at _ ⟨_,[]⟩ (.inRegion _ (List.range' 6 (2 + 0)) :: _)) (c :: mid) _ from ?_)
    refine Lg.pre 6 2 0 (by simp) fun K hK y τ n' hy=>?_
    subst hy
    have hn:=HN.out.re hk
    clear HN
    have HN:=Lib.hid hn
    clear hn
    have hr0:=R.rc _ _ _ HN.out.rep
    obtain ⟨b0,b1,b2,b3⟩:=R.blk _ _ _ HN.out.rep
    simp only [List.drop_succ_cons,List.drop_zero,List.take_succ_cons,List.take_zero]
    go_wp2
    refine hK _ _ (fun _=>rfl) ?_
    clear hK K hr0 b0 b1 b2 b3
    refine Lg.move _ (fun _ _=>step_region_end) (fun h=>h) ?_
    repeat (first
     | with_reducible refine Lg.mv_seq _ ?_
     | with_reducible refine Lg.mv_skip _ ?_
     | with_reducible refine Lg.mv_block _ ?_
     | with_reducible refine Lg.mv_inBlock _ ?_
     | with_reducible refine Lg.mv_end _ ?_
     | ((with_reducible refine Lg.mv_condT _ ?_ ?_); exact rfl)
     | ((with_reducible refine Lg.mv_condF _ ?_ ?_); exact rfl)
     | ((with_reducible apply Lg.mv_exit); exact rfl)
     | (with_reducible refine Lg.mv_reg _ ?_
        intro K hK y τ n' hy
        subst hy
        have hn:=HN.out.re hk
        clear HN
        have HN:=Lib.hid hn
        clear hn
        have hr0:=R.rc _ _ _ HN.out.rep
        obtain ⟨b0,b1,b2,b3⟩:=R.blk _ _ _ HN.out.rep
        go_wp2_with (first | (go_at_call 28; refine (multi_sizeM _ _ _ _ _ _ b0 hr0).mono ?_; rintro e w' ⟨rfl,hw'⟩; subst hw') | (go_at_call 45; refine (multi_noM _ _ _ b0).mono ?_; rintro e w' ⟨rfl,hw'⟩; subst hw'))
        refine hK _ _ (fun _=>rfl) ?_
        clear hK K hr0 b0 b1 b2 b3))
    with_reducible refine Lg.mv_ret _ ?_
    exact Lg.leave rfl Try.func42 rfl (v:=.tuple #[.int .i64 (0),.int .i64 3]) (fun _ _ _ _=>by simp [results,Try.f42]) (HR.out _ _ _ ⟨0,3,s,H,rfl,⟨by omega,by omega,fun z=>by omega⟩,rfl,HN.out⟩)
   ·rw [if_neg hdq]
    have hd : (d == q) = false:=by simpa using hdq
    clear hdq
    rw [Frame.finish_at]
    walk_nrm
    have HN:=Lib.hid hn
    clear hn
    refine (show L.T _ (Frame.at _ ⟨_,[]⟩ (.inRegion _ (List.range' 6 (2 + 0)) :: _)) (c :: mid) _ from ?_)
    refine Lg.pre 6 2 0 (by simp) fun K hK y τ n' hy=>?_
    subst hy
    have hn:=HN.out.re hk
    clear HN
    have HN:=Lib.hid hn
    clear hn
    have hr0:=R.rc _ _ _ HN.out.rep
    obtain ⟨b0,b1,b2,b3⟩:=R.blk _ _ _ HN.out.rep
    simp only [List.drop_succ_cons,List.drop_zero,List.take_succ_cons,List.take_zero]
    go_wp2
    refine hK _ _ (fun _=>rfl) ?_
    clear hK K hr0 b0 b1 b2 b3
    refine Lg.move _ (fun _ _=>step_region_end) (fun h=>h) ?_
    repeat (first
     | with_reducible refine Lg.mv_seq _ ?_
     | with_reducible refine Lg.mv_skip _ ?_
     | with_reducible refine Lg.mv_block _ ?_
     | with_reducible refine Lg.mv_inBlock _ ?_
     | with_reducible refine Lg.mv_end _ ?_
     | ((with_reducible refine Lg.mv_condT _ ?_ ?_); exact rfl)
     | ((with_reducible refine Lg.mv_condF _ ?_ ?_); exact rfl)
     | ((with_reducible apply Lg.mv_exit); exact rfl)
     | (with_reducible refine Lg.mv_reg _ ?_
        intro K hK y τ n' hy
        subst hy
        have hn:=HN.out.re hk
        clear HN
        have HN:=Lib.hid hn
        clear hn
        have hr0:=R.rc _ _ _ HN.out.rep
        obtain ⟨b0,b1,b2,b3⟩:=R.blk _ _ _ HN.out.rep
        go_wp2_with (first | (go_at_call 28; refine (multi_sizeM _ _ _ _ _ _ b0 hr0).mono ?_; rintro e w' ⟨rfl,hw'⟩; subst hw') | (go_at_call 45; refine (multi_noM _ _ _ b0).mono ?_; rintro e w' ⟨rfl,hw'⟩; subst hw'))
        refine hK _ _ (fun _=>rfl) ?_
        clear hK K hr0 b0 b1 b2 b3))
    clear hd
    refine Lg.family frCl (R:=fun f=>f 0 = .pointer (some ⟨M.mb,0,none⟩)∧f 1 = V∧f 2 = hval∧f 3 = .int .i64 m) ?_ (by rfl) ⟨rfl,rfl,rfl,rfl⟩
    rintro f' ⟨p0,p1,p2,p3⟩
    exact HX.out F f' _ _ (by omega) ⟨s,H,p0,p1,p2,p3,rfl,HN.out⟩
 | true =>
 refine (show L.T (casW cl q (q + m) s fun b s=>if b = true then k (q + m) 0 s else claimL rl cl el M hT m F s k) _ _ _ from ?_)
 rw [Frame.finish_at]
 walk_nrm
 have HN:=Lib.hid hn
 clear hn
 refine (show L.T _ (Frame.at _ ⟨_,[]⟩ (.inRegion _ (List.range' 5 (1 + 0)) :: _)) (c :: mid) _ from ?_)
 refine Lg.pre 5 1 0 (by simp) fun K hK y τ n' hy=>?_
 subst hy
 have hn:=HN.out.re hk
 clear HN
 have HN:=Lib.hid hn
 clear hn
 have hr0:=R.rc _ _ _ HN.out.rep
 obtain ⟨b0,b1,b2,b3⟩:=R.blk _ _ _ HN.out.rep
 simp only [List.drop_succ_cons,List.drop_zero,List.take_succ_cons,List.take_zero]
 go_wp2
 refine hK _ _ (fun _=>rfl) ?_
 clear hK K hr0 b0 b1 b2 b3
 refine Lg.move _ (fun _ _=>step_region_end) (fun h=>h) ?_
 repeat (first
  | with_reducible refine Lg.mv_seq _ ?_
  | with_reducible refine Lg.mv_skip _ ?_
  | with_reducible refine Lg.mv_block _ ?_
  | with_reducible refine Lg.mv_inBlock _ ?_
  | with_reducible refine Lg.mv_end _ ?_
  | ((with_reducible refine Lg.mv_condT _ ?_ ?_); exact rfl)
  | ((with_reducible refine Lg.mv_condF _ ?_ ?_); exact rfl)
  | ((with_reducible apply Lg.mv_exit); exact rfl)
  | (with_reducible refine Lg.mv_reg _ ?_
     intro K hK y τ n' hy
     subst hy
     have hn:=HN.out.re hk
     clear HN
     have HN:=Lib.hid hn
     clear hn
     have hr0:=R.rc _ _ _ HN.out.rep
     obtain ⟨b0,b1,b2,b3⟩:=R.blk _ _ _ HN.out.rep
     go_wp2_with (first | (go_at_call 28; refine (multi_sizeM _ _ _ _ _ _ b0 hr0).mono ?_; rintro e w' ⟨rfl,hw'⟩; subst hw') | (go_at_call 45; refine (multi_noM _ _ _ b0).mono ?_; rintro e w' ⟨rfl,hw'⟩; subst hw'))
     refine hK _ _ (fun _=>rfl) ?_
     clear hK K hr0 b0 b1 b2 b3))
 with_reducible refine Lg.mv_region _ ?_
 refine Lg.pre 0 9 1 (by simp) fun K hK y τ n' hy=>?_
 subst hy
 have hn:=HN.out.re hk
 clear HN
 have HN:=Lib.hid hn
 clear hn
 have hr0:=R.rc _ _ _ HN.out.rep
 obtain ⟨b0,b1,b2,b3⟩:=R.blk _ _ _ HN.out.rep
 simp only [List.drop_zero,List.take_succ_cons,List.take_zero]
 go_wp2
 refine hK _ _ (fun _=>rfl) ?_
 clear hK K hr0 b0 b1 b2 b3
 refine Lg.call (i:=9) (rest:=[]) (f:=73) (args:=#[.pointer (some ⟨M.cb,0,none⟩),V,.int .i64 q,.int .i64 (q + m)]) rfl rfl (fun y=>by go_simp) (R.cur.cas _ _ _ _ _ HN.out q (q + m) (R.cok _ (by omega) (by omega)) _) ?_
 rintro vv t' w' ⟨b,s,H,rfl,rfl,hn⟩
 clear HN
 rw [Frame.finish_at]
 walk_nrm
 have HN:=Lib.hid hn
 clear hn
 with_reducible refine Lg.mv_end _ ?_
 cases b with
 | true =>
   refine (show L.T (k (q + m) 0 s) _ _ _ from ?_)
   repeat (first
    | with_reducible refine Lg.mv_seq _ ?_
    | with_reducible refine Lg.mv_skip _ ?_
    | with_reducible refine Lg.mv_block _ ?_
    | with_reducible refine Lg.mv_inBlock _ ?_
    | with_reducible refine Lg.mv_end _ ?_
    | ((with_reducible refine Lg.mv_condT _ ?_ ?_); exact rfl)
    | ((with_reducible refine Lg.mv_condF _ ?_ ?_); exact rfl)
    | ((with_reducible apply Lg.mv_exit); exact rfl)
    | (with_reducible refine Lg.mv_reg _ ?_
       intro K hK y τ n' hy
       subst hy
       have hn:=HN.out.re hk
       clear HN
       have HN:=Lib.hid hn
       clear hn
       have hr0:=R.rc _ _ _ HN.out.rep
       obtain ⟨b0,b1,b2,b3⟩:=R.blk _ _ _ HN.out.rep
       go_wp2_with (first | (go_at_call 28; refine (multi_sizeM _ _ _ _ _ _ b0 hr0).mono ?_; rintro e w' ⟨rfl,hw'⟩; subst hw') | (go_at_call 45; refine (multi_noM _ _ _ b0).mono ?_; rintro e w' ⟨rfl,hw'⟩; subst hw'))
       refine hK _ _ (fun _=>rfl) ?_
       clear hK K hr0 b0 b1 b2 b3))
   with_reducible refine Lg.mv_ret _ ?_
   exact Lg.leave rfl Try.func42 rfl (v:=.tuple #[.int .i64 (q + m),.int .i64 0]) (fun _ _ _ _=>by simp [results,Try.f42]) (HR.out _ _ _ ⟨q + m,0,s,H,rfl,⟨by omega,by omega,fun z=>by omega⟩,rfl,HN.out⟩)
 | false =>
   refine (show L.T (claimL rl cl el M hT m F s k) _ _ _ from ?_)
   repeat (first
    | with_reducible refine Lg.mv_seq _ ?_
    | with_reducible refine Lg.mv_skip _ ?_
    | with_reducible refine Lg.mv_block _ ?_
    | with_reducible refine Lg.mv_inBlock _ ?_
    | with_reducible refine Lg.mv_end _ ?_
    | ((with_reducible refine Lg.mv_condT _ ?_ ?_); exact rfl)
    | ((with_reducible refine Lg.mv_condF _ ?_ ?_); exact rfl)
    | ((with_reducible apply Lg.mv_exit); exact rfl)
    | (with_reducible refine Lg.mv_reg _ ?_
       intro K hK y τ n' hy
       subst hy
       have hn:=HN.out.re hk
       clear HN
       have HN:=Lib.hid hn
       clear hn
       have hr0:=R.rc _ _ _ HN.out.rep
       obtain ⟨b0,b1,b2,b3⟩:=R.blk _ _ _ HN.out.rep
       go_wp2_with (first | (go_at_call 28; refine (multi_sizeM _ _ _ _ _ _ b0 hr0).mono ?_; rintro e w' ⟨rfl,hw'⟩; subst hw') | (go_at_call 45; refine (multi_noM _ _ _ b0).mono ?_; rintro e w' ⟨rfl,hw'⟩; subst hw'))
       refine hK _ _ (fun _=>rfl) ?_
       clear hK K hr0 b0 b1 b2 b3))
   refine Lg.family frCl (R:=fun f=>f 0 = .pointer (some ⟨M.mb,0,none⟩)∧f 1 = V∧f 2 = hval∧f 3 = .int .i64 m) ?_ (by rfl) ⟨rfl,rfl,rfl,rfl⟩
   rintro f' ⟨p0,p1,p2,p3⟩
   exact HX.out F f' _ _ (by omega) ⟨s,H,p0,p1,p2,p3,rfl,HN.out⟩
attribute [local go_sem high] run_minM
theorem any_readS {P : Program} {κ : Type} {L : Lg P κ} {md : Region.Mode} {os : Array Oper} {S : World→Prop} {Q : κ→Act→World→Prop} {i : Nat} {oi : Oper} {fuel : Nat} {listed : Array Bool} {t : κ} {a : Act} {w : World} (d : Option Tmp) (hi : os[i]? = some oi) (hd : oi.dst = d) (hre : ∀ y τ n,S (World.re y τ n)→S y) (hQ : ∀ t a y τ n,Q t a (World.re y τ n)→Q t a y)
  (hs : Region.noSelect os = true) (hf : Region.free md os listed i = true) (hr : (Region.ready md os listed).contains i = true) (hg : Region.wanted oi (yielded os a.tmps) = true) (hS : S w) (hdf : a.defers = [])
  (h : ∃ v,(∀ wq,S wq→(execOp a.eval oi).run P wq = .ok (.value v) wq)∧AnyS L md os S Q fuel (listed.setIfInBounds i true) t (a.put d v) w) : AnyS L md os S Q (fuel + 1) listed t a w:=by
 obtain ⟨v,h1,h2⟩:=h
 subst hd
 exact AnyS.take hi hre hQ hs hf hr (.inl ⟨hg,h1⟩) hS (fun _=>hdf) h2
set_option maxRecDepth 100000 in
theorem multi_writeT {D : OpsD} {rl : RLens D.A} {cl el : WLens D.A} {M : MIds} {L : Lg Try.prog (Tree D.St D.St)} {Cap : (Nat→Prop)→World→Prop} {V : Value} (R : MultiIn D L Cap V rl cl el M) (hk : CapK Cap) (H0 : Nat→Prop) (w0 : World) (s : D.St) (H : Nat→Prop) (w : World) (hn : Now D Cap H0 w0 s H w) (q v : Int) (k : Int→D.St→Tree D.St D.St) : Ccalls L 43 #[.pointer (some ⟨M.mb,0,none⟩),V,.int .i64 q,.int .i64 v] (putG rl M.n q v s k) w fun u t' w'=>∃ e s' H',u = .int .i64 e∧t' = k e s'∧Now D Cap H0 w0 s' H' w':=by
 intro c mid hR
 have HR:=Lib.hid hR
 have HN:=Lib.hid hn
 clear hR hn
 rw [show Frame.enter Try.prog 43 #[.pointer (some ⟨M.mb,0,none⟩),V,.int .i64 q,.int .i64 v] .normal = Frame.at { (default : Frame) with fn:=43,kind:=.normal } ⟨#[.pointer (some ⟨M.mb,0,none⟩),V,.int .i64 q,.int .i64 v] ++ Array.replicate (Try.f43.ntmps - 4) undef,[]⟩ [.code (Try.f43.body.getD .skip)] from by simp [Frame.enter,Frame.at,Try.func43]; rfl]
 simp only [Try.f43,Option.getD_some,Nat.reduceSub,Array.replicate_succ,Array.replicate_zero,List.push_toArray,List.append_toArray,List.nil_append,List.cons_append]
 repeat (first
  | with_reducible refine Lg.mv_seq _ ?_
  | with_reducible refine Lg.mv_skip _ ?_
  | with_reducible refine Lg.mv_block _ ?_
  | with_reducible refine Lg.mv_inBlock _ ?_
  | with_reducible refine Lg.mv_end _ ?_
  | ((with_reducible refine Lg.mv_condT _ ?_ ?_); exact rfl)
  | ((with_reducible refine Lg.mv_condF _ ?_ ?_); exact rfl)
  | ((with_reducible apply Lg.mv_exit); exact rfl)
  | (with_reducible refine Lg.mv_reg _ ?_
     intro K hK y τ n' hy
     subst hy
     have hn:=HN.out.re hk
     clear HN
     have HN:=Lib.hid hn
     clear hn
     have hr0:=R.rc _ _ _ HN.out.rep
     obtain ⟨b0,b1,b2,b3⟩:=R.blk _ _ _ HN.out.rep
     go_wp2_with (first | (go_at_call 28; refine (multi_sizeM _ _ _ _ _ _ b0 hr0).mono ?_; rintro e w' ⟨rfl,hw'⟩; subst hw') | (go_at_call 45; refine (multi_noM _ _ _ b0).mono ?_; rintro e w' ⟨rfl,hw'⟩; subst hw'))
     refine hK _ _ (fun _=>rfl) ?_
     clear hK K hr0 b0 b1 b2 b3))
 with_reducible refine Lg.mv_region _ ?_
 refine Lg.pre 0 7 2 (by simp) fun K hK y τ n' hy=>?_
 subst hy
 have hn:=HN.out.re hk
 clear HN
 have HN:=Lib.hid hn
 clear hn
 have hr0:=R.rc _ _ _ HN.out.rep
 obtain ⟨b0,b1,b2,b3⟩:=R.blk _ _ _ HN.out.rep
 simp only [List.drop_zero,List.take_succ_cons,List.take_zero]
 go_wp2
 refine hK _ _ (fun _=>rfl) ?_
 clear hK K hr0 b0 b1 b2 b3
 refine Lg.call (i:=7) (rest:=[8]) (f:=74) (args:=#[.pointer (some ⟨M.rb,0,none⟩),V,.int .i64 q,.int .i64 v]) rfl rfl (fun y=>by go_simp) (R.ring.put _ _ _ _ _ HN.out q v _) ?_
 rintro vv t' w' ⟨e,s,H,rfl,rfl,hn⟩
 clear HN
 rw [Frame.finish_at]
 walk_nrm
 have HN:=Lib.hid hn
 clear hn
 refine (show L.T _ (Frame.at _ ⟨_,[]⟩ (.inRegion _ (List.range' 8 (1 + 0)) :: _)) (c :: mid) _ from ?_)
 refine Lg.pre 8 1 0 (by simp) fun K hK y τ n' hy=>?_
 subst hy
 have hn:=HN.out.re hk
 clear HN
 have HN:=Lib.hid hn
 clear hn
 have hr0:=R.rc _ _ _ HN.out.rep
 obtain ⟨b0,b1,b2,b3⟩:=R.blk _ _ _ HN.out.rep
 simp only [List.drop_succ_cons,List.drop_zero,List.take_succ_cons,List.take_zero]
 go_wp2
 refine hK _ _ (fun _=>rfl) ?_
 clear hK K hr0 b0 b1 b2 b3
 refine Lg.move _ (fun _ _=>step_region_end) (fun h=>h) ?_
 with_reducible refine Lg.mv_ret _ ?_
 exact Lg.leave rfl Try.func43 rfl (v:=.int .i64 e) (fun _ _ _ _=>by simp [results,Try.f43]) (HR.out _ _ _ ⟨e,s,H,rfl,rfl,HN.out⟩)
set_option maxRecDepth 100000 in
theorem multi_cursorX {D : OpsD} {rl : RLens D.A} {cl el : WLens D.A} {M : MIds} {L : Lg Try.prog (Tree D.St D.St)} {Cap : (Nat→Prop)→World→Prop} {V : Value} (R : MultiIn D L Cap V rl cl el M) (hk : CapK Cap) (H0 : Nat→Prop) (w0 : World) (s : D.St) (H : Nat→Prop) (w : World) (hn : Now D Cap H0 w0 s H w) (k : Int→D.St→Tree D.St D.St) : Ccalls L 29 #[.pointer (some ⟨M.mb,0,none⟩),V] (loadW cl s k) w fun u t' w'=>∃ x s' H',u = .int .i64 x∧x = cl.get s'.1∧t' = k x s'∧Now D Cap H0 w0 s' H' w':=by
 intro c mid hR
 have HR:=Lib.hid hR
 have HN:=Lib.hid hn
 clear hR hn
 rw [show Frame.enter Try.prog 29 #[.pointer (some ⟨M.mb,0,none⟩),V] .normal = Frame.at { (default : Frame) with fn:=29,kind:=.normal } ⟨#[.pointer (some ⟨M.mb,0,none⟩),V] ++ Array.replicate (Try.f29.ntmps - 2) undef,[]⟩ [.code (Try.f29.body.getD .skip)] from by simp [Frame.enter,Frame.at,Try.func29]; rfl]
 simp only [Try.f29,Option.getD_some,Nat.reduceSub,Array.replicate_succ,Array.replicate_zero,List.push_toArray,List.append_toArray,List.nil_append,List.cons_append]
 repeat (first
  | with_reducible refine Lg.mv_seq _ ?_
  | with_reducible refine Lg.mv_skip _ ?_
  | with_reducible refine Lg.mv_block _ ?_
  | with_reducible refine Lg.mv_inBlock _ ?_
  | with_reducible refine Lg.mv_end _ ?_
  | ((with_reducible refine Lg.mv_condT _ ?_ ?_); exact rfl)
  | ((with_reducible refine Lg.mv_condF _ ?_ ?_); exact rfl)
  | ((with_reducible apply Lg.mv_exit); exact rfl)
  | (with_reducible refine Lg.mv_reg _ ?_
     intro K hK y τ n' hy
     subst hy
     have hn:=HN.out.re hk
     clear HN
     have HN:=Lib.hid hn
     clear hn
     have hr0:=R.rc _ _ _ HN.out.rep
     obtain ⟨b0,b1,b2,b3⟩:=R.blk _ _ _ HN.out.rep
     go_wp2_with (first | (go_at_call 28; refine (multi_sizeM _ _ _ _ _ _ b0 hr0).mono ?_; rintro e w' ⟨rfl,hw'⟩; subst hw') | (go_at_call 45; refine (multi_noM _ _ _ b0).mono ?_; rintro e w' ⟨rfl,hw'⟩; subst hw'))
     refine hK _ _ (fun _=>rfl) ?_
     clear hK K hr0 b0 b1 b2 b3))
 with_reducible refine Lg.mv_region _ ?_
 refine Lg.pre 0 5 2 (by simp) fun K hK y τ n' hy=>?_
 subst hy
 have hn:=HN.out.re hk
 clear HN
 have HN:=Lib.hid hn
 clear hn
 have hr0:=R.rc _ _ _ HN.out.rep
 obtain ⟨b0,b1,b2,b3⟩:=R.blk _ _ _ HN.out.rep
 simp only [List.drop_zero,List.take_succ_cons,List.take_zero]
 go_wp2
 refine hK _ _ (fun _=>rfl) ?_
 clear hK K hr0 b0 b1 b2 b3
 refine Lg.call (i:=5) (rest:=[6]) (f:=47) (args:=#[.pointer (some ⟨M.cb,0,none⟩),V]) rfl rfl (fun y=>by go_simp) (R.cur.load _ _ _ _ _ HN.out _) ?_
 rintro vv t' w' ⟨x,s,H,rfl,hxc,rfl,hn⟩
 clear HN
 have HXC:=Lib.hid hxc
 clear hxc
 rw [Frame.finish_at]
 walk_nrm
 have HN:=Lib.hid hn
 clear hn
 refine (show L.T _ (Frame.at _ ⟨_,[]⟩ (.inRegion _ (List.range' 6 (1 + 0)) :: _)) (c :: mid) _ from ?_)
 refine Lg.pre 6 1 0 (by simp) fun K hK y τ n' hy=>?_
 subst hy
 have hn:=HN.out.re hk
 clear HN
 have HN:=Lib.hid hn
 clear hn
 have hr0:=R.rc _ _ _ HN.out.rep
 obtain ⟨b0,b1,b2,b3⟩:=R.blk _ _ _ HN.out.rep
 simp only [List.drop_succ_cons,List.drop_zero,List.take_succ_cons,List.take_zero]
 go_wp2
 refine hK _ _ (fun _=>rfl) ?_
 clear hK K hr0 b0 b1 b2 b3
 refine Lg.move _ (fun _ _=>step_region_end) (fun h=>h) ?_
 with_reducible refine Lg.mv_ret _ ?_
 exact Lg.leave rfl Try.func29 rfl (v:=.int .i64 x) (fun _ _ _ _=>by simp [results,Try.f29]) (HR.out _ _ _ ⟨x,s,H,rfl,HXC.out,rfl,HN.out⟩)
theorem multi_cursorT {D : OpsD} {rl : RLens D.A} {cl el : WLens D.A} {M : MIds} {L : Lg Try.prog (Tree D.St D.St)} {Cap : (Nat→Prop)→World→Prop} {V : Value} (R : MultiIn D L Cap V rl cl el M) (hk : CapK Cap) (H0 : Nat→Prop) (w0 : World) (s : D.St) (H : Nat→Prop) (w : World) (hn : Now D Cap H0 w0 s H w) (k : Int→D.St→Tree D.St D.St) : Ccalls L 29 #[.pointer (some ⟨M.mb,0,none⟩),V] (loadW cl s k) w fun u t' w'=>∃ x s' H',u = .int .i64 x∧t' = k x s'∧Now D Cap H0 w0 s' H' w':=
 (multi_cursorX R hk H0 w0 s H w hn k).mono fun u t' w' ⟨x,s',H',h1,_,h2,h3⟩=>⟨x,s',H',h1,h2,h3⟩
def laysT {A : Type} (rl : RLens A) (M : MIds) (b : Int) : List Int→Nat→St2 A→(St2 A→Tree (St2 A) (St2 A))→Tree (St2 A) (St2 A)
 | [],_,s,k=>k s
 | v :: vs,j,s,k=>putG rl M.n (b + j) v s fun _ s=>laysT rl M b vs (j + 1) s k
def offerT {A : Type} (rl : RLens A) (cl el : WLens A) (M : MIds) (hT : HoldT (St2 A)) (vs : List Int) (s : St2 A) (k : Int→Int→St2 A→Tree (St2 A) (St2 A)) : Tree (St2 A) (St2 A):=
 claimM rl cl el M hT vs.length s fun x e s=>if e = 0 then laysT rl M (x - vs.length + 1) vs 0 s fun s=>k x 0 s else k 0 e s
abbrev frOf (f : Nat→Value) : Array Value:=#[f 0,f 1,f 2,f 3,f 4,f 5,f 6,f 7,f 8,f 9,f 10,f 11,f 12,f 13,f 14,f 15,f 16,f 17,f 18,f 19,f 20,f 21,f 22,f 23,f 24,f 25,f 26,f 27,f 28,f 29,f 30,f 31,f 32,f 33,f 34,f 35,f 36,f 37,f 38,f 39,f 40,f 41,f 42,f 43,f 44,f 45,f 46]
set_option maxHeartbeats 4000000 in
set_option maxRecDepth 100000 in
theorem multi_offerT {D : OpsD} {rl : RLens D.A} {cl el : WLens D.A} {M : MIds} {L : Lg Try.prog (Tree D.St D.St)} {Cap : (Nat→Prop)→World→Prop} {V : Value} (R : MultiIn D L Cap V rl cl el M) (hk : CapK Cap) (H0 : Nat→Prop) (w0 : World) (s : D.St) (H : Nat→Prop) (w : World) (hn : Now D Cap H0 w0 s H w) {hval : Value} {hT : HoldT D.St} (hh : FreeIn D L Cap V el M hval hT) (hcut : ∀ fr mid x,L.T .cut fr mid x) (wb : World) (vA : Option Addr) (vc : Nat) (vs : List Int) (hrow : OutRow D wb H0 w0 (.slice vA vs.length vc) vs) (hvl : vs.length≤65537) (k : Int→Int→D.St→Tree D.St D.St) :
  Ccalls L 23 #[.pointer (some ⟨M.mb,0,none⟩),V,hval,.slice vA vs.length vc] (offerT rl cl el M hT vs s k) w fun u t' w'=>∃ x e s' H',u = .tuple #[.int .i64 x,.int .i64 e]∧t' = k x e s'∧Now D Cap H0 w0 s' H' w':=by
 have hROW:=Lib.hid hrow
 clear hrow
 intro c mid hR
 have HR:=Lib.hid hR
 have HN:=Lib.hid hn
 clear hR hn
 rw [show Frame.enter Try.prog 23 #[.pointer (some ⟨M.mb,0,none⟩),V,hval,.slice vA vs.length vc] .normal = Frame.at { (default : Frame) with fn:=23,kind:=.normal } ⟨#[.pointer (some ⟨M.mb,0,none⟩),V,hval,.slice vA vs.length vc] ++ Array.replicate (Try.f23.ntmps - 4) undef,[]⟩ [.code (Try.f23.body.getD .skip)] from by simp [Frame.enter,Frame.at,Try.func23]; rfl]
 simp only [Try.f23,Option.getD_some,Nat.reduceSub,Array.replicate_succ,Array.replicate_zero,List.push_toArray,List.append_toArray,List.nil_append,List.cons_append]
 unfold offerT
 obtain ⟨n,hn0⟩ : ∃ n,n = vs.length:=⟨_,rfl⟩
 rw [← hn0]
 have HNL:=Lib.hid hn0
 rw [← hn0] at hvl
 clear hn0
 repeat (first
  | with_reducible refine Lg.mv_seq _ ?_
  | with_reducible refine Lg.mv_skip _ ?_
  | with_reducible refine Lg.mv_block _ ?_
  | with_reducible refine Lg.mv_inBlock _ ?_
  | with_reducible refine Lg.mv_end _ ?_
  | ((with_reducible refine Lg.mv_condT _ ?_ ?_); exact rfl)
  | ((with_reducible refine Lg.mv_condF _ ?_ ?_); exact rfl)
  | ((with_reducible apply Lg.mv_exit); exact rfl)
  | (with_reducible refine Lg.mv_reg _ ?_
     intro K hK y τ n' hy
     subst hy
     have hn:=HN.out.re hk
     clear HN
     have HN:=Lib.hid hn
     clear hn
     have hr0:=R.rc _ _ _ HN.out.rep
     obtain ⟨b0,b1,b2,b3⟩:=R.blk _ _ _ HN.out.rep
     go_wp2_with (first | (go_at_call 28; refine (multi_sizeM _ _ _ _ _ _ b0 hr0).mono ?_; rintro e w' ⟨rfl,hw'⟩; subst hw') | (go_at_call 45; refine (multi_noM _ _ _ b0).mono ?_; rintro e w' ⟨rfl,hw'⟩; subst hw'))
     refine hK _ _ (fun _=>rfl) ?_
     clear hK K hr0 b0 b1 b2 b3))
 with_reducible refine Lg.mv_region _ ?_
 refine Lg.pre 0 4 6 (by simp) fun K hK y τ n' hy=>?_
 subst hy
 have hn:=HN.out.re hk
 clear HN
 have HN:=Lib.hid hn
 clear hn
 have hr0:=R.rc _ _ _ HN.out.rep
 obtain ⟨b0,b1,b2,b3⟩:=R.blk _ _ _ HN.out.rep
 simp only [List.drop_zero,List.take_succ_cons,List.take_zero]
 go_wp2
 refine hK _ _ (fun _=>rfl) ?_
 clear hK K hr0 b0 b1 b2 b3
 refine Lg.call (i:=4) (rest:=[5,6,7,8,9]) (f:=42) (args:=#[.pointer (some ⟨M.mb,0,none⟩),V,hval,.int .i64 n]) rfl rfl (fun y=>by go_simp) (multi_claimT R hk _ _ _ _ _ HN.out hh hcut n _) ?_
 rintro vv t' w' ⟨x,e,s,H,rfl,hxb,rfl,hn⟩
 clear HN
 by_cases he : e = 0
 ·subst he
  refine (show L.T (laysT rl M (x - n + 1) vs 0 s fun s=>k x 0 s) _ _ _ from ?_)
  rw [Frame.finish_at]
  walk_nrm
  have HN:=Lib.hid hn
  clear hn
  refine (show L.T _ (Frame.at _ ⟨_,[]⟩ (.inRegion _ (List.range' 5 (5 + 0)) :: _)) (c :: mid) _ from ?_)
  refine Lg.pre 5 5 0 (by simp) fun K hK y τ n' hy=>?_
  subst hy
  have hn:=HN.out.re hk
  clear HN
  have HN:=Lib.hid hn
  clear hn
  have hr0:=R.rc _ _ _ HN.out.rep
  obtain ⟨b0,b1,b2,b3⟩:=R.blk _ _ _ HN.out.rep
  simp only [List.drop_succ_cons,List.drop_zero,List.take_succ_cons,List.take_zero]
  go_wp2
  refine hK _ _ (fun _=>rfl) ?_
  clear hK K hr0 b0 b1 b2 b3
  refine Lg.move _ (fun _ _=>step_region_end) (fun h=>h) ?_
  repeat (first
   | with_reducible refine Lg.mv_seq _ ?_
   | with_reducible refine Lg.mv_skip _ ?_
   | with_reducible refine Lg.mv_block _ ?_
   | with_reducible refine Lg.mv_inBlock _ ?_
   | with_reducible refine Lg.mv_end _ ?_
   | ((with_reducible refine Lg.mv_condT _ ?_ ?_); exact rfl)
   | ((with_reducible refine Lg.mv_condF _ ?_ ?_); exact rfl)
   | ((with_reducible apply Lg.mv_exit); exact rfl)
   | (with_reducible refine Lg.mv_reg _ ?_
      intro K hK y τ n' hy
      subst hy
      have hn:=HN.out.re hk
      clear HN
      have HN:=Lib.hid hn
      clear hn
      have hr0:=R.rc _ _ _ HN.out.rep
      obtain ⟨b0,b1,b2,b3⟩:=R.blk _ _ _ HN.out.rep
      go_wp2_with (first | (go_at_call 28; refine (multi_sizeM _ _ _ _ _ _ b0 hr0).mono ?_; rintro e w' ⟨rfl,hw'⟩; subst hw') | (go_at_call 45; refine (multi_noM _ _ _ b0).mono ?_; rintro e w' ⟨rfl,hw'⟩; subst hw'))
      refine hK _ _ (fun _=>rfl) ?_
      clear hK K hr0 b0 b1 b2 b3))
  refine Lg.family frOf (R:=fun f=>f 0 = .pointer (some ⟨M.mb,0,none⟩)∧f 1 = V∧f 10 = .int .i64 n∧f 11 = .int .i64 x∧f 28 = .slice vA n vc∧f 29 = .int .i64 n∧f 30 = .int .i64 0) ?_ (by rfl) ⟨rfl,rfl,rfl,rfl,rfl,rfl,rfl⟩
  rintro f1 ⟨n0,n1,n10,n11,n28,n29,n30⟩
  refine Lg.loop_fr frOf (fun f t w=>∃ j : Nat,j≤n∧∃ s' H',f 0 = .pointer (some ⟨M.mb,0,none⟩)∧f 1 = V∧f 10 = .int .i64 n∧f 11 = .int .i64 x∧f 28 = .slice vA n vc∧f 29 = .int .i64 n∧f 30 = .int .i64 j∧t = laysT rl M (x - n + 1) (vs.drop j) j s' (fun s=>k x 0 s)∧Now D Cap H0 w0 s' H' w) (fun f _ _=>n - (intOf (f 30)).toNat) ⟨0,Nat.zero_le _,s,H,n0,n1,n10,n11,n28,n29,n30,by rw [List.drop_zero],HN.out⟩ ?_
  clear HN n0 n1 n10 n11 n28 n29 n30 f1 s H
  rintro f2 t w2 ⟨j,hj,s,H,k0,k1,k10,k11,k28,k29,k30,rfl,hn⟩ hnext
  have HX:=Lib.hid hnext
  have HN:=Lib.hid hn
  clear hnext hn
  simp only [frOf,k0,k1,k10,k11,k28,k29,k30]
  by_cases hlt : j < n
  ·have hd : decide (j < n) = true:=decide_eq_true hlt
   have hjl : j < vs.length:=by have:=HNL.out; omega
   have hdr:=List.drop_eq_getElem_cons hjl
   obtain ⟨v,hv⟩ : ∃ v,v = vs[j]:=⟨_,rfl⟩
   rw [← hv] at hdr
   have HV:=Lib.hid hv
   clear hv
   rw [hdr]
   clear hdr
   have hb0 : (0 : Int)≤j:=by omega
   have hb1 : (j : Int) < n:=by omega
   with_reducible refine Lg.mv_seq _ ?_
   with_reducible refine Lg.mv_reg _ ?_
   intro K hK y τ n' hy
   subst hy
   have hn:=HN.out.re hk
   clear HN
   have HN:=Lib.hid hn
   clear hn
   have hr0:=R.rc _ _ _ HN.out.rep
   obtain ⟨b0,b1,b2,b3⟩:=R.blk _ _ _ HN.out.rep
   go_wp2_with (first | (go_at_call 28; refine (multi_sizeM _ _ _ _ _ _ b0 hr0).mono ?_; rintro e w' ⟨rfl,hw'⟩; subst hw') | (go_at_call 45; refine (multi_noM _ _ _ b0).mono ?_; rintro e w' ⟨rfl,hw'⟩; subst hw'))
   refine hK _ _ (fun _=>rfl) ?_
   clear hK K hr0 b0 b1 b2 b3
   with_reducible refine Lg.mv_seq _ ?_
   ((with_reducible refine Lg.mv_condT _ ?_ ?_); exact rfl)
   with_reducible refine Lg.mv_skip _ ?_
   with_reducible refine Lg.mv_seq _ ?_
   with_reducible refine Lg.mv_block _ ?_
   with_reducible refine Lg.mv_seq _ ?_
   with_reducible refine Lg.mv_reg _ ?_
   intro K hK y τ n' hy
   subst hy
   have hn:=HN.out.re hk
   clear HN
   have HN:=Lib.hid hn
   clear hn
   have hown:=(hROW.out.held HN.out.held).own
   obtain ⟨g,o,hvA,hcell⟩:=(IntsAt.of_own hown).fix (by omega)
   have hc:=hcell j hjl
   rw [List.getD_eq_getElem?_getD,List.getElem?_eq_getElem hjl,Option.getD_some,← HV.out] at hc
   clear hcell hown
   subst hvA
   go_wp2
   refine hK _ _ (fun _=>rfl) ?_
   clear hK K hc
   obtain ⟨hx0,hx1,-⟩:=hxb
   with_reducible refine Lg.mv_region _ ?_
   refine Lg.pre 0 9 1 (by simp) fun K hK y τ n' hy=>?_
   subst hy
   have hn:=HN.out.re hk
   clear HN
   have HN:=Lib.hid hn
   clear hn
   have hr0:=R.rc _ _ _ HN.out.rep
   obtain ⟨b0,b1,b2,b3⟩:=R.blk _ _ _ HN.out.rep
   simp only [List.drop_zero,List.take_succ_cons,List.take_zero]
   go_wp2
   refine hK _ _ (fun _=>rfl) ?_
   clear hK K hr0 b0 b1 b2 b3
   refine (show L.T (putG rl M.n (x - n + 1 + j) v s fun _ s=>laysT rl M (x - n + 1) (vs.drop (j + 1)) (j + 1) s fun s=>k x 0 s) _ _ _ from ?_)
   refine Lg.call (i:=9) (rest:=[]) (f:=43) (args:=#[.pointer (some ⟨M.mb,0,none⟩),V,.int .i64 (x - n + 1 + j),.int .i64 v]) rfl rfl (fun y=>by go_simp) (multi_writeT R hk _ _ _ _ _ HN.out _ v _) ?_
   rintro vv t' w' ⟨e,s,H,rfl,rfl,hn⟩
   clear HN
   rw [Frame.finish_at]
   walk_nrm
   have HN:=Lib.hid hn
   clear hn
   with_reducible refine Lg.mv_end _ ?_
   repeat (first
    | with_reducible refine Lg.mv_seq _ ?_
    | with_reducible refine Lg.mv_skip _ ?_
    | with_reducible refine Lg.mv_block _ ?_
    | with_reducible refine Lg.mv_inBlock _ ?_
    | with_reducible refine Lg.mv_end _ ?_
    | ((with_reducible refine Lg.mv_condT _ ?_ ?_); exact rfl)
    | ((with_reducible refine Lg.mv_condF _ ?_ ?_); exact rfl)
    | ((with_reducible apply Lg.mv_exit); exact rfl)
    | (with_reducible refine Lg.mv_reg _ ?_
       intro K hK y τ n' hy
       subst hy
       have hn:=HN.out.re hk
       clear HN
       have HN:=Lib.hid hn
       clear hn
       have hr0:=R.rc _ _ _ HN.out.rep
       obtain ⟨b0,b1,b2,b3⟩:=R.blk _ _ _ HN.out.rep
       go_wp2_with (first | (go_at_call 28; refine (multi_sizeM _ _ _ _ _ _ b0 hr0).mono ?_; rintro e w' ⟨rfl,hw'⟩; subst hw') | (go_at_call 45; refine (multi_noM _ _ _ b0).mono ?_; rintro e w' ⟨rfl,hw'⟩; subst hw'))
       refine hK _ _ (fun _=>rfl) ?_
       clear hK K hr0 b0 b1 b2 b3))
   refine Lg.family frOf (R:=fun f=>f 0 = .pointer (some ⟨M.mb,0,none⟩)∧f 1 = V∧f 10 = .int .i64 n∧f 11 = .int .i64 x∧f 28 = .slice (some ⟨g,o,none⟩) n vc∧f 29 = .int .i64 n∧f 30 = .int .i64 ((j + 1 : Nat) : Int)) ?_ (by rfl) ⟨rfl,rfl,rfl,rfl,rfl,rfl,by simp⟩
   rintro f' ⟨p0,p1,p10,p11,p28,p29,p30⟩
   exact HX.out f' _ _ ⟨j + 1,by omega,s,H,p0,p1,p10,p11,p28,p29,p30,rfl,HN.out⟩ (by rw [p30,k30]; simp only [intOf]; omega)
  ·have hd : decide (j < n) = false:=decide_eq_false hlt
   obtain rfl : j = n:=by omega
   rw [show vs.drop j = [] from List.drop_eq_nil_of_le (by have:=HNL.out; omega),show laysT rl M (x - j + 1) [] j s (fun s=>k x 0 s) = k x 0 s from rfl]
   repeat (first
    | with_reducible refine Lg.mv_seq _ ?_
    | with_reducible refine Lg.mv_skip _ ?_
    | with_reducible refine Lg.mv_block _ ?_
    | with_reducible refine Lg.mv_inBlock _ ?_
    | with_reducible refine Lg.mv_end _ ?_
    | ((with_reducible refine Lg.mv_condT _ ?_ ?_); exact rfl)
    | ((with_reducible refine Lg.mv_condF _ ?_ ?_); exact rfl)
    | ((with_reducible apply Lg.mv_exit); exact rfl)
    | (with_reducible refine Lg.mv_reg _ ?_
       intro K hK y τ n' hy
       subst hy
       have hn:=HN.out.re hk
       clear HN
       have HN:=Lib.hid hn
       clear hn
       have hr0:=R.rc _ _ _ HN.out.rep
       obtain ⟨b0,b1,b2,b3⟩:=R.blk _ _ _ HN.out.rep
       go_wp2_with (first | (go_at_call 28; refine (multi_sizeM _ _ _ _ _ _ b0 hr0).mono ?_; rintro e w' ⟨rfl,hw'⟩; subst hw') | (go_at_call 45; refine (multi_noM _ _ _ b0).mono ?_; rintro e w' ⟨rfl,hw'⟩; subst hw'))
       refine hK _ _ (fun _=>rfl) ?_
       clear hK K hr0 b0 b1 b2 b3))
   with_reducible refine Lg.mv_ret _ ?_
   exact Lg.leave rfl Try.func23 rfl (v:=.tuple #[.int .i64 x,.int .i64 0]) (fun _ _ _ _=>by simp [results,Try.f23]) (HR.out _ _ _ ⟨x,0,s,H,rfl,rfl,HN.out⟩)
 ·rw [if_neg he]
  have hd : (e != 0) = true:=by simpa using he
  clear he
  rw [Frame.finish_at]
  walk_nrm
  have HN:=Lib.hid hn
  clear hn
  refine (show L.T _ (Frame.at _ ⟨_,[]⟩ (.inRegion _ (List.range' 5 (5 + 0)) :: _)) (c :: mid) _ from ?_)
  refine Lg.pre 5 5 0 (by simp) fun K hK y τ n' hy=>?_
  subst hy
  have hn:=HN.out.re hk
  clear HN
  have HN:=Lib.hid hn
  clear hn
  have hr0:=R.rc _ _ _ HN.out.rep
  obtain ⟨b0,b1,b2,b3⟩:=R.blk _ _ _ HN.out.rep
  simp only [List.drop_succ_cons,List.drop_zero,List.take_succ_cons,List.take_zero]
  go_wp2
  refine hK _ _ (fun _=>rfl) ?_
  clear hK K hr0 b0 b1 b2 b3
  refine Lg.move _ (fun _ _=>step_region_end) (fun h=>h) ?_
  repeat (first
   | with_reducible refine Lg.mv_seq _ ?_
   | with_reducible refine Lg.mv_skip _ ?_
   | with_reducible refine Lg.mv_block _ ?_
   | with_reducible refine Lg.mv_inBlock _ ?_
   | with_reducible refine Lg.mv_end _ ?_
   | ((with_reducible refine Lg.mv_condT _ ?_ ?_); exact rfl)
   | ((with_reducible refine Lg.mv_condF _ ?_ ?_); exact rfl)
   | ((with_reducible apply Lg.mv_exit); exact rfl)
   | (with_reducible refine Lg.mv_reg _ ?_
      intro K hK y τ n' hy
      subst hy
      have hn:=HN.out.re hk
      clear HN
      have HN:=Lib.hid hn
      clear hn
      have hr0:=R.rc _ _ _ HN.out.rep
      obtain ⟨b0,b1,b2,b3⟩:=R.blk _ _ _ HN.out.rep
      go_wp2_with (first | (go_at_call 28; refine (multi_sizeM _ _ _ _ _ _ b0 hr0).mono ?_; rintro e w' ⟨rfl,hw'⟩; subst hw') | (go_at_call 45; refine (multi_noM _ _ _ b0).mono ?_; rintro e w' ⟨rfl,hw'⟩; subst hw'))
      refine hK _ _ (fun _=>rfl) ?_
      clear hK K hr0 b0 b1 b2 b3))
  with_reducible refine Lg.mv_ret _ ?_
  exact Lg.leave rfl Try.func23 rfl (v:=.tuple #[.int .i64 0,.int .i64 e]) (fun _ _ _ _=>by simp [results,Try.f23]) (HR.out _ _ _ ⟨0,e,s,H,rfl,rfl,HN.out⟩)
def M0 (n : Nat) (fs : Int) : MIds:=⟨0,0,0,0,0,n,fs⟩
section
variable {A : Type} (rl : RLens A) (cl el : WLens A) (hT : HoldT (St2 A))
theorem freeT_eq (M : MIds) (c n : Int) (s : St2 A) (k) : freeT el M hT c n s k = freeT el (M0 M.n M.first) hT c n s k:=rfl
theorem wrotL_eq (M : MIds) : ∀ (m : Nat) (q : Int) (s : St2 A) k,wrotL rl M m q s k = wrotL rl (M0 M.n M.first) m q s k
 | 0,_,_,_=>rfl
 | m + 1,q,s,k=>by
   show (if M.first≤q then thereG rl M.n q s _ else _) = (if M.first≤q then thereG rl M.n q s _ else _)
   have : (fun (b : Bool) s=>if b then wrotL rl M m (q + 1) s k else k false s) = fun (b : Bool) s=>if b then wrotL rl (M0 M.n M.first) m (q + 1) s k else k false s:=by
    funext b s
    rw [wrotL_eq M m (q + 1) s k]
   rw [this,wrotL_eq M m (q + 1) s k]
theorem claimL_eq (M : MIds) (n : Int) : ∀ (f : Nat) (s : St2 A) k,claimL rl cl el M hT n f s k = claimL rl cl el (M0 M.n M.first) hT n f s k
 | 0,_,_=>rfl
 | f + 1,s,k=>by
   simp only [claimL]
   congr 1
   funext c s
   congr 1
   refine (freeT_eq el hT M c n s _).trans ?_
   congr 1
   funext b s
   congr 1
   rw [wrotL_eq]
   have h1 : ∀ s k,claimL rl cl el M hT n f s k = claimL rl cl el (M0 M.n M.first) hT n f s k:=fun s k=>claimL_eq M n f s k
   simp only [h1]
   rfl
theorem claimM_eq (M : MIds) (n : Int) (s : St2 A) (k) : claimM rl cl el M hT n s k = claimM rl cl el (M0 M.n M.first) hT n s k:=by
 unfold claimM
 rw [claimL_eq]
 rfl
theorem laysT_eq (M : MIds) (b : Int) : ∀ (vs : List Int) (j : Nat) (s : St2 A) k,laysT rl M b vs j s k = laysT rl (M0 M.n M.first) b vs j s k
 | [],_,_,_=>rfl
 | v :: vs,j,s,k=>by
   show putG rl M.n (b + j) v s _ = putG rl M.n (b + j) v s _
   have : (fun (_ : Int) s=>laysT rl M b vs (j + 1) s k) = fun (_ : Int) s=>laysT rl (M0 M.n M.first) b vs (j + 1) s k:=by
    funext _ s
    exact laysT_eq M b vs (j + 1) s k
   rw [this]
theorem offerT_eq (M : MIds) (vs : List Int) (s : St2 A) (k) : offerT rl cl el M hT vs s k = offerT rl cl el (M0 M.n M.first) hT vs s k:=by
 unfold offerT
 rw [claimM_eq]
 have : ∀ b vs j s k,laysT rl M b vs j s k = laysT rl (M0 M.n M.first) b vs j s k:=laysT_eq rl M
 simp only [this]
end
end Go.Proofs.Ytlhbonnminlnlaa
