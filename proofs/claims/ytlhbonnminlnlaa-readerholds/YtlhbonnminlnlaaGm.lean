/- DERIVED. The world of a run of readers among threads: operations of the kinds 1, 2. -/
import Derived.Test.YtlhbonnminlnlaaGl
set_option linter.unusedVariables false
set_option linter.unusedSectionVars false
set_option linter.unusedSimpArgs false
namespace Go.Proofs.Ytlhbonnminlnlaa
open Go.RowKit Go.Turn Go.Tame Go.Conc
open Go.ConcN (upd upd_ne upd_same)
def foS (j : Nat) (x : Int) (s : RSS) : RSS:=({ s.1 with fn:=upd s.1.fn j x },s.2)
def folE (lost : Int) (ls : List Int) (s : RSS) (k : List Int→Int→Int→RSS→Tree RSS RSS) : Tree RSS RSS:=
 if ls = [] then k [] lost 4 s else k ls lost 0 s
def folL (n j : Nat) (c lost : Int) : Nat→Int→List Int→RSS→(List Int→Int→Int→RSS→Tree RSS RSS)→Tree RSS RSS
 | 0,q,ls,s,k=>folE lost ls s k
 | f + 1,q,ls,s,k=>if q≤c then getG rrl n q s fun v e s=>if e = 0 then (if s.1.fn j = q then folL n j c lost f (q + 1) (ls ++ [v]) (foS j (q + 1) s) k else .cut) else folE lost ls s k else folE lost ls s k
def followT (n j : Nat) (most : Int) (s : RSS) (k : List Int→Int→Int→RSS→Tree RSS RSS) : Tree RSS RSS:=
 loadW rcl s fun c s=>if s.1.fn j≤c - n then folL n j c (c - n + 1 - s.1.fn j) (min (max most 1) n).toNat (c - n + 1) [] (foS j (c - n + 1) s) k
  else folL n j c 0 (min (max most 1) n).toNat (s.1.fn j) [] s k
def FFix (I : RIds) (j : Nat) (q : Int) (w : World) : Prop:=w.cell? ⟨I.fo j,0,none⟩ = some (.pointer (some ⟨I.M.mb,0,none⟩))∧w.cell? ⟨I.fo j,1,none⟩ = some (.int .i64 q)∧w.cell? ⟨I.M.mb,0,none⟩ = some (.pointer (some ⟨I.M.rb,0,none⟩))
def lenV : Value→Nat
 | .slice _ n _=>n
 | _=>0
abbrev frF (f : Nat→Value) : Array Value:=#[f 0,f 1,f 2,f 3,f 4,f 5,f 6,f 7,f 8,f 9,f 10,f 11,f 12,f 13,f 14,f 15,f 16,f 17,f 18,f 19,f 20,f 21,f 22,f 23,f 24,f 25,f 26,f 27,f 28,f 29,f 30,f 31,f 32,f 33,f 34,f 35,f 36,f 37,f 38,f 39,f 40,f 41,f 42,f 43,f 44,f 45,f 46,f 47,f 48,f 49,f 50,f 51,f 52,f 53,f 54,f 55,f 56,f 57,f 58,f 59,f 60,f 61,f 62,f 63,f 64,f 65,f 66,f 67,f 68,f 69,f 70,f 71,f 72,f 73,f 74,f 75,f 76,f 77,f 78,f 79,f 80,f 81,f 82,f 83,f 84,f 85,f 86,f 87,f 88,f 89,f 90,f 91,f 92,f 93,f 94,f 95,f 96,f 97,f 98,f 99,f 100,f 101,f 102,f 103,f 104,f 105,f 106,f 107,f 108,f 109]
set_option maxHeartbeats 4000000 in
set_option maxRecDepth 100000 in
theorem followerT {I : RIds} (hI : I.Ok) {B : OpsB} {good : OpI→Prop} {L : Lg Try.prog (Tree RSS RSS)} {Cap : (Nat→Prop)→World→Prop} {V : Value} (hk : CapK Cap) (hS : SStep (B.on (readY I).inner good) L Cap 75 V) (hS2 : SStep (B.on (readY I).inner good) L Cap 51 V) (hS3 : SStep (B.on (readY I).inner good) L Cap 59 V) (H0 : Nat→Prop) (w0 : World) (s : RSS) (H : Nat→Prop) (w : World) (hn : Now (B.on (readY I).inner good) Cap H0 w0 s H w) (hcut : ∀ fr mid x,L.T .cut fr mid x) (j : Nat) (hj : j < I.k) (most : Int) (hm0 : -9223372036854775808≤most) (hm1 : most < 9223372036854775808) (k : List Int→Int→Int→RSS→Tree RSS RSS) :
  Ccalls L 11 #[.pointer (some ⟨I.fo j,0,none⟩),V,.int .i64 most] (followT I.M.n j most s k) w fun u t' w'=>∃ ls lost e lv s' H',u = .tuple #[lv,.int .i64 lost,.int .i64 e]∧t' = k ls lost e s'∧Now (B.on (readY I).inner good) Cap H0 w0 s' H' w'∧OutRow (B.on (readY I).inner good) w0 H' w' lv ls∧(ls = []→lv = .slice none 0 0)∧ls.length≤65536:=by
 have R:=r_in hI hk hS hS2
 have hn0:=hI.n0
 have hn2:=hI.n2
 intro c mid hR
 have HR:=Lib.hid hR
 have HN:=Lib.hid hn
 clear hR hn
 rw [show Frame.enter Try.prog 11 #[.pointer (some ⟨I.fo j,0,none⟩),V,.int .i64 most] .normal = Frame.at { (default : Frame) with fn:=11,kind:=.normal } ⟨#[.pointer (some ⟨I.fo j,0,none⟩),V,.int .i64 most] ++ Array.replicate (Try.f11.ntmps - 3) undef,[]⟩ [.code (Try.f11.body.getD .skip)] from by simp [Frame.enter,Frame.at,Try.func11]; rfl]
 simp only [Try.f11,Option.getD_some,Nat.reduceSub,Array.replicate_succ,Array.replicate_zero,List.push_toArray,List.append_toArray,List.nil_append,List.cons_append]
 unfold followT
 obtain ⟨X1,e1⟩ : ∃ X1,(if most < 1 then 1 else most) = X1:=⟨_,rfl⟩
 obtain ⟨X2,e2⟩ : ∃ X2,(if (I.M.n : Int) < X1 then (I.M.n : Int) else X1) = X2:=⟨_,rfl⟩
 have e0 : (if (I.M.n : Int) < 1 then 1 else (I.M.n : Int)) = I.M.n:=if_neg (by omega)
 obtain ⟨x0,x1,x2⟩ : 1≤X2∧X2≤I.M.n∧min (max most 1) I.M.n = X2:=by
  rw [← e2,← e1]
  split <;> split <;> omega
 rw [x2]
 clear x2
 repeat (first
  | with_reducible refine Lg.mv_seq _ ?_
  | with_reducible refine Lg.mv_skip _ ?_
  | with_reducible refine Lg.mv_block _ ?_
  | with_reducible refine Lg.mv_inBlock _ ?_
  | with_reducible refine Lg.mv_end _ ?_
  | ((with_reducible refine Lg.mv_condT _ ?_ ?_); exact rfl)
  | ((with_reducible refine Lg.mv_condF _ ?_ ?_); exact rfl)
  | ((with_reducible apply Lg.mv_exit); exact rfl)
  | (with_reducible refine Lg.mv_reg _ ?_
     intro K hK y τ n' hy
     subst hy
     have hn:=HN.out.re hk
     clear HN
     have HN:=Lib.hid hn
     clear hn
     obtain ⟨d0,d1⟩:=Lay.At.foc hI (show (readY I).At s.1 _ from HN.out.rep.at_) hj
     have hr0:=R.rc _ _ _ HN.out.rep
     obtain ⟨b0,-⟩:=R.blk _ _ _ HN.out.rep
     go_wp2_with (go_at_call 28; refine (multi_sizeM _ _ _ _ _ _ b0 hr0).mono ?_; rintro e w' ⟨rfl,hw'⟩; subst hw')
     refine hK _ _ (fun _=>rfl) ?_
     clear hK K d0 d1 hr0 b0))
 clear e0 e1 e2
 obtain ⟨N,rfl⟩ : ∃ N : Nat,X2 = N:=⟨X2.toNat,by omega⟩
 simp only [Int.toNat_natCast]
 with_reducible refine Lg.mv_region _ ?_
 refine Lg.pre 0 5 3 (by simp) fun K hK y τ n' hy=>?_
 subst hy
 have hn:=HN.out.re hk
 clear HN
 have HN:=Lib.hid hn
 clear hn
 obtain ⟨d0,d1⟩:=Lay.At.foc hI (show (readY I).At s.1 _ from HN.out.rep.at_) hj
 simp only [List.drop_zero,List.take_succ_cons,List.take_zero]
 go_wp2
 refine hK _ _ (fun _=>rfl) ?_
 clear hK K d0 d1
 refine Lg.call (i:=5) (rest:=[6,7]) (f:=29) (args:=#[.pointer (some ⟨I.M.mb,0,none⟩),V]) rfl rfl (fun y=>by go_simp) (multi_cursorX R hk _ _ _ _ _ HN.out _) ?_
 rintro vv t' w' ⟨z,s,H,rfl,hz,rfl,hn⟩
 have hzb:=R.bd _ _ _ hn.rep
 rw [← hz] at hzb
 clear HN hz
 rw [Frame.finish_at]
 walk_nrm
 have HN:=Lib.hid hn
 clear hn
 refine (show L.T _ (Frame.at _ ⟨_,[]⟩ (.inRegion _ (List.range' 6 (2 + 0)) :: _)) (c :: mid) _ from ?_)
 refine Lg.pre 6 2 0 (by simp) fun K hK y τ n' hy=>?_
 subst hy
 have hn:=HN.out.re hk
 clear HN
 have HN:=Lib.hid hn
 clear hn
 obtain ⟨d0,d1⟩:=Lay.At.foc hI (show (readY I).At s.1 _ from HN.out.rep.at_) hj
 simp only [List.drop_succ_cons,List.drop_zero,List.take_succ_cons,List.take_zero]
 go_wp2
 refine hK _ _ (fun _=>rfl) ?_
 clear hK K d0 d1
 refine Lg.move _ (fun _ _=>step_region_end) (fun h=>h) ?_
 obtain ⟨q,hq⟩ : ∃ q,s.1.fn j = q:=⟨_,rfl⟩
 have hqb:=(show (readY I).At s.1 _ from HN.out.rep.at_).ok.fn j
 rw [hq] at hqb ⊢
 obtain ⟨hz0,hz1⟩:=hzb
 obtain ⟨hq0,hq1⟩:=hqb
 have HQ:=Lib.hid hq
 clear hq
 have hout : OutRow (B.on (readY I).inner good) w0 H _ (.slice none 0 0) []:=OutRow.nil (w:=y)
 have HO:=Lib.hid hout
 clear hout
 with_reducible refine Lg.mv_seq _ ?_
 with_reducible refine Lg.mv_seq _ ?_
 by_cases hc : q≤z - I.M.n
 case' pos =>
  rw [if_pos hc]
  have hd : decide (q≤z - I.M.n) = true:=decide_eq_true hc
  with_reducible refine Lg.mv_reg _ ?_
  intro K hK y τ n' hy
  subst hy
  have hn:=HN.out.re hk
  have hout:=HO.out.re
  clear HN HO
  have HN:=Lib.hid hn
  have HO:=Lib.hid hout
  clear hn hout
  obtain ⟨d0,d1⟩:=Lay.At.foc hI (show (readY I).At s.1 _ from HN.out.rep.at_) hj
  rw [HQ.out] at d1
  go_wp2
  refine hK _ _ (fun _=>rfl) ?_
  clear hK K d0 d1
  clear hd
  repeat (first
   | with_reducible refine Lg.mv_seq _ ?_
   | with_reducible refine Lg.mv_skip _ ?_
   | with_reducible refine Lg.mv_block _ ?_
   | with_reducible refine Lg.mv_inBlock _ ?_
   | with_reducible refine Lg.mv_end _ ?_
   | ((with_reducible refine Lg.mv_condT _ ?_ ?_); exact rfl)
   | ((with_reducible refine Lg.mv_condF _ ?_ ?_); exact rfl)
   | ((with_reducible apply Lg.mv_exit); exact rfl))
  with_reducible refine Lg.mv_reg _ ?_
  intro K hK y τ n' hy
  subst hy
  have hn:=HN.out.re hk
  have hout:=HO.out.re
  clear HN HO
  have HN:=Lib.hid hn
  have HO:=Lib.hid hout
  clear hn hout
  obtain ⟨d0,d1⟩:=Lay.At.foc hI (show (readY I).At s.1 _ from HN.out.rep.at_) hj
  rw [HQ.out] at d1
  go_wp2
  refine hK _ _ (fun _=>rfl) ?_
  clear hK K d0 d1
  repeat (first
   | with_reducible refine Lg.mv_seq _ ?_
   | with_reducible refine Lg.mv_skip _ ?_
   | with_reducible refine Lg.mv_block _ ?_
   | with_reducible refine Lg.mv_inBlock _ ?_
   | with_reducible refine Lg.mv_end _ ?_
   | ((with_reducible refine Lg.mv_condT _ ?_ ?_); exact rfl)
   | ((with_reducible refine Lg.mv_condF _ ?_ ?_); exact rfl)
   | ((with_reducible apply Lg.mv_exit); exact rfl))
  obtain ⟨lost,hlost⟩ : ∃ lost,z - I.M.n + 1 - q = lost:=⟨_,rfl⟩
  obtain ⟨q1,hq1e⟩ : ∃ q1,q + lost = q1:=⟨_,rfl⟩
  have hqq : z - I.M.n + 1 = q1:=by omega
  have hb : 0≤q1∧q1≤4611686018427387904∧0≤lost∧lost≤4611686018427387904:=by omega
  rw [hlost,hqq]
  with_reducible refine Lg.mv_reg _ ?_
  intro K hK y τ n' hy
  subst hy
  have hn:=HN.out.re hk
  have hout:=HO.out.re
  clear HN HO
  have HN:=Lib.hid hn
  have HO:=Lib.hid hout
  clear hn hout
  obtain ⟨d0,d1⟩:=Lay.At.foc hI (show (readY I).At s.1 _ from HN.out.rep.at_) hj
  rw [HQ.out] at d1
  have q4:=Lay.At.foz hI (show (readY I).At s.1 _ from HN.out.rep.at_) hj 1
  have HS:=Lib.hid (r_fn hI HN.out.rep hj q1 hb.1 hb.2.1)
  go_wp2
  refine hK _ _ (fun _=>rfl) ?_
  clear hK K d0 d1 q4
  have hn:=HN.out.to hk HS.out
  have hout:=HO.out.held HS.out.2
  clear HS HN HO HQ
  generalize World.setCell _ _ _ = y' at hn hout ⊢
  have HN:=Lib.hid (show Now (B.on (readY I).inner good) Cap H0 w0 (foS j q1 s) H y' from hn)
  have HO:=Lib.hid hout
  have HQ:=Lib.hid (show (foS j q1 s).1.fn j = q1 from upd_same _ _ _)
  clear hn hout
  clear hlost hq1e hqq hq0 hq1
  generalize foS j q1 s = s2 at HN HQ ⊢
  repeat (first
   | with_reducible refine Lg.mv_seq _ ?_
   | with_reducible refine Lg.mv_skip _ ?_
   | with_reducible refine Lg.mv_block _ ?_
   | with_reducible refine Lg.mv_inBlock _ ?_
   | with_reducible refine Lg.mv_end _ ?_
   | ((with_reducible refine Lg.mv_condT _ ?_ ?_); exact rfl)
   | ((with_reducible refine Lg.mv_condF _ ?_ ?_); exact rfl)
   | ((with_reducible apply Lg.mv_exit); exact rfl)
   | (with_reducible refine Lg.mv_reg _ ?_
      intro K hK y τ n' hy
      subst hy
      have hn:=HN.out.re hk
      have hout:=HO.out.re
      clear HN HO
      have HN:=Lib.hid hn
      have HO:=Lib.hid hout
      clear hn hout
      go_wp2
      refine hK _ _ (fun _=>rfl) ?_
      clear hK K))
  refine Lg.family frF (R:=fun f=>f 0 = .pointer (some ⟨I.fo j,0,none⟩)∧f 1 = V∧f 2 = .int .i64 N∧f 10 = .int .i64 z∧f 11 = .int .i64 lost∧f 12 = .slice none 0 0) ?_ (by rfl) ⟨rfl,rfl,rfl,rfl,rfl,rfl⟩
  rintro f1 ⟨n0,n1,n2,n10,n11,n12⟩
 case' neg =>
  rw [if_neg hc]
  have hd : decide (q≤z - I.M.n) = false:=decide_eq_false hc
  with_reducible refine Lg.mv_reg _ ?_
  intro K hK y τ n' hy
  subst hy
  have hn:=HN.out.re hk
  have hout:=HO.out.re
  clear HN HO
  have HN:=Lib.hid hn
  have HO:=Lib.hid hout
  clear hn hout
  obtain ⟨d0,d1⟩:=Lay.At.foc hI (show (readY I).At s.1 _ from HN.out.rep.at_) hj
  rw [HQ.out] at d1
  go_wp2
  refine hK _ _ (fun _=>rfl) ?_
  clear hK K d0 d1
  clear hd
  repeat (first
  | with_reducible refine Lg.mv_skip _ ?_
  | ((with_reducible refine Lg.mv_condF _ ?_ ?_); exact rfl)
  | with_reducible refine Lg.mv_end _ ?_)
  obtain ⟨s2,rfl⟩ : ∃ s2,s2 = s:=⟨_,rfl⟩
  obtain ⟨q1,rfl⟩ : ∃ q1,q1 = q:=⟨_,rfl⟩
  repeat (first
   | with_reducible refine Lg.mv_seq _ ?_
   | with_reducible refine Lg.mv_skip _ ?_
   | with_reducible refine Lg.mv_block _ ?_
   | with_reducible refine Lg.mv_inBlock _ ?_
   | with_reducible refine Lg.mv_end _ ?_
   | ((with_reducible refine Lg.mv_condT _ ?_ ?_); exact rfl)
   | ((with_reducible refine Lg.mv_condF _ ?_ ?_); exact rfl)
   | ((with_reducible apply Lg.mv_exit); exact rfl)
   | (with_reducible refine Lg.mv_reg _ ?_
      intro K hK y τ n' hy
      subst hy
      have hn:=HN.out.re hk
      have hout:=HO.out.re
      clear HN HO
      have HN:=Lib.hid hn
      have HO:=Lib.hid hout
      clear hn hout
      go_wp2
      refine hK _ _ (fun _=>rfl) ?_
      clear hK K))
  obtain ⟨lost,hlost⟩ : ∃ lost : Int,lost = 0:=⟨_,rfl⟩
  have hb : 0≤q1∧q1≤4611686018427387904∧0≤lost∧lost≤4611686018427387904:=by omega
  rw [show folL I.M.n j z 0 N q1 [] s2 k = folL I.M.n j z lost N q1 [] s2 k from by rw [hlost]]
  refine Lg.family frF (R:=fun f=>f 0 = .pointer (some ⟨I.fo j,0,none⟩)∧f 1 = V∧f 2 = .int .i64 N∧f 10 = .int .i64 z∧f 11 = .int .i64 lost∧f 12 = .slice none 0 0) ?_ (by rfl) ⟨rfl,rfl,rfl,rfl,by rw [hlost]; rfl,rfl⟩
  rintro f1 ⟨n0,n1,n2,n10,n11,n12⟩
  clear hlost hq0 hq1
 all_goals
  clear hc
  refine Lg.loop_fr frF (fun f t w=>∃ ls : List Int,ls.length≤N∧∃ s' H' oA oc,f 0 = .pointer (some ⟨I.fo j,0,none⟩)∧f 1 = V∧f 2 = .int .i64 N∧f 10 = .int .i64 z∧f 11 = .int .i64 lost∧f 12 = .slice oA ls.length oc∧s'.1.fn j = q1 + ls.length∧t = folL I.M.n j z lost (N - ls.length) (q1 + ls.length) ls s' k∧Now (B.on (readY I).inner good) Cap H0 w0 s' H' w∧OutRow (B.on (readY I).inner good) w0 H' w (.slice oA ls.length oc) ls) (fun f _ _=>N - lenV (f 12)) ⟨[],Nat.zero_le _,s2,H,none,0,n0,n1,n2,n10,n11,n12,by simpa using HQ.out,by simp,HN.out,OutRow.nil⟩ ?_
  clear HN HO HQ n0 n1 n2 n10 n11 n12 f1 s2 H
  rintro f2 t w2 ⟨ls,hl,s,H,oA,oc,k0,k1,k2,k10,k11,k12,hfn,rfl,hn,hout⟩ hnext
  have HX:=Lib.hid hnext
  have HN:=Lib.hid hn
  have HO:=Lib.hid hout
  have HQ:=Lib.hid hfn
  clear hnext hn hout hfn
  simp only [frF,k0,k1,k2,k10,k11,k12]
  obtain ⟨q,hqe⟩ : ∃ q,q1 + (ls.length : Int) = q:=⟨_,rfl⟩
  have hq0 : 0≤q:=by omega
  rw [hqe] at HQ ⊢
  have HQE:=Lib.hid hqe
  clear hqe
  with_reducible refine Lg.mv_seq _ ?_
  with_reducible refine Lg.mv_seq _ ?_
  by_cases hlt : ls.length < N
  rotate_left
  ·have dlt : decide (ls.length < N) = false:=decide_eq_false hlt
   rw [show N - ls.length = 0 by omega,show folL I.M.n j z lost 0 q ls s k = folE lost ls s k from rfl]
   with_reducible refine Lg.mv_reg _ ?_
   intro K hK y τ n' hy
   subst hy
   have hn:=HN.out.re hk
   have hout:=HO.out.re
   clear HN HO
   have HN:=Lib.hid hn
   have HO:=Lib.hid hout
   clear hn hout
   obtain ⟨d0,d1⟩:=Lay.At.foc hI (show (readY I).At s.1 _ from HN.out.rep.at_) hj
   rw [HQ.out] at d1
   go_wp2
   refine hK _ _ (fun _=>rfl) ?_
   clear hK K d0 d1
   clear dlt
   repeat (first
    | with_reducible refine Lg.mv_seq _ ?_
    | with_reducible refine Lg.mv_skip _ ?_
    | with_reducible refine Lg.mv_block _ ?_
    | with_reducible refine Lg.mv_inBlock _ ?_
    | with_reducible refine Lg.mv_end _ ?_
    | ((with_reducible refine Lg.mv_condT _ ?_ ?_); exact rfl)
    | ((with_reducible refine Lg.mv_condF _ ?_ ?_); exact rfl)
    | ((with_reducible apply Lg.mv_exit); exact rfl))
   by_cases hls : ls = []
   ·subst hls
    rw [show folE lost [] s k = k [] lost 4 s from rfl]
    repeat (first
     | with_reducible refine Lg.mv_seq _ ?_
     | with_reducible refine Lg.mv_skip _ ?_
     | with_reducible refine Lg.mv_block _ ?_
     | with_reducible refine Lg.mv_inBlock _ ?_
     | with_reducible refine Lg.mv_end _ ?_
     | ((with_reducible refine Lg.mv_condT _ ?_ ?_); exact rfl)
     | ((with_reducible refine Lg.mv_condF _ ?_ ?_); exact rfl)
     | ((with_reducible apply Lg.mv_exit); exact rfl)
     | (with_reducible refine Lg.mv_reg _ ?_
        intro K hK y τ n' hy
        subst hy
        have hn:=HN.out.re hk
        have hout:=HO.out.re
        clear HN HO
        have HN:=Lib.hid hn
        have HO:=Lib.hid hout
        clear hn hout
        go_wp2
        refine hK _ _ (fun _=>rfl) ?_
        clear hK K))
    with_reducible refine Lg.mv_ret _ ?_
    exact Lg.leave rfl Try.func11 rfl (v:=.tuple #[.slice none 0 0,.int .i64 lost,.int .i64 4]) (fun _ _ _ _=>by simp [results,Try.f11]) (HR.out _ _ _ ⟨[],lost,4,_,s,H,rfl,rfl,HN.out,OutRow.nil,fun _=>rfl,by simp⟩)
   ·rw [show folE lost ls s k = k ls lost 0 s from if_neg hls]
    have hne : ((ls.length : Int) == 0) = false:=by
     have:=List.length_pos_iff.2 hls
     simp only [beq_eq_false_iff_ne]; omega
    repeat (first
     | with_reducible refine Lg.mv_seq _ ?_
     | with_reducible refine Lg.mv_skip _ ?_
     | with_reducible refine Lg.mv_block _ ?_
     | with_reducible refine Lg.mv_inBlock _ ?_
     | with_reducible refine Lg.mv_end _ ?_
     | ((with_reducible refine Lg.mv_condT _ ?_ ?_); exact rfl)
     | ((with_reducible refine Lg.mv_condF _ ?_ ?_); exact rfl)
     | ((with_reducible apply Lg.mv_exit); exact rfl)
     | (with_reducible refine Lg.mv_reg _ ?_
        intro K hK y τ n' hy
        subst hy
        have hn:=HN.out.re hk
        have hout:=HO.out.re
        clear HN HO
        have HN:=Lib.hid hn
        have HO:=Lib.hid hout
        clear hn hout
        go_wp2
        refine hK _ _ (fun _=>rfl) ?_
        clear hK K))
    with_reducible refine Lg.mv_ret _ ?_
    exact Lg.leave rfl Try.func11 rfl (v:=.tuple #[.slice oA ls.length oc,.int .i64 lost,.int .i64 0]) (fun _ _ _ _=>by simp [results,Try.f11]) (HR.out _ _ _ ⟨ls,lost,0,_,s,H,rfl,rfl,HN.out,HO.out,fun zz=>absurd zz hls,by omega⟩)
  have dlt : decide (ls.length < N) = true:=decide_eq_true hlt
  obtain ⟨m,hm⟩ : ∃ m,N - ls.length = m + 1:=⟨N - ls.length - 1,by omega⟩
  have HJ:=Lib.hid (show m = N - (ls.length + 1) by omega)
  rw [hm,show folL I.M.n j z lost (m + 1) q ls s k = if q≤z then getG rrl I.M.n q s fun v e s=>if e = 0 then (if s.1.fn j = q then folL I.M.n j z lost m (q + 1) (ls ++ [v]) (foS j (q + 1) s) k else .cut) else folE lost ls s k else folE lost ls s k from rfl]
  clear hm
  by_cases hqz : q≤z
  rotate_left
  ·have dq : decide (q≤z) = false:=decide_eq_false hqz
   rw [if_neg hqz]
   with_reducible refine Lg.mv_reg _ ?_
   intro K hK y τ n' hy
   subst hy
   have hn:=HN.out.re hk
   have hout:=HO.out.re
   clear HN HO
   have HN:=Lib.hid hn
   have HO:=Lib.hid hout
   clear hn hout
   obtain ⟨d0,d1⟩:=Lay.At.foc hI (show (readY I).At s.1 _ from HN.out.rep.at_) hj
   rw [HQ.out] at d1
   go_wp2
   refine hK _ _ (fun _=>rfl) ?_
   clear hK K d0 d1
   clear dlt dq
   repeat (first
    | with_reducible refine Lg.mv_seq _ ?_
    | with_reducible refine Lg.mv_skip _ ?_
    | with_reducible refine Lg.mv_block _ ?_
    | with_reducible refine Lg.mv_inBlock _ ?_
    | with_reducible refine Lg.mv_end _ ?_
    | ((with_reducible refine Lg.mv_condT _ ?_ ?_); exact rfl)
    | ((with_reducible refine Lg.mv_condF _ ?_ ?_); exact rfl)
    | ((with_reducible apply Lg.mv_exit); exact rfl))
   by_cases hls : ls = []
   ·subst hls
    rw [show folE lost [] s k = k [] lost 4 s from rfl]
    repeat (first
     | with_reducible refine Lg.mv_seq _ ?_
     | with_reducible refine Lg.mv_skip _ ?_
     | with_reducible refine Lg.mv_block _ ?_
     | with_reducible refine Lg.mv_inBlock _ ?_
     | with_reducible refine Lg.mv_end _ ?_
     | ((with_reducible refine Lg.mv_condT _ ?_ ?_); exact rfl)
     | ((with_reducible refine Lg.mv_condF _ ?_ ?_); exact rfl)
     | ((with_reducible apply Lg.mv_exit); exact rfl)
     | (with_reducible refine Lg.mv_reg _ ?_
        intro K hK y τ n' hy
        subst hy
        have hn:=HN.out.re hk
        have hout:=HO.out.re
        clear HN HO
        have HN:=Lib.hid hn
        have HO:=Lib.hid hout
        clear hn hout
        go_wp2
        refine hK _ _ (fun _=>rfl) ?_
        clear hK K))
    with_reducible refine Lg.mv_ret _ ?_
    exact Lg.leave rfl Try.func11 rfl (v:=.tuple #[.slice none 0 0,.int .i64 lost,.int .i64 4]) (fun _ _ _ _=>by simp [results,Try.f11]) (HR.out _ _ _ ⟨[],lost,4,_,s,H,rfl,rfl,HN.out,OutRow.nil,fun _=>rfl,by simp⟩)
   ·rw [show folE lost ls s k = k ls lost 0 s from if_neg hls]
    have hne : ((ls.length : Int) == 0) = false:=by
     have:=List.length_pos_iff.2 hls
     simp only [beq_eq_false_iff_ne]; omega
    repeat (first
     | with_reducible refine Lg.mv_seq _ ?_
     | with_reducible refine Lg.mv_skip _ ?_
     | with_reducible refine Lg.mv_block _ ?_
     | with_reducible refine Lg.mv_inBlock _ ?_
     | with_reducible refine Lg.mv_end _ ?_
     | ((with_reducible refine Lg.mv_condT _ ?_ ?_); exact rfl)
     | ((with_reducible refine Lg.mv_condF _ ?_ ?_); exact rfl)
     | ((with_reducible apply Lg.mv_exit); exact rfl)
     | (with_reducible refine Lg.mv_reg _ ?_
        intro K hK y τ n' hy
        subst hy
        have hn:=HN.out.re hk
        have hout:=HO.out.re
        clear HN HO
        have HN:=Lib.hid hn
        have HO:=Lib.hid hout
        clear hn hout
        go_wp2
        refine hK _ _ (fun _=>rfl) ?_
        clear hK K))
    with_reducible refine Lg.mv_ret _ ?_
    exact Lg.leave rfl Try.func11 rfl (v:=.tuple #[.slice oA ls.length oc,.int .i64 lost,.int .i64 0]) (fun _ _ _ _=>by simp [results,Try.f11]) (HR.out _ _ _ ⟨ls,lost,0,_,s,H,rfl,rfl,HN.out,HO.out,fun zz=>absurd zz hls,by omega⟩)
  have dq : decide (q≤z) = true:=decide_eq_true hqz
  rw [if_pos hqz]
  with_reducible refine Lg.mv_reg _ ?_
  intro K hK y τ n' hy
  subst hy
  have hn:=HN.out.re hk
  have hout:=HO.out.re
  clear HN HO
  have HN:=Lib.hid hn
  have HO:=Lib.hid hout
  clear hn hout
  obtain ⟨d0,d1⟩:=Lay.At.foc hI (show (readY I).At s.1 _ from HN.out.rep.at_) hj
  rw [HQ.out] at d1
  go_wp2
  refine hK _ _ (fun _=>rfl) ?_
  clear hK K d0 d1
  clear dlt dq
  repeat (first
   | with_reducible refine Lg.mv_seq _ ?_
   | with_reducible refine Lg.mv_skip _ ?_
   | with_reducible refine Lg.mv_block _ ?_
   | with_reducible refine Lg.mv_inBlock _ ?_
   | with_reducible refine Lg.mv_end _ ?_
   | ((with_reducible refine Lg.mv_condT _ ?_ ?_); exact rfl)
   | ((with_reducible refine Lg.mv_condF _ ?_ ?_); exact rfl)
   | ((with_reducible apply Lg.mv_exit); exact rfl))
  have HF4 : RowKit.Hid (FFix I j q _):=Lib.hid ⟨(Lay.At.foc hI (show (readY I).At s.1 _ from HN.out.rep.at_) hj).1,HQ.out ▸ (Lay.At.foc hI (show (readY I).At s.1 _ from HN.out.rep.at_) hj).2,(R.blk _ _ _ HN.out.rep).1⟩
  refine Lg.anyV 10 (FFix I j q) (by kernel_rfl) ?_
  simp only [List.size_toArray,List.length_cons,List.length_nil,Nat.reduceAdd]
  refine any_readD (i:=0) (fuel:=15) (some 78) rfl rfl (fun _ _ _ h=>h) (fun _ _ _ _ _=>(Lg.re_iff _).1) (by kernel_rfl) (by kernel_rfl) (by kernel_rfl) (by kernel_rfl) rfl HF4.out rfl ?_
  apply Exists.intro
  refine ⟨fun wq hw=>?_,?_⟩
  ·obtain ⟨hw0,hw1,hw2⟩:=hw
   go_simp
   rfl
  simp only [Act.put,List.setIfInBounds_toArray,List.set_cons_zero,List.set_cons_succ]
  refine any_readD (i:=1) (fuel:=14) (some 79) rfl rfl (fun _ _ _ h=>h) (fun _ _ _ _ _=>(Lg.re_iff _).1) (by kernel_rfl) (by kernel_rfl) (by kernel_rfl) (by kernel_rfl) rfl HF4.out rfl ?_
  apply Exists.intro
  refine ⟨fun wq hw=>?_,?_⟩
  ·obtain ⟨hw0,hw1,hw2⟩:=hw
   go_simp
   rfl
  simp only [Act.put,List.setIfInBounds_toArray,List.set_cons_zero,List.set_cons_succ]
  refine any_readD (i:=2) (fuel:=13) (some 80) rfl rfl (fun _ _ _ h=>h) (fun _ _ _ _ _=>(Lg.re_iff _).1) (by kernel_rfl) (by kernel_rfl) (by kernel_rfl) (by kernel_rfl) rfl HF4.out rfl ?_
  apply Exists.intro
  refine ⟨fun wq hw=>?_,?_⟩
  ·obtain ⟨hw0,hw1,hw2⟩:=hw
   go_simp
   rfl
  simp only [Act.put,List.setIfInBounds_toArray,List.set_cons_zero,List.set_cons_succ]
  refine any_readD (i:=3) (fuel:=12) (some 81) rfl rfl (fun _ _ _ h=>h) (fun _ _ _ _ _=>(Lg.re_iff _).1) (by kernel_rfl) (by kernel_rfl) (by kernel_rfl) (by kernel_rfl) rfl HF4.out rfl ?_
  apply Exists.intro
  refine ⟨fun wq hw=>?_,?_⟩
  ·obtain ⟨hw0,hw1,hw2⟩:=hw
   go_simp
   rfl
  simp only [Act.put,List.setIfInBounds_toArray,List.set_cons_zero,List.set_cons_succ]
  refine any_readD (i:=5) (fuel:=11) (some 83) rfl rfl (fun _ _ _ h=>h) (fun _ _ _ _ _=>(Lg.re_iff _).1) (by kernel_rfl) (by kernel_rfl) (by kernel_rfl) (by kernel_rfl) rfl HF4.out rfl ?_
  apply Exists.intro
  refine ⟨fun wq hw=>?_,?_⟩
  ·obtain ⟨hw0,hw1,hw2⟩:=hw
   go_simp
   rfl
  simp only [Act.put,List.setIfInBounds_toArray,List.set_cons_zero,List.set_cons_succ]
  refine any_readD (i:=6) (fuel:=10) (some 84) rfl rfl (fun _ _ _ h=>h) (fun _ _ _ _ _=>(Lg.re_iff _).1) (by kernel_rfl) (by kernel_rfl) (by kernel_rfl) (by kernel_rfl) rfl HF4.out rfl ?_
  apply Exists.intro
  refine ⟨fun wq hw=>?_,?_⟩
  ·obtain ⟨hw0,hw1,hw2⟩:=hw
   go_simp
   rfl
  simp only [Act.put,List.setIfInBounds_toArray,List.set_cons_zero,List.set_cons_succ]
  refine any_readD (i:=7) (fuel:=9) (some 85) rfl rfl (fun _ _ _ h=>h) (fun _ _ _ _ _=>(Lg.re_iff _).1) (by kernel_rfl) (by kernel_rfl) (by kernel_rfl) (by kernel_rfl) rfl HF4.out rfl ?_
  apply Exists.intro
  refine ⟨fun wq hw=>?_,?_⟩
  ·obtain ⟨hw0,hw1,hw2⟩:=hw
   go_simp
   rfl
  simp only [Act.put,List.setIfInBounds_toArray,List.set_cons_zero,List.set_cons_succ]
  refine any_readD (i:=8) (fuel:=8) (some 86) rfl rfl (fun _ _ _ h=>h) (fun _ _ _ _ _=>(Lg.re_iff _).1) (by kernel_rfl) (by kernel_rfl) (by kernel_rfl) (by kernel_rfl) rfl HF4.out rfl ?_
  apply Exists.intro
  refine ⟨fun wq hw=>?_,?_⟩
  ·obtain ⟨hw0,hw1,hw2⟩:=hw
   go_simp
   rfl
  simp only [Act.put,List.setIfInBounds_toArray,List.set_cons_zero,List.set_cons_succ]
  refine any_readD (i:=9) (fuel:=7) (some 87) rfl rfl (fun _ _ _ h=>h) (fun _ _ _ _ _=>(Lg.re_iff _).1) (by kernel_rfl) (by kernel_rfl) (by kernel_rfl) (by kernel_rfl) rfl HF4.out rfl ?_
  apply Exists.intro
  refine ⟨fun wq hw=>?_,?_⟩
  ·obtain ⟨hw0,hw1,hw2⟩:=hw
   go_simp
   rfl
  simp only [Act.put,List.setIfInBounds_toArray,List.set_cons_zero,List.set_cons_succ]
  refine AnyV.one (i:=4) (fuel:=6) (by kernel_rfl) (.inl fun y τ n hy=>wpOp_of rfl rfl ?_)
  subst hy
  have hn:=HN.out.re hk
  have hout:=HO.out.re
  clear HN HO
  have HN:=Lib.hid hn
  have HO:=Lib.hid hout
  clear hn hout
  obtain ⟨b0,-⟩:=R.blk _ _ _ HN.out.rep
  have hF4 : FFix I j q y:=HF4.out
  have HF4:=Lib.hid hF4
  clear hF4
  unfold Oper.wp
  go_simp
  refine (multi_ringM _ _ _ b0).mono ?_
  rintro e w' ⟨rfl,hw'⟩
  subst hw'
  dsimp only
  clear b0
  refine ⟨HF4.out,?_⟩
  refine AnyV.one (i:=10) (fuel:=5) (by kernel_rfl) (.inr ⟨_,31,#[.pointer (some ⟨I.M.rb,0,none⟩),V,.int .i64 q],rfl,rfl,fun y=>by go_simp,(R.ring.get _ _ _ _ _ (HN.out.here hk) q _).mono ?_⟩)
  rintro vv t' w' ⟨x,e,s,H,rfl,rfl,hn'⟩
  have hout:=HO.out.held hn'.held
  have hn:=HN.out.on hn'
  clear HN HO hn' HF4 HQ
  have HN:=Lib.hid hn
  have HO:=Lib.hid hout
  clear hn hout
  refine ⟨fun z=>absurd z (by decide),fun _=>rfl,?_⟩
  simp only [Act.put,List.setIfInBounds_toArray,List.set_cons_zero,List.set_cons_succ]
  refine AnyV.one (i:=11) (fuel:=4) (by kernel_rfl) (.inl fun y τ n hy=>wpOp_of rfl rfl ?_)
  subst hy
  have hn:=HN.out.re hk
  have hout:=HO.out.re
  clear HN HO
  have HN:=Lib.hid hn
  have HO:=Lib.hid hout
  clear hn hout
  unfold Oper.wp
  go_simp
  refine AnyV.all (rs:=[12,13]) (fuel:=3) (by kernel_rfl) (by simp) fun i' hi'=>?_
  simp only [List.mem_cons,List.not_mem_nil,or_false] at hi'
  rcases hi' with rfl | rfl
  case' inr =>
   refine .inl fun y τ n hy=>wpOp_of rfl rfl ?_
   subst hy
   have hn:=HN.out.re hk
   have hout:=HO.out.re
   clear HN HO
   have HN:=Lib.hid hn
   have HO:=Lib.hid hout
   clear hn hout
   unfold Oper.wp
   go_simp
   refine AnyV.one (i:=12) (fuel:=2) (by kernel_rfl) (.inl fun y τ n hy=>wpOp_of rfl rfl ?_)
   subst hy
   have hn:=HN.out.re hk
   have hout:=HO.out.re
   clear HN HO
   have HN:=Lib.hid hn
   have HO:=Lib.hid hout
   clear hn hout
   unfold Oper.wp
   go_simp
   refine AnyV.one (i:=14) (fuel:=1) (by kernel_rfl) (.inl fun y τ n hy=>wpOp_of rfl rfl ?_)
   subst hy
   have hn:=HN.out.re hk
   have hout:=HO.out.re
   clear HN HO
   have HN:=Lib.hid hn
   have HO:=Lib.hid hout
   clear hn hout
   unfold Oper.wp
   go_simp
  case' inl =>
   refine .inl fun y τ n hy=>wpOp_of rfl rfl ?_
   subst hy
   have hn:=HN.out.re hk
   have hout:=HO.out.re
   clear HN HO
   have HN:=Lib.hid hn
   have HO:=Lib.hid hout
   clear hn hout
   unfold Oper.wp
   go_simp
   refine AnyV.all (rs:=[13,14]) (fuel:=2) (by kernel_rfl) (by simp) fun i' hi'=>?_
   simp only [List.mem_cons,List.not_mem_nil,or_false] at hi'
   rcases hi' with rfl | rfl
   case' inl =>
    refine .inl fun y τ n hy=>wpOp_of rfl rfl ?_
    subst hy
    have hn:=HN.out.re hk
    have hout:=HO.out.re
    clear HN HO
    have HN:=Lib.hid hn
    have HO:=Lib.hid hout
    clear hn hout
    unfold Oper.wp
    go_simp
    refine AnyV.one (i:=14) (fuel:=1) (by kernel_rfl) (.inl fun y τ n hy=>wpOp_of rfl rfl ?_)
    subst hy
    have hn:=HN.out.re hk
    have hout:=HO.out.re
    clear HN HO
    have HN:=Lib.hid hn
    have HO:=Lib.hid hout
    clear hn hout
    unfold Oper.wp
    go_simp
   case' inr =>
    refine .inl fun y τ n hy=>wpOp_of rfl rfl ?_
    subst hy
    have hn:=HN.out.re hk
    have hout:=HO.out.re
    clear HN HO
    have HN:=Lib.hid hn
    have HO:=Lib.hid hout
    clear hn hout
    unfold Oper.wp
    go_simp
    refine AnyV.one (i:=13) (fuel:=1) (by kernel_rfl) (.inl fun y τ n hy=>wpOp_of rfl rfl ?_)
    subst hy
    have hn:=HN.out.re hk
    have hout:=HO.out.re
    clear HN HO
    have HN:=Lib.hid hn
    have HO:=Lib.hid hout
    clear hn hout
    unfold Oper.wp
    go_simp
  all_goals
   refine AnyV.one (i:=15) (fuel:=0) (by kernel_rfl) (.inl fun y τ n hy=>wpOp_of rfl rfl ?_)
   subst hy
   have hn:=HN.out.re hk
   have hout:=HO.out.re
   clear HN HO
   have HN:=Lib.hid hn
   have HO:=Lib.hid hout
   clear hn hout
   unfold Oper.wp
   go_simp
   refine ⟨by kernel_rfl,?_⟩
   refine (show L.T (if e = 0 then (if s.1.fn j = q then folL I.M.n j z lost m (q + 1) (ls ++ [x]) (foS j (q + 1) s) k else .cut) else folE lost ls s k) _ _ _ from ?_)
   by_cases he : e = 0
   rotate_left
   ·rw [if_neg he]
    have de : (e != 0) = true:=by simpa using he
    repeat (first
     | with_reducible refine Lg.mv_seq _ ?_
     | with_reducible refine Lg.mv_skip _ ?_
     | with_reducible refine Lg.mv_block _ ?_
     | with_reducible refine Lg.mv_inBlock _ ?_
     | with_reducible refine Lg.mv_end _ ?_
     | ((with_reducible refine Lg.mv_condT _ ?_ ?_); exact rfl)
     | ((with_reducible refine Lg.mv_condF _ ?_ ?_); exact rfl)
     | ((with_reducible apply Lg.mv_exit); exact rfl))
    with_reducible refine Lg.mv_reg _ ?_
    intro K hK y τ n' hy
    subst hy
    have hn:=HN.out.re hk
    have hout:=HO.out.re
    clear HN HO
    have HN:=Lib.hid hn
    have HO:=Lib.hid hout
    clear hn hout
    go_wp2
    refine hK _ _ (fun _=>rfl) ?_
    clear hK K
    clear de
    repeat (first
     | with_reducible refine Lg.mv_seq _ ?_
     | with_reducible refine Lg.mv_skip _ ?_
     | with_reducible refine Lg.mv_block _ ?_
     | with_reducible refine Lg.mv_inBlock _ ?_
     | with_reducible refine Lg.mv_end _ ?_
     | ((with_reducible refine Lg.mv_condT _ ?_ ?_); exact rfl)
     | ((with_reducible refine Lg.mv_condF _ ?_ ?_); exact rfl)
     | ((with_reducible apply Lg.mv_exit); exact rfl))
    by_cases hls : ls = []
    ·subst hls
     rw [show folE lost [] s k = k [] lost 4 s from rfl]
     repeat (first
      | with_reducible refine Lg.mv_seq _ ?_
      | with_reducible refine Lg.mv_skip _ ?_
      | with_reducible refine Lg.mv_block _ ?_
      | with_reducible refine Lg.mv_inBlock _ ?_
      | with_reducible refine Lg.mv_end _ ?_
      | ((with_reducible refine Lg.mv_condT _ ?_ ?_); exact rfl)
      | ((with_reducible refine Lg.mv_condF _ ?_ ?_); exact rfl)
      | ((with_reducible apply Lg.mv_exit); exact rfl)
      | (with_reducible refine Lg.mv_reg _ ?_
         intro K hK y τ n' hy
         subst hy
         have hn:=HN.out.re hk
         have hout:=HO.out.re
         clear HN HO
         have HN:=Lib.hid hn
         have HO:=Lib.hid hout
         clear hn hout
         go_wp2
         refine hK _ _ (fun _=>rfl) ?_
         clear hK K))
     with_reducible refine Lg.mv_ret _ ?_
     exact Lg.leave rfl Try.func11 rfl (v:=.tuple #[.slice none 0 0,.int .i64 lost,.int .i64 4]) (fun _ _ _ _=>by simp [results,Try.f11]) (HR.out _ _ _ ⟨[],lost,4,_,s,H,rfl,rfl,HN.out,OutRow.nil,fun _=>rfl,by simp⟩)
    ·rw [show folE lost ls s k = k ls lost 0 s from if_neg hls]
     have hne : ((ls.length : Int) == 0) = false:=by
      have:=List.length_pos_iff.2 hls
      simp only [beq_eq_false_iff_ne]; omega
     repeat (first
      | with_reducible refine Lg.mv_seq _ ?_
      | with_reducible refine Lg.mv_skip _ ?_
      | with_reducible refine Lg.mv_block _ ?_
      | with_reducible refine Lg.mv_inBlock _ ?_
      | with_reducible refine Lg.mv_end _ ?_
      | ((with_reducible refine Lg.mv_condT _ ?_ ?_); exact rfl)
      | ((with_reducible refine Lg.mv_condF _ ?_ ?_); exact rfl)
      | ((with_reducible apply Lg.mv_exit); exact rfl)
      | (with_reducible refine Lg.mv_reg _ ?_
         intro K hK y τ n' hy
         subst hy
         have hn:=HN.out.re hk
         have hout:=HO.out.re
         clear HN HO
         have HN:=Lib.hid hn
         have HO:=Lib.hid hout
         clear hn hout
         go_wp2
         refine hK _ _ (fun _=>rfl) ?_
         clear hK K))
     with_reducible refine Lg.mv_ret _ ?_
     exact Lg.leave rfl Try.func11 rfl (v:=.tuple #[.slice oA ls.length oc,.int .i64 lost,.int .i64 0]) (fun _ _ _ _=>by simp [results,Try.f11]) (HR.out _ _ _ ⟨ls,lost,0,_,s,H,rfl,rfl,HN.out,HO.out,fun zz=>absurd zz hls,by omega⟩)
   subst he
   rw [if_pos rfl]
   by_cases hfq : s.1.fn j = q
   rotate_left
   ·rw [if_neg hfq]
    exact hcut _ _ _
   rw [if_pos hfq]
   have HQ:=Lib.hid hfq
   clear hfq
   repeat (first
    | with_reducible refine Lg.mv_seq _ ?_
    | with_reducible refine Lg.mv_skip _ ?_
    | with_reducible refine Lg.mv_block _ ?_
    | with_reducible refine Lg.mv_inBlock _ ?_
    | with_reducible refine Lg.mv_end _ ?_
    | ((with_reducible refine Lg.mv_condT _ ?_ ?_); exact rfl)
    | ((with_reducible refine Lg.mv_condF _ ?_ ?_); exact rfl)
    | ((with_reducible apply Lg.mv_exit); exact rfl)
    | (with_reducible refine Lg.mv_reg _ ?_
       intro K hK y τ n' hy
       subst hy
       have hn:=HN.out.re hk
       have hout:=HO.out.re
       clear HN HO
       have HN:=Lib.hid hn
       have HO:=Lib.hid hout
       clear hn hout
       go_wp2
       refine hK _ _ (fun _=>rfl) ?_
       clear hK K))
   with_reducible refine Lg.mv_region _ ?_
   refine Lg.pre 0 3 2 (by simp) fun K hK y τ n' hy=>?_
   subst hy
   have hn:=HN.out.re hk
   have hout:=HO.out.re
   clear HN HO
   have HN:=Lib.hid hn
   have HO:=Lib.hid hout
   clear hn hout
   simp only [List.drop_zero,List.take_succ_cons,List.take_zero]
   go_wp2
   refine hK _ _ (fun _=>rfl) ?_
   clear hK K
   have hsm : ls.length < 65536:=by omega
   have hnb:=Blk.new y 2 #[.int .i64 x]
   have hn:=HN.out.alloc (.cells #[.int .i64 x] 2)
   have hout:=HO.out.kept (Kept.alloc y (.cells #[.int .i64 x] 2))
   clear HN HO
   generalize y.alloc (.cells #[.int .i64 x] 2) = z3 at hn hout hnb ⊢
   generalize y.heap.size = nb at hnb ⊢
   obtain ⟨i0,hi0,hz0,hz1',hz2⟩:=info_parts Try.infoI64
   refine Lg.pre 3 2 0 (by simp) fun K hK q' τ n' hq=>?_
   subst hq
   have hn:=hn.re hk
   have hout:=hout.re
   have hnb : Blk q' nb _ _:=hnb
   have hsize : w0.heap.size≤q'.heap.size:=hn.held.size
   simp only [List.drop_succ_cons,List.drop_zero,List.take_succ_cons,List.take_zero]
   refine wpList_append_lies _ rfl _ _ _ rfl w0.heap.size 2 i0 _ 1 8 Try.underlying35 hi0 hz0 hz1' hz2 rfl (by omega) (.slice oA ls.length oc) ls.length _ rfl hout.own ⟨nb,0,none⟩ 1 1 [.int .i64 x] rfl rfl (World.news_of_block (cs:=#[.int .i64 x]) (t:=2) (fr:=(0,0)) hnb) (by simp [Value.oneCell']) (by omega) (by unfold maxLen; omega) (by omega) hsize _ rfl ?_
   intro g cp' w1 hown hgrow hat hlt1
   have hrowH : ∀ b,(Value.slice oA ls.length oc).ownBlock = some b→w0.heap.size≤b∧¬ H b∧¬ (B.on (readY I).inner good).RB b:=fun b hb=>⟨(hout.blk hb).1,hout.nh b hb⟩
   have hn2:=hn.grown hgrow fun b hb=>hrowH b hb.symm.symm
   have hout2 : OutRow (B.on (readY I).inner good) w0 H w1 (.slice (some ⟨g,0,none⟩) (ls.length + 1) cp') (ls ++ [x]):=by
    refine ⟨by rw [List.length_append,List.map_append]; exact hown,fun b hb=>?_⟩
    simp only [Value.ownBlock,Option.some.injEq] at hb
    subst hb
    rcases hat with hat | hat
    ·exact (hrowH _ hat).2
    ·exact ⟨fun z=>by have:=hn.rep.lt z; omega,fun z=>by have:=hn.rlt z; omega⟩
   have HN:=Lib.hid hn2
   have HO:=Lib.hid hout2
   clear hn hn2 hout hout2 hown hgrow hat hlt1 hnb hrowH hsize
   go_wp2
   refine hK _ _ (fun _=>rfl) ?_
   clear hK K
   refine Lg.mv_end _ ?_
   clear hsm
   with_reducible refine Lg.mv_reg _ ?_
   intro K hK y τ n' hy
   subst hy
   have hn:=HN.out.re hk
   have hout:=HO.out.re
   clear HN HO
   have HN:=Lib.hid hn
   have HO:=Lib.hid hout
   clear hn hout
   obtain ⟨d0,d1⟩:=Lay.At.foc hI (show (readY I).At s.1 _ from HN.out.rep.at_) hj
   rw [HQ.out] at d1
   have q4:=Lay.At.foz hI (show (readY I).At s.1 _ from HN.out.rep.at_) hj 1
   have HS:=Lib.hid (r_fn hI HN.out.rep hj (q + 1) (by omega) (by omega))
   go_wp2
   refine hK _ _ (fun _=>rfl) ?_
   clear hK K d0 d1 q4
   have hn:=HN.out.to hk HS.out
   have hout:=HO.out.held HS.out.2
   clear HS HN HO HQ
   generalize World.setCell _ _ _ = y' at hn hout ⊢
   have HN:=Lib.hid (show Now (B.on (readY I).inner good) Cap H0 w0 (foS j (q + 1) s) H y' from hn)
   have HO:=Lib.hid hout
   clear hn hout
   repeat (first
    | with_reducible refine Lg.mv_seq _ ?_
    | with_reducible refine Lg.mv_skip _ ?_
    | with_reducible refine Lg.mv_block _ ?_
    | with_reducible refine Lg.mv_inBlock _ ?_
    | with_reducible refine Lg.mv_end _ ?_
    | ((with_reducible refine Lg.mv_condT _ ?_ ?_); exact rfl)
    | ((with_reducible refine Lg.mv_condF _ ?_ ?_); exact rfl)
    | ((with_reducible apply Lg.mv_exit); exact rfl))
   refine Lg.family frF (R:=fun f=>f 0 = .pointer (some ⟨I.fo j,0,none⟩)∧f 1 = V∧f 2 = .int .i64 N∧f 10 = .int .i64 z∧f 11 = .int .i64 lost∧f 12 = .slice (some ⟨g,0,none⟩) (ls.length + 1) cp') ?_ (by rfl) ⟨rfl,rfl,rfl,rfl,rfl,rfl⟩
   rintro f' ⟨r0,r1,r2,r10,r11,r12⟩
   refine HX.out f' _ _ ⟨ls ++ [x],by simp; omega,foS j (q + 1) s,H,_,_,r0,r1,r2,r10,r11,by simpa using r12,?_,?_,HN.out,by simpa using HO.out⟩ (by rw [r12,k12]; simp only [lenV]; omega)
   ·show upd s.1.fn j (q + 1) j = _
    rw [upd_same,List.length_append,List.length_singleton]
    have:=HQE.out
    omega
   ·rw [HJ.out,List.length_append,List.length_singleton,show q + 1 = q1 + ((ls.length + 1 : Nat) : Int) from by have:=HQE.out; omega]
end Go.Proofs.Ytlhbonnminlnlaa
namespace Go.Proofs.Ytlhbonnminlnlaa
open Go.RowKit Go.Turn Go.Tame Go.Conc
open Go.ConcN (upd upd_ne upd_same)
def SG (o : OpI) : Prop:=-9223372036854775808≤o.a∧o.a < 9223372036854775808∧-9223372036854775808≤o.b∧o.b < 9223372036854775808
def toldN (n e : Int) : Int:=if e = 0 then n else e
def ansT (n e : Int) : Ans:=⟨e == 0,toldN n e,[]⟩
theorem Own1.drewN {D : OpsD} {w0 y : World} {H : Nat→Prop} {b : Nat} {t : TypeId} {cs : Array Value} (h : Own1 D w0 H y b t cs) (n : Nat) : Own1 D w0 H (y.drewN n) b t cs:=⟨h.blk.drewN n,h.nh,h.ge,h.nr⟩
def rowR (a : Int) (m : Nat) : List Int:=(List.range m).map fun (j : Nat)=>wrap64 (a + j)
def wcountR (n : Nat) (b : Int) : Nat:=(min (max b 0) ((n : Int) + 1)).toNat
def doR (M : MIds) (k : Nat) (i : Nat) : DoQ RdS:=fun o st kk =>
 if i < k then
  if o.kind = 1 then offerT rrl rcl rel M (fun _ _ _=>.cut) (rowR o.a (wcountR M.n o.b)) st fun x e s=>kk (ansT x e) s
  else if o.kind = 2 then rjoinT i st fun n e s=>kk (ansT n e) s
  else if o.kind = 3 then rreadT M.n i o.a st fun ls e s=>kk ⟨e == 0,toldN 0 e,ls⟩ s
  else if o.kind = 7 then followT M.n i o.a st fun ls lost e s=>kk ⟨e == 0,toldN 0 e,lost :: ls⟩ s
  else .cut
 else .cut
theorem reader_told (n e : Int) (w : World) : Calls Try.prog 68 #[.int .i64 n,.int .i64 e] w fun x w'=>x = .returned (.agg #[.bool (e == 0),.int .i64 (toldN n e),.slice none 0 0])∧Kept (fun _=>False) w w':=by
 by_cases h : e = 0
 ·subst h
  rw [show toldN n 0 = n from rfl]
  go_enter Try.func68,Try.ntmps68
  go_wp2
  try simp only [Exit.inBlock,Exit.then]
  refine bodyPost_ret (v:=.agg #[.bool (0 == 0),.int .i64 n,.slice none 0 0]) ?_ rfl ⟨rfl,?_⟩
  ·simp [results,Try.f68,go_sem]
  exact Kept.alloc _ _
 ·have h0 : (e == 0) = false:=by simpa using h
  have h1 : (e != 0) = true:=by simpa using h
  rw [show toldN n e = e from if_neg h,h0]
  clear h h0
  go_enter Try.func68,Try.ntmps68
  go_wp2
  try simp only [Exit.inBlock,Exit.then]
  refine bodyPost_ret (v:=.agg #[.bool false,.int .i64 e,.slice none 0 0]) ?_ rfl ⟨rfl,?_⟩
  ·simp [results,Try.f68,go_sem]
  exact Kept.alloc _ _
set_option maxHeartbeats 4000000 in
set_option maxRecDepth 100000 in
theorem reader_row (a b : Int) (N : Nat) (hN : N≤65536) (w : World) : Calls Try.prog 69 #[.int .i64 a,.int .i64 b,.int .i64 N] w fun x w'=>∃ v,x = .returned v∧w'.ownsRow w.heap.size 2 1 v (wcountR N b) ((rowR a (wcountR N b)).map (Value.int .i64))∧Below w.heap.size w w':=by
 obtain ⟨X,hX⟩ : ∃ X,(if (N : Int) + 1 < b then (N : Int) + 1 else b) = X:=⟨_,rfl⟩
 obtain ⟨Y,hY⟩ : ∃ Y,(if X < 0 then 0 else X) = Y:=⟨_,rfl⟩
 have hY2 : Y = wcountR N b∧wcountR N b≤65537:=by
  unfold wcountR
  rw [← hY,← hX]
  split <;> split <;> omega
 obtain ⟨i0,hi0,hz0,hz1,hz2⟩:=info_parts Try.infoI64
 generalize wcountR N b = m at hY2 ⊢
 obtain ⟨hYm,hm⟩:=hY2
 have HY:=Lib.hid hYm
 clear hYm
 go_enter Try.func69,Try.ntmps69
 go_wp2
 rw [HY.out]
 clear HY hX hY
 go_loopw [7,14] (fun o i wr=>∃ j : Nat,j≤m∧i = .int .i64 j∧wr.ownsRow w.heap.size 2 1 o j ((rowR a j).map (Value.int .i64))∧Below w.heap.size w wr) (fun _ i _=>m - (intOf i).toNat)
 case atStart=>exact ⟨0,Nat.zero_le _,rfl,⟨by simp [rowR],.inl ⟨rfl,rfl⟩⟩,Below.refl _ _⟩
 case round =>
  obtain ⟨j,hj,rfl,hown,hb⟩:=hrel
  obtain ⟨A,cap,rfl⟩:=own_slice hown
  have HO:=Lib.hid hown
  have HBW:=Lib.hid hb
  clear hown hb
  by_cases hlt : j < m
  ·have hb1 : w.heap.size≤wr.heap.size:=HBW.out.size
   go_wp2_with (at_builtin; refine wpList_append_own _ rfl _ _ 35 rfl w.heap.size 2 i0 (.int .i64 0) 1 8 Try.underlying35 hi0 hz0 hz1 hz2 rfl (by decide) _ _ _ rfl (HO.out.alloc _) ⟨wr.heap.size,0,none⟩ 1 1 [.int .i64 (wrap64 (a + j))] rfl rfl ?c1 ?c2 ?c3 ?c4 ?c5 ?_)
   case c1=>exact cell_one_new _ _ _
   case c2=>simp [Value.oneCell']
   case c3=>unfold maxLen; omega
   case c4=>omega
   case c5=>simp; omega
   intro v' w3 hown1 hg1 _
   have ho1 : w3.ownsRow w.heap.size 2 1 v' (j + 1) ((rowR a (j + 1)).map (Value.int .i64)):=by rw [show rowR a (j + 1) = rowR a j ++ [wrap64 (a + j)] from by simp [rowR,List.range_succ],List.map_append]; exact hown1
   have hb3 : Below w.heap.size w w3:=(HBW.out.alloc HBW.out.size _).grown hg1 (by simp; omega) (fun k hk=>(HO.out.lt k hk).1)
   have HO2:=Lib.hid (And.intro ho1 hb3)
   clear hown1 hg1 ho1 hb3
   go_wp2
   go_roundw
   case rel=>exact ⟨j + 1,by omega,by go_num,HO2.out.1,HO2.out.2⟩
   case measure=>simp [intOf]; omega
  ·obtain rfl : j = m:=by omega
   go_wp2
   go_ret
   exact ⟨_,rfl,HO.out,HBW.out⟩
def RDS (I : RIds) (b5 : Nat) (o : OpI) (w : World) : Prop:=
 (w.cell? ⟨b5,0,none⟩ = some (.int .i64 o.kind)∧w.cell? ⟨b5,1,none⟩ = some (.int .i64 o.a)∧w.cell? ⟨b5,2,none⟩ = some (.int .i64 o.b)∧w.cell? ⟨b5,3,none⟩ = some (.int .i64 o.c)) ∧
 w.cell? ⟨I.wb,0,none⟩ = some (.pointer (some ⟨I.M.mb,0,none⟩))∧w.cell? ⟨I.wb,1,none⟩ = some (.pointer (some ⟨I.gt,0,none⟩))∧w.cell? ⟨I.M.mb,0,none⟩ = some (.pointer (some ⟨I.M.rb,0,none⟩))∧w.cell? ⟨I.M.rb,0,none⟩ = some (.slice (some ⟨I.M.gb,0,none⟩) I.M.n I.M.n)
theorem Lay.At.rworld {I : RIds} (hI : I.Ok) {S : RdS} {w : World} (h : (readY I).At S w) {i : Nat} (hi : i < I.k) : w.cell? ⟨I.wb,0,none⟩ = some (.pointer (some ⟨I.M.mb,0,none⟩))∧w.cell? ⟨I.wb,1,none⟩ = some (.pointer (some ⟨I.gt,0,none⟩))∧w.cell? ⟨I.wb,2,none⟩ = some (.slice (some ⟨I.lr,0,none⟩) I.k I.rc)∧w.cell? ⟨I.wb,3,none⟩ = some (.slice (some ⟨I.lf,0,none⟩) I.k I.fc)∧w.cell? ⟨I.lr,i,none⟩ = some (.pointer (some ⟨I.rd i,0,none⟩))∧w.cell? ⟨I.lf,i,none⟩ = some (.pointer (some ⟨I.fo i,0,none⟩))∧w.cell? ⟨I.M.mb,0,none⟩ = some (.pointer (some ⟨I.M.rb,0,none⟩))∧w.cell? ⟨I.M.rb,0,none⟩ = some (.slice (some ⟨I.M.gb,0,none⟩) I.M.n I.M.n):=by
 have hk : 0 < I.k:=by omega
 have key : ∀ (x : Wh) o v,I.val x→cellR I S x o = some v→w.cell? ⟨I.blk x,o,none⟩ = some v:=fun x o v hx hv=>h.cell _ _ _ ((layR_at hI (x:=x) hx S o).trans hv)
 refine ⟨key .wo 0 _ trivial rfl,key .wo 1 _ trivial rfl,?_,?_,key .lr i _ hk ?_,key .lf i _ hk ?_,key .mu 0 _ trivial rfl,key .rg 0 _ trivial rfl⟩
 ·rw [← (hI.rAk hk).1]; exact key .wo 2 _ trivial rfl
 ·rw [← (hI.rAk hk).2]; exact key .wo 3 _ trivial rfl
 ·show (if i < I.k then _ else _) = _; rw [if_pos hi]
 ·show (if i < I.k then _ else _) = _; rw [if_pos hi]
theorem rds_of {I : RIds} (hI : I.Ok) {B : OpsB} {good : OpI→Prop} {Cap : (Nat→Prop)→World→Prop} {H0 H : Nat→Prop} {w0 w : World} {s : RSS} (hn : Now (B.on (readY I).inner good) Cap H0 w0 s H w) {b5 i : Nat} (hi : i < I.k) {o : OpI} (hb5 : Own1 (B.on (readY I).inner good) w0 H w b5 62 #[.int .i64 o.kind,.int .i64 o.a,.int .i64 o.b,.int .i64 o.c]) : RDS I b5 o w:=by
 obtain ⟨w1,w2,_,_,_,_,w7,w8⟩:=Lay.At.rworld hI (show (readY I).At s.1 _ from hn.rep.at_) hi
 exact ⟨⟨hb5.blk.cell 0,hb5.blk.cell 1,hb5.blk.cell 2,hb5.blk.cell 3⟩,w1,w2,w7,w8⟩
end Go.Proofs.Ytlhbonnminlnlaa
namespace Go.Proofs.Ytlhbonnminlnlaa
open Go.RowKit Go.Turn Go.Tame Go.Conc
open Go.ConcN (upd upd_ne upd_same)
set_option maxHeartbeats 8000000 in
set_option maxRecDepth 100000 in
theorem reader_do2 {I : RIds} (hI : I.Ok) {B : OpsB} {good : OpI→Prop} {L : Lg Try.prog (Tree RSS RSS)} {Cap : (Nat→Prop)→World→Prop} {V : Value} (hk : CapK Cap) (hS : SStep (B.on (readY I).inner good) L Cap 75 V) (hS2 : SStep (B.on (readY I).inner good) L Cap 51 V) (hS3 : SStep (B.on (readY I).inner good) L Cap 59 V) (H0 : Nat→Prop) (w0 : World) (s : RSS) (H : Nat→Prop) (w : World) (hn : Now (B.on (readY I).inner good) Cap H0 w0 s H w)
  (hcut : ∀ fr mid x,L.T .cut fr mid x) (i : Nat) (hi : i < I.k) (kd oa ob oc : Int) (hg : SG ⟨kd,oa,ob,oc⟩) (q : kd = 2) (k : Ans→RSS→Tree RSS RSS) : Ccalls L 40 #[.pointer (some ⟨I.wb,0,none⟩),V,.int .i64 i,OpI.val ⟨kd,oa,ob,oc⟩] (doR I.M I.k i ⟨kd,oa,ob,oc⟩ s k) w fun u t' w'=>∃ a s' H' lv,u = .agg #[.bool a.ok,.int .i64 a.n,lv]∧t' = k a s'∧Now (B.on (readY I).inner good) Cap H0 w0 s' H' w'∧OutRow (B.on (readY I).inner good) w0 H' w' lv a.ls:=by
 have Q:=Lib.hid q
 clear q
 rw [show OpI.val ⟨kd,oa,ob,oc⟩ = .agg #[.int .i64 kd,.int .i64 oa,.int .i64 ob,.int .i64 oc] from rfl]
 intro c mid hR
 have HR:=Lib.hid hR
 have HN:=Lib.hid hn
 clear hR hn
 rw [show Frame.enter Try.prog 40 #[.pointer (some ⟨I.wb,0,none⟩),V,.int .i64 i,.agg #[.int .i64 kd,.int .i64 oa,.int .i64 ob,.int .i64 oc]] .normal = Frame.at { (default : Frame) with fn:=40,kind:=.normal } ⟨#[.pointer (some ⟨I.wb,0,none⟩),V,.int .i64 i,.agg #[.int .i64 kd,.int .i64 oa,.int .i64 ob,.int .i64 oc]] ++ Array.replicate (Try.f40.ntmps - 4) undef,[]⟩ [.code (Try.f40.body.getD .skip)] from by simp [Frame.enter,Frame.at,Try.func40]; rfl]
 simp only [Try.f40,Option.getD_some,Nat.reduceSub,Array.replicate_succ,Array.replicate_zero,List.push_toArray,List.append_toArray,List.nil_append,List.cons_append]
 with_reducible refine Lg.mv_seq _ ?_
 refine Lg.mv_reg _ fun K hK y τ n' hy=>?_
 subst hy
 have hn:=HN.out.re hk
 clear HN
 have HN:=Lib.hid hn
 clear hn
 go_wp2
 refine hK _ _ (fun _=>rfl) ?_
 clear hK K
 have hb5:=(HN.out.own 62 #[.int .i64 kd,.int .i64 oa,.int .i64 ob,.int .i64 oc]).alloc (.cells #[.bool false,.int .i64 0,.slice none 0 0] 66)
 have hb6:=(HN.out.alloc (.cells #[.int .i64 kd,.int .i64 oa,.int .i64 ob,.int .i64 oc] 62)).own 66 #[.bool false,.int .i64 0,.slice none 0 0]
 have hn:=(HN.out.alloc (.cells #[.int .i64 kd,.int .i64 oa,.int .i64 ob,.int .i64 oc] 62)).alloc (.cells #[.bool false,.int .i64 0,.slice none 0 0] 66)
 rw [show (y.alloc (.cells #[.int .i64 kd,.int .i64 oa,.int .i64 ob,.int .i64 oc] 62)).heap.size = y.heap.size + 1 from by simp] at hb6
 clear HN
 generalize (y.alloc (.cells #[.int .i64 kd,.int .i64 oa,.int .i64 ob,.int .i64 oc] 62)).alloc (.cells #[.bool false,.int .i64 0,.slice none 0 0] 66) = z at hn hb5 hb6 ⊢
 have hne : y.heap.size≠y.heap.size + 1:=by omega
 generalize y.heap.size + 1 = b6 at hb6 hne ⊢
 generalize y.heap.size = b5 at hb5 hne ⊢
 have HN:=Lib.hid hn
 have HB5:=Lib.hid hb5
 have HB6:=Lib.hid hb6
 clear hn hb5 hb6
 with_reducible refine Lg.mv_seq _ ?_
 with_reducible refine Lg.mv_seq _ ?_
 with_reducible refine Lg.mv_reg _ ?_
 intro K hK y τ n' hy
 subst hy
 have hn:=HN.out.re hk
 have hb5:=HB5.out.re
 have hb6:=HB6.out.re
 clear HN HB5 HB6
 obtain ⟨w1,w2,w3,w4,w5,w6,w7,w8⟩:=Lay.At.rworld hI (show (readY I).At s.1 _ from hn.rep.at_) hi
 have HN:=Lib.hid hn
 have HB5:=Lib.hid hb5
 have HB6:=Lib.hid hb6
 clear hn hb5 hb6
 go_wp2
 refine hK _ _ (fun _=>rfl) ?_
 clear hK K w1 w2 w3 w4 w5 w6 w7 w8
 repeat (first
  | with_reducible refine Lg.mv_seq _ ?_
  | with_reducible refine Lg.mv_skip _ ?_
  | with_reducible refine Lg.mv_block _ ?_
  | with_reducible refine Lg.mv_inBlock _ ?_
  | with_reducible refine Lg.mv_end _ ?_
  | ((with_reducible refine Lg.mv_condT _ ?_ ?_); exact rfl)
  | ((with_reducible refine Lg.mv_condF _ ?_ ?_); exact rfl)
  | ((with_reducible apply Lg.mv_exit); exact rfl))
 with_reducible refine Lg.mv_reg _ ?_
 intro K hK y τ n' hy
 subst hy
 have hn:=HN.out.re hk
 have hb5:=HB5.out.re
 have hb6:=HB6.out.re
 clear HN HB5 HB6
 obtain ⟨w1,w2,w3,w4,w5,w6,w7,w8⟩:=Lay.At.rworld hI (show (readY I).At s.1 _ from hn.rep.at_) hi
 have HN:=Lib.hid hn
 have HB5:=Lib.hid hb5
 have HB6:=Lib.hid hb6
 clear hn hb5 hb6
 have hi0 : (0 : Int)≤i:=by omega
 have hi1 : (i : Int) < I.k:=by omega
 go_quiet (fail)
 refine hK _ _ (fun _=>rfl) ?_
 clear hK K w1 w2 w3 w4 w5 w6 w7 w8 hi0 hi1
 have hn:=HN.out.drewN hk nq
 have hb5:=HB5.out.drewN nq
 have hb6:=HB6.out.drewN nq
 clear HN HB5 HB6
 generalize World.drewN _ nq = z2 at hn hb5 hb6 ⊢
 have HN:=Lib.hid hn
 have HB5:=Lib.hid hb5
 have HB6:=Lib.hid hb6
 clear hn hb5 hb6
 have R : MultiIn (B.on (readY I).inner good) L Cap V rrl rcl rel I.M:=r_in hI hk hS hS2
 have hFR:=R.free_in hk (gate_hold hI hcut)
 obtain rfl:=Q.out
 clear Q
 rw [show doR I.M I.k i ⟨2,oa,ob,oc⟩ s k = rjoinT i s fun n e s=>k (ansT n e) s from if_pos hi]
 repeat (first
  | with_reducible refine Lg.mv_seq _ ?_
  | with_reducible refine Lg.mv_skip _ ?_
  | with_reducible refine Lg.mv_block _ ?_
  | with_reducible refine Lg.mv_inBlock _ ?_
  | with_reducible refine Lg.mv_end _ ?_
  | ((with_reducible refine Lg.mv_condT _ ?_ ?_); exact rfl)
  | ((with_reducible refine Lg.mv_condF _ ?_ ?_); exact rfl)
  | ((with_reducible apply Lg.mv_exit); exact rfl)
  | (with_reducible refine Lg.mv_reg _ ?_
     intro K hK y τ n' hy
     subst hy
     have hn:=HN.out.re hk
     have hb5:=HB5.out.re
     have hb6:=HB6.out.re
     clear HN HB5 HB6
     have o0:=hb5.blk.cell 0
     have o1:=hb5.blk.cell 1
     have o2:=hb5.blk.cell 2
     have o3:=hb5.blk.cell 3
     simp only [List.getElem?_toArray,List.getElem?_cons_zero,List.getElem?_cons_succ] at o0 o1 o2 o3
     have HN:=Lib.hid hn
     have HB5:=Lib.hid hb5
     have HB6:=Lib.hid hb6
     clear hn hb5 hb6
     go_wp2
     refine hK _ _ (fun _=>rfl) ?_
     clear hK K o0 o1 o2 o3))
 with_reducible refine Lg.mv_region _ ?_
 refine Lg.pre 0 2 5 (by simp) fun K hK y τ n' hz=>?_
 subst hz
 have hn:=HN.out.re hk
 have hb5:=HB5.out.re
 have hb6:=HB6.out.re
 clear HN HB5 HB6
 have o0:=hb5.blk.cell 0
 have o1:=hb5.blk.cell 1
 have o2:=hb5.blk.cell 2
 have o3:=hb5.blk.cell 3
 simp only [List.getElem?_toArray,List.getElem?_cons_zero,List.getElem?_cons_succ] at o0 o1 o2 o3
 have HN:=Lib.hid hn
 have HB5:=Lib.hid hb5
 have HB6:=Lib.hid hb6
 clear hn hb5 hb6
 simp only [List.drop_zero,List.take_succ_cons,List.take_zero]
 go_wp2
 refine hK _ _ (fun _=>rfl) ?_
 clear hK K o0 o1 o2 o3
 refine Lg.call (i:=2) (rest:=[3,4,5,6]) (f:=13) (args:=#[.pointer (some ⟨I.rd i,0,none⟩),V]) rfl rfl (fun y=>by go_simp) (reader_joinT hI hk hS hS2 hS3 H y s H _ (HN.out.here hk) hcut i hi _) ?_
 rintro vv t' w' ⟨x,e,s,H,rfl,rfl,hn'⟩
 have hb5:=HB5.out.held hn'.held
 have hb6:=HB6.out.held hn'.held
 have hn:=HN.out.on hn'
 clear HN HB5 HB6 hn'
 have HN:=Lib.hid hn
 have HB5:=Lib.hid hb5
 have HB6:=Lib.hid hb6
 clear hn hb5 hb6
 rw [Frame.finish_at]
 walk_nrm
 refine (show L.T _ (Frame.at _ ⟨_,[]⟩ (.inRegion _ (List.range' 3 (4 + 0)) :: _)) (c :: mid) _ from ?_)
 refine Lg.pre 3 4 0 (by simp) fun K hK y τ n' hz=>?_
 subst hz
 have hn:=HN.out.re hk
 have hb5:=HB5.out.re
 have hb6:=HB6.out.re
 clear HN HB5 HB6
 have HN:=Lib.hid hn
 have HB5:=Lib.hid hb5
 have HB6:=Lib.hid hb6
 clear hn hb5 hb6
 simp only [List.drop_succ_cons,List.drop_zero,List.take_succ_cons,List.take_zero]
 go_wp2_with (go_at_call 68; refine (reader_told _ _ _).mono ?_; rintro e' w' ⟨rfl,hkept⟩; have hn:=HN.out.kept hkept; have hb6:=HB6.out.kept hkept; have z0:=hb6.blk.frozen 0; have z1:=hb6.blk.frozen 1; have z2:=hb6.blk.frozen 2; have o0:=hb6.blk.cell 0; have o1:=hb6.blk.cell 1; have o2:=hb6.blk.cell 2; simp at o0 o1 o2)
 refine hK _ _ (fun _=>rfl) ?_
 clear hK K HN HB5 HB6 o0 o1 o2 z0 z1 z2
 refine Lg.move _ (fun _ _=>step_region_end) (fun h=>h) ?_
 have hbb:=((hb6.set_ 0 (.bool (e == 0))).set_ 1 (.int .i64 (toldN x e))).set_ 2 (.slice none 0 0)
 have hnn:=((hn.set_ hb6 0 (.bool (e == 0))).set_ (hb6.set_ 0 (.bool (e == 0))) 1 (.int .i64 (toldN x e))).set_ ((hb6.set_ 0 (.bool (e == 0))).set_ 1 (.int .i64 (toldN x e))) 2 (.slice none 0 0)
 simp only [List.setIfInBounds_toArray,List.set_cons_zero,List.set_cons_succ] at hbb
 generalize World.setCell _ _ _ = w6 at hbb hnn ⊢
 clear hn hb6
 with_reducible refine Lg.mv_ret _ ?_
 refine Lg.leave rfl Try.func40 rfl (v:=.agg #[.bool (e == 0),.int .i64 (toldN x e),.slice none 0 0]) (fun y τ n hy=>?_) (HR.out _ _ _ ⟨⟨e == 0,toldN x e,[]⟩,_,H,.slice none 0 0,rfl,rfl,hnn,OutRow.nil⟩)
 have c0 : y.cell? ⟨b6,0,none⟩ = some (.bool (e == 0)):=by have:=hbb.blk.cell 0; rw [hy] at this; exact this
 have c1 : y.cell? ⟨b6,1,none⟩ = some (.int .i64 (toldN x e)):=by have:=hbb.blk.cell 1; rw [hy] at this; exact this
 have c2 : y.cell? ⟨b6,2,none⟩ = some (.slice none 0 0):=by have:=hbb.blk.cell 2; rw [hy] at this; exact this
 simp [results,Try.f40,go_sem,c0,c1,c2]
set_option maxHeartbeats 8000000 in
set_option maxRecDepth 100000 in
theorem reader_do1 {I : RIds} (hI : I.Ok) {B : OpsB} {good : OpI→Prop} {L : Lg Try.prog (Tree RSS RSS)} {Cap : (Nat→Prop)→World→Prop} {V : Value} (hk : CapK Cap) (hS : SStep (B.on (readY I).inner good) L Cap 75 V) (hS2 : SStep (B.on (readY I).inner good) L Cap 51 V) (hS3 : SStep (B.on (readY I).inner good) L Cap 59 V) (H0 : Nat→Prop) (w0 : World) (s : RSS) (H : Nat→Prop) (w : World) (hn : Now (B.on (readY I).inner good) Cap H0 w0 s H w)
  (hcut : ∀ fr mid x,L.T .cut fr mid x) (i : Nat) (hi : i < I.k) (kd oa ob oc : Int) (hg : SG ⟨kd,oa,ob,oc⟩) (q : kd = 1) (k : Ans→RSS→Tree RSS RSS) : Ccalls L 40 #[.pointer (some ⟨I.wb,0,none⟩),V,.int .i64 i,OpI.val ⟨kd,oa,ob,oc⟩] (doR I.M I.k i ⟨kd,oa,ob,oc⟩ s k) w fun u t' w'=>∃ a s' H' lv,u = .agg #[.bool a.ok,.int .i64 a.n,lv]∧t' = k a s'∧Now (B.on (readY I).inner good) Cap H0 w0 s' H' w'∧OutRow (B.on (readY I).inner good) w0 H' w' lv a.ls:=by
 have Q:=Lib.hid q
 clear q
 rw [show OpI.val ⟨kd,oa,ob,oc⟩ = .agg #[.int .i64 kd,.int .i64 oa,.int .i64 ob,.int .i64 oc] from rfl]
 intro c mid hR
 have HR:=Lib.hid hR
 have HN:=Lib.hid hn
 clear hR hn
 rw [show Frame.enter Try.prog 40 #[.pointer (some ⟨I.wb,0,none⟩),V,.int .i64 i,.agg #[.int .i64 kd,.int .i64 oa,.int .i64 ob,.int .i64 oc]] .normal = Frame.at { (default : Frame) with fn:=40,kind:=.normal } ⟨#[.pointer (some ⟨I.wb,0,none⟩),V,.int .i64 i,.agg #[.int .i64 kd,.int .i64 oa,.int .i64 ob,.int .i64 oc]] ++ Array.replicate (Try.f40.ntmps - 4) undef,[]⟩ [.code (Try.f40.body.getD .skip)] from by simp [Frame.enter,Frame.at,Try.func40]; rfl]
 simp only [Try.f40,Option.getD_some,Nat.reduceSub,Array.replicate_succ,Array.replicate_zero,List.push_toArray,List.append_toArray,List.nil_append,List.cons_append]
 with_reducible refine Lg.mv_seq _ ?_
 refine Lg.mv_reg _ fun K hK y τ n' hy=>?_
 subst hy
 have hn:=HN.out.re hk
 clear HN
 have HN:=Lib.hid hn
 clear hn
 go_wp2
 refine hK _ _ (fun _=>rfl) ?_
 clear hK K
 have hb5:=(HN.out.own 62 #[.int .i64 kd,.int .i64 oa,.int .i64 ob,.int .i64 oc]).alloc (.cells #[.bool false,.int .i64 0,.slice none 0 0] 66)
 have hb6:=(HN.out.alloc (.cells #[.int .i64 kd,.int .i64 oa,.int .i64 ob,.int .i64 oc] 62)).own 66 #[.bool false,.int .i64 0,.slice none 0 0]
 have hn:=(HN.out.alloc (.cells #[.int .i64 kd,.int .i64 oa,.int .i64 ob,.int .i64 oc] 62)).alloc (.cells #[.bool false,.int .i64 0,.slice none 0 0] 66)
 rw [show (y.alloc (.cells #[.int .i64 kd,.int .i64 oa,.int .i64 ob,.int .i64 oc] 62)).heap.size = y.heap.size + 1 from by simp] at hb6
 clear HN
 generalize (y.alloc (.cells #[.int .i64 kd,.int .i64 oa,.int .i64 ob,.int .i64 oc] 62)).alloc (.cells #[.bool false,.int .i64 0,.slice none 0 0] 66) = z at hn hb5 hb6 ⊢
 have hne : y.heap.size≠y.heap.size + 1:=by omega
 generalize y.heap.size + 1 = b6 at hb6 hne ⊢
 generalize y.heap.size = b5 at hb5 hne ⊢
 have HN:=Lib.hid hn
 have HB5:=Lib.hid hb5
 have HB6:=Lib.hid hb6
 clear hn hb5 hb6
 with_reducible refine Lg.mv_seq _ ?_
 with_reducible refine Lg.mv_seq _ ?_
 with_reducible refine Lg.mv_reg _ ?_
 intro K hK y τ n' hy
 subst hy
 have hn:=HN.out.re hk
 have hb5:=HB5.out.re
 have hb6:=HB6.out.re
 clear HN HB5 HB6
 obtain ⟨w1,w2,w3,w4,w5,w6,w7,w8⟩:=Lay.At.rworld hI (show (readY I).At s.1 _ from hn.rep.at_) hi
 have HN:=Lib.hid hn
 have HB5:=Lib.hid hb5
 have HB6:=Lib.hid hb6
 clear hn hb5 hb6
 go_wp2
 refine hK _ _ (fun _=>rfl) ?_
 clear hK K w1 w2 w3 w4 w5 w6 w7 w8
 repeat (first
  | with_reducible refine Lg.mv_seq _ ?_
  | with_reducible refine Lg.mv_skip _ ?_
  | with_reducible refine Lg.mv_block _ ?_
  | with_reducible refine Lg.mv_inBlock _ ?_
  | with_reducible refine Lg.mv_end _ ?_
  | ((with_reducible refine Lg.mv_condT _ ?_ ?_); exact rfl)
  | ((with_reducible refine Lg.mv_condF _ ?_ ?_); exact rfl)
  | ((with_reducible apply Lg.mv_exit); exact rfl))
 with_reducible refine Lg.mv_reg _ ?_
 intro K hK y τ n' hy
 subst hy
 have hn:=HN.out.re hk
 have hb5:=HB5.out.re
 have hb6:=HB6.out.re
 clear HN HB5 HB6
 obtain ⟨w1,w2,w3,w4,w5,w6,w7,w8⟩:=Lay.At.rworld hI (show (readY I).At s.1 _ from hn.rep.at_) hi
 have HN:=Lib.hid hn
 have HB5:=Lib.hid hb5
 have HB6:=Lib.hid hb6
 clear hn hb5 hb6
 have hi0 : (0 : Int)≤i:=by omega
 have hi1 : (i : Int) < I.k:=by omega
 go_quiet (fail)
 refine hK _ _ (fun _=>rfl) ?_
 clear hK K w1 w2 w3 w4 w5 w6 w7 w8 hi0 hi1
 have hn:=HN.out.drewN hk nq
 have hb5:=HB5.out.drewN nq
 have hb6:=HB6.out.drewN nq
 clear HN HB5 HB6
 generalize World.drewN _ nq = z2 at hn hb5 hb6 ⊢
 have HN:=Lib.hid hn
 have HB5:=Lib.hid hb5
 have HB6:=Lib.hid hb6
 clear hn hb5 hb6
 have R : MultiIn (B.on (readY I).inner good) L Cap V rrl rcl rel I.M:=r_in hI hk hS hS2
 have hFR:=R.free_in hk (gate_hold hI hcut)
 obtain rfl:=Q.out
 clear Q
 rw [show doR I.M I.k i ⟨1,oa,ob,oc⟩ s k = offerT rrl rcl rel I.M (fun _ _ _=>.cut) (rowR oa (wcountR I.M.n ob)) s fun x e s=>k (ansT x e) s from if_pos hi]
 repeat (first
  | with_reducible refine Lg.mv_seq _ ?_
  | with_reducible refine Lg.mv_skip _ ?_
  | with_reducible refine Lg.mv_block _ ?_
  | with_reducible refine Lg.mv_inBlock _ ?_
  | with_reducible refine Lg.mv_end _ ?_
  | ((with_reducible refine Lg.mv_condT _ ?_ ?_); exact rfl)
  | ((with_reducible refine Lg.mv_condF _ ?_ ?_); exact rfl)
  | ((with_reducible apply Lg.mv_exit); exact rfl)
  | (with_reducible refine Lg.mv_reg _ ?_
     intro K hK y τ n' hy
     subst hy
     have hn:=HN.out.re hk
     have hb5:=HB5.out.re
     have hb6:=HB6.out.re
     clear HN HB5 HB6
     have o0:=hb5.blk.cell 0
     have o1:=hb5.blk.cell 1
     have o2:=hb5.blk.cell 2
     have o3:=hb5.blk.cell 3
     simp only [List.getElem?_toArray,List.getElem?_cons_zero,List.getElem?_cons_succ] at o0 o1 o2 o3
     have HN:=Lib.hid hn
     have HB5:=Lib.hid hb5
     have HB6:=Lib.hid hb6
     clear hn hb5 hb6
     go_wp2
     refine hK _ _ (fun _=>rfl) ?_
     clear hK K o0 o1 o2 o3))
 refine Lg.anyS (RDS I b5 ⟨1,oa,ob,oc⟩) (by kernel_rfl) ?_
 simp only [List.size_toArray,List.length_cons,List.length_nil,Nat.reduceAdd]
 refine any_readS (i:=0) (fuel:=24) (some 42) rfl rfl (fun _ _ _ h=>h) (fun _ _ _ _ _=>(Lg.re_iff _).1) (by kernel_rfl) (by kernel_rfl) (by kernel_rfl) rfl (rds_of hI HN.out hi HB5.out) rfl ?_
 apply Exists.intro
 refine ⟨fun wq hw=>?_,?_⟩
 ·obtain ⟨⟨hw0,hw1,hw2,hw3⟩,hw4,hw5,hw6,hw7⟩:=hw
  go_simp
  rfl
 simp only [Act.put,List.setIfInBounds_toArray,List.set_cons_zero,List.set_cons_succ]
 refine any_readS (i:=1) (fuel:=23) (some 43) rfl rfl (fun _ _ _ h=>h) (fun _ _ _ _ _=>(Lg.re_iff _).1) (by kernel_rfl) (by kernel_rfl) (by kernel_rfl) rfl (rds_of hI HN.out hi HB5.out) rfl ?_
 apply Exists.intro
 refine ⟨fun wq hw=>?_,?_⟩
 ·obtain ⟨⟨hw0,hw1,hw2,hw3⟩,hw4,hw5,hw6,hw7⟩:=hw
  go_simp
  rfl
 simp only [Act.put,List.setIfInBounds_toArray,List.set_cons_zero,List.set_cons_succ]
 refine any_readS (i:=2) (fuel:=22) (some 44) rfl rfl (fun _ _ _ h=>h) (fun _ _ _ _ _=>(Lg.re_iff _).1) (by kernel_rfl) (by kernel_rfl) (by kernel_rfl) rfl (rds_of hI HN.out hi HB5.out) rfl ?_
 apply Exists.intro
 refine ⟨fun wq hw=>?_,?_⟩
 ·obtain ⟨⟨hw0,hw1,hw2,hw3⟩,hw4,hw5,hw6,hw7⟩:=hw
  go_simp
  rfl
 simp only [Act.put,List.setIfInBounds_toArray,List.set_cons_zero,List.set_cons_succ]
 refine any_readS (i:=3) (fuel:=21) (some 45) rfl rfl (fun _ _ _ h=>h) (fun _ _ _ _ _=>(Lg.re_iff _).1) (by kernel_rfl) (by kernel_rfl) (by kernel_rfl) rfl (rds_of hI HN.out hi HB5.out) rfl ?_
 apply Exists.intro
 refine ⟨fun wq hw=>?_,?_⟩
 ·obtain ⟨⟨hw0,hw1,hw2,hw3⟩,hw4,hw5,hw6,hw7⟩:=hw
  go_simp
  rfl
 simp only [Act.put,List.setIfInBounds_toArray,List.set_cons_zero,List.set_cons_succ]
 refine any_readS (i:=4) (fuel:=20) (some 46) rfl rfl (fun _ _ _ h=>h) (fun _ _ _ _ _=>(Lg.re_iff _).1) (by kernel_rfl) (by kernel_rfl) (by kernel_rfl) rfl (rds_of hI HN.out hi HB5.out) rfl ?_
 apply Exists.intro
 refine ⟨fun wq hw=>?_,?_⟩
 ·obtain ⟨⟨hw0,hw1,hw2,hw3⟩,hw4,hw5,hw6,hw7⟩:=hw
  go_simp
  rfl
 simp only [Act.put,List.setIfInBounds_toArray,List.set_cons_zero,List.set_cons_succ]
 refine any_readS (i:=5) (fuel:=19) (some 47) rfl rfl (fun _ _ _ h=>h) (fun _ _ _ _ _=>(Lg.re_iff _).1) (by kernel_rfl) (by kernel_rfl) (by kernel_rfl) rfl (rds_of hI HN.out hi HB5.out) rfl ?_
 apply Exists.intro
 refine ⟨fun wq hw=>?_,?_⟩
 ·obtain ⟨⟨hw0,hw1,hw2,hw3⟩,hw4,hw5,hw6,hw7⟩:=hw
  go_simp
  rfl
 simp only [Act.put,List.setIfInBounds_toArray,List.set_cons_zero,List.set_cons_succ]
 refine any_readS (i:=6) (fuel:=18) (some 48) rfl rfl (fun _ _ _ h=>h) (fun _ _ _ _ _=>(Lg.re_iff _).1) (by kernel_rfl) (by kernel_rfl) (by kernel_rfl) rfl (rds_of hI HN.out hi HB5.out) rfl ?_
 apply Exists.intro
 refine ⟨fun wq hw=>?_,?_⟩
 ·obtain ⟨⟨hw0,hw1,hw2,hw3⟩,hw4,hw5,hw6,hw7⟩:=hw
  go_simp
  rfl
 simp only [Act.put,List.setIfInBounds_toArray,List.set_cons_zero,List.set_cons_succ]
 refine any_readS (i:=7) (fuel:=17) (some 49) rfl rfl (fun _ _ _ h=>h) (fun _ _ _ _ _=>(Lg.re_iff _).1) (by kernel_rfl) (by kernel_rfl) (by kernel_rfl) rfl (rds_of hI HN.out hi HB5.out) rfl ?_
 apply Exists.intro
 refine ⟨fun wq hw=>?_,?_⟩
 ·obtain ⟨⟨hw0,hw1,hw2,hw3⟩,hw4,hw5,hw6,hw7⟩:=hw
  go_simp
  rfl
 simp only [Act.put,List.setIfInBounds_toArray,List.set_cons_zero,List.set_cons_succ]
 refine any_readS (i:=8) (fuel:=16) (some 50) rfl rfl (fun _ _ _ h=>h) (fun _ _ _ _ _=>(Lg.re_iff _).1) (by kernel_rfl) (by kernel_rfl) (by kernel_rfl) rfl (rds_of hI HN.out hi HB5.out) rfl ?_
 apply Exists.intro
 refine ⟨fun wq hw=>?_,?_⟩
 ·obtain ⟨⟨hw0,hw1,hw2,hw3⟩,hw4,hw5,hw6,hw7⟩:=hw
  go_simp
  rfl
 simp only [Act.put,List.setIfInBounds_toArray,List.set_cons_zero,List.set_cons_succ]
 refine any_readS (i:=9) (fuel:=15) (some 51) rfl rfl (fun _ _ _ h=>h) (fun _ _ _ _ _=>(Lg.re_iff _).1) (by kernel_rfl) (by kernel_rfl) (by kernel_rfl) rfl (rds_of hI HN.out hi HB5.out) rfl ?_
 apply Exists.intro
 refine ⟨fun wq hw=>?_,?_⟩
 ·obtain ⟨⟨hw0,hw1,hw2,hw3⟩,hw4,hw5,hw6,hw7⟩:=hw
  go_simp
  rfl
 simp only [Act.put,List.setIfInBounds_toArray,List.set_cons_zero,List.set_cons_succ]
 refine any_readS (i:=10) (fuel:=14) (some 52) rfl rfl (fun _ _ _ h=>h) (fun _ _ _ _ _=>(Lg.re_iff _).1) (by kernel_rfl) (by kernel_rfl) (by kernel_rfl) rfl (rds_of hI HN.out hi HB5.out) rfl ?_
 apply Exists.intro
 refine ⟨fun wq hw=>?_,?_⟩
 ·obtain ⟨⟨hw0,hw1,hw2,hw3⟩,hw4,hw5,hw6,hw7⟩:=hw
  go_simp
  rfl
 simp only [Act.put,List.setIfInBounds_toArray,List.set_cons_zero,List.set_cons_succ]
 refine any_readS (i:=11) (fuel:=13) (some 53) rfl rfl (fun _ _ _ h=>h) (fun _ _ _ _ _=>(Lg.re_iff _).1) (by kernel_rfl) (by kernel_rfl) (by kernel_rfl) rfl (rds_of hI HN.out hi HB5.out) rfl ?_
 apply Exists.intro
 refine ⟨fun wq hw=>?_,?_⟩
 ·obtain ⟨⟨hw0,hw1,hw2,hw3⟩,hw4,hw5,hw6,hw7⟩:=hw
  go_simp
  rfl
 simp only [Act.put,List.setIfInBounds_toArray,List.set_cons_zero,List.set_cons_succ]
 refine any_readS (i:=12) (fuel:=12) (some 54) rfl rfl (fun _ _ _ h=>h) (fun _ _ _ _ _=>(Lg.re_iff _).1) (by kernel_rfl) (by kernel_rfl) (by kernel_rfl) rfl (rds_of hI HN.out hi HB5.out) rfl ?_
 apply Exists.intro
 refine ⟨fun wq hw=>?_,?_⟩
 ·obtain ⟨⟨hw0,hw1,hw2,hw3⟩,hw4,hw5,hw6,hw7⟩:=hw
  go_simp
  rfl
 simp only [Act.put,List.setIfInBounds_toArray,List.set_cons_zero,List.set_cons_succ]
 refine any_readS (i:=13) (fuel:=11) (some 55) rfl rfl (fun _ _ _ h=>h) (fun _ _ _ _ _=>(Lg.re_iff _).1) (by kernel_rfl) (by kernel_rfl) (by kernel_rfl) rfl (rds_of hI HN.out hi HB5.out) rfl ?_
 apply Exists.intro
 refine ⟨fun wq hw=>?_,?_⟩
 ·obtain ⟨⟨hw0,hw1,hw2,hw3⟩,hw4,hw5,hw6,hw7⟩:=hw
  go_simp
  rfl
 simp only [Act.put,List.setIfInBounds_toArray,List.set_cons_zero,List.set_cons_succ]
 refine any_readS (i:=14) (fuel:=10) (some 56) rfl rfl (fun _ _ _ h=>h) (fun _ _ _ _ _=>(Lg.re_iff _).1) (by kernel_rfl) (by kernel_rfl) (by kernel_rfl) rfl (rds_of hI HN.out hi HB5.out) rfl ?_
 apply Exists.intro
 refine ⟨fun wq hw=>?_,?_⟩
 ·obtain ⟨⟨hw0,hw1,hw2,hw3⟩,hw4,hw5,hw6,hw7⟩:=hw
  go_simp
  rfl
 simp only [Act.put,List.setIfInBounds_toArray,List.set_cons_zero,List.set_cons_succ]
 refine any_readS (i:=15) (fuel:=9) (some 57) rfl rfl (fun _ _ _ h=>h) (fun _ _ _ _ _=>(Lg.re_iff _).1) (by kernel_rfl) (by kernel_rfl) (by kernel_rfl) rfl (rds_of hI HN.out hi HB5.out) rfl ?_
 apply Exists.intro
 refine ⟨fun wq hw=>?_,?_⟩
 ·obtain ⟨⟨hw0,hw1,hw2,hw3⟩,hw4,hw5,hw6,hw7⟩:=hw
  go_simp
  rfl
 simp only [Act.put,List.setIfInBounds_toArray,List.set_cons_zero,List.set_cons_succ]
 refine any_readS (i:=16) (fuel:=8) (some 58) rfl rfl (fun _ _ _ h=>h) (fun _ _ _ _ _=>(Lg.re_iff _).1) (by kernel_rfl) (by kernel_rfl) (by kernel_rfl) rfl (rds_of hI HN.out hi HB5.out) rfl ?_
 apply Exists.intro
 refine ⟨fun wq hw=>?_,?_⟩
 ·obtain ⟨⟨hw0,hw1,hw2,hw3⟩,hw4,hw5,hw6,hw7⟩:=hw
  go_simp
  rfl
 simp only [Act.put,List.setIfInBounds_toArray,List.set_cons_zero,List.set_cons_succ]
 refine any_readS (i:=17) (fuel:=7) (some 59) rfl rfl (fun _ _ _ h=>h) (fun _ _ _ _ _=>(Lg.re_iff _).1) (by kernel_rfl) (by kernel_rfl) (by kernel_rfl) rfl (rds_of hI HN.out hi HB5.out) rfl ?_
 apply Exists.intro
 refine ⟨fun wq hw=>?_,?_⟩
 ·obtain ⟨⟨hw0,hw1,hw2,hw3⟩,hw4,hw5,hw6,hw7⟩:=hw
  go_simp
  rfl
 simp only [Act.put,List.setIfInBounds_toArray,List.set_cons_zero,List.set_cons_succ]
 refine AnyS.one (i:=18) (fuel:=6) (by kernel_rfl) (.inl fun y τ n hy=>wpOp_of rfl rfl ?_)
 subst hy
 have hn:=HN.out.re hk
 have hb5:=HB5.out.re
 have hb6:=HB6.out.re
 clear HN HB5 HB6
 obtain ⟨w1,w2,w3,w4,w5,w6,w7,w8⟩:=Lay.At.rworld hI (show (readY I).At s.1 _ from hn.rep.at_) hi
 have HN:=Lib.hid hn
 have HB5:=Lib.hid hb5
 have HB6:=Lib.hid hb6
 clear hn hb5 hb6
 unfold Oper.wp
 go_simp
 refine (multi_sizeM _ _ _ _ _ _ w7 w8).mono ?_
 rintro e' w' ⟨rfl,rfl⟩
 dsimp only
 clear w1 w2 w3 w4 w5 w6 w7 w8
 refine ⟨rds_of hI HN.out hi HB5.out,?_⟩
 refine AnyS.one (i:=19) (fuel:=5) (by kernel_rfl) (.inl fun y τ n hy=>wpOp_of rfl rfl ?_)
 subst hy
 have hn:=HN.out.re hk
 have hb5:=HB5.out.re
 have hb6:=HB6.out.re
 clear HN HB5 HB6
 have HN:=Lib.hid hn
 have HB5:=Lib.hid hb5
 have HB6:=Lib.hid hb6
 clear hn hb5 hb6
 unfold Oper.wp
 go_simp
 refine (reader_row oa ob I.M.n hI.n2 _).mono ?_
 rintro e' w' ⟨v,rfl,hown,hbel⟩
 dsimp only
 have hm : wcountR I.M.n ob≤65537:=by have:=hI.n2; unfold wcountR; omega
 generalize wcountR I.M.n ob = m at hown hm ⊢
 obtain ⟨rA,rcap,rfl⟩:=own_slice hown
 have hkept : Kept (fun _=>False) _ w':=Kept.of_below (S:=fun _=>False) hbel
 have ho2 : OutRow (B.on (readY I).inner good) y H w' (.slice rA m rcap) (rowR oa m):=by
  have hl : (rowR oa m).length = m:=by simp [rowR]
  refine ⟨by rw [hl]; exact hown,fun b hb=>?_⟩
  have hge:=(hown.lt b hb).1
  exact ⟨fun z=>by have:=HN.out.rep.lt z; omega,fun z=>by have:=HN.out.rlt z; omega⟩
 have hn:=HN.out.kept hkept
 have hb5:=HB5.out.kept hkept
 have hb6:=HB6.out.kept hkept
 have HO:=Lib.hid ho2
 clear HN HB5 HB6 hown hbel hkept ho2
 have HN:=Lib.hid hn
 have HB5:=Lib.hid hb5
 have HB6:=Lib.hid hb6
 clear hn hb5 hb6
 refine ⟨rds_of hI HN.out hi HB5.out,?_⟩
 refine AnyS.one (i:=20) (fuel:=4) (by kernel_rfl) (.inr ⟨_,23,#[.pointer (some ⟨I.M.mb,0,none⟩),V,.iface 27 (.pointer (some ⟨I.gt,0,none⟩)),.slice rA m rcap],rfl,rfl,fun y=>by go_simp,?_⟩)
 have hml : (rowR oa m).length = m:=by simp [rowR]
 have hof:=fun k=>multi_offerT R hk H w' s H _ (HN.out.here hk) hFR hcut y rA rcap (rowR oa m) (by rw [hml]; exact HO.out) (by rw [hml]; exact hm) k
 rw [hml] at hof
 refine (hof _).mono ?_
 clear hof hml
 rintro vv t' w' ⟨x,e,s,H,rfl,rfl,hn'⟩
 have hb5:=HB5.out.held hn'.held
 have hb6:=HB6.out.held hn'.held
 have hn:=HN.out.on hn'
 clear HN HB5 HB6 hn'
 have HN:=Lib.hid hn
 have HB5:=Lib.hid hb5
 have HB6:=Lib.hid hb6
 clear hn hb5 hb6
 refine ⟨rds_of hI HN.out hi HB5.out,fun _=>rfl,?_⟩
 simp only [Act.put,List.setIfInBounds_toArray,List.set_cons_zero,List.set_cons_succ]
 refine any_readS (i:=21) (fuel:=3) (some 63) rfl rfl (fun _ _ _ h=>h) (fun _ _ _ _ _=>(Lg.re_iff _).1) (by kernel_rfl) (by kernel_rfl) (by kernel_rfl) rfl (rds_of hI HN.out hi HB5.out) rfl ?_
 apply Exists.intro
 refine ⟨fun wq hw=>?_,?_⟩
 ·obtain ⟨⟨hw0,hw1,hw2,hw3⟩,hw4,hw5,hw6,hw7⟩:=hw
  go_simp
  rfl
 simp only [Act.put,List.setIfInBounds_toArray,List.set_cons_zero,List.set_cons_succ]
 refine any_readS (i:=22) (fuel:=2) (some 64) rfl rfl (fun _ _ _ h=>h) (fun _ _ _ _ _=>(Lg.re_iff _).1) (by kernel_rfl) (by kernel_rfl) (by kernel_rfl) rfl (rds_of hI HN.out hi HB5.out) rfl ?_
 apply Exists.intro
 refine ⟨fun wq hw=>?_,?_⟩
 ·obtain ⟨⟨hw0,hw1,hw2,hw3⟩,hw4,hw5,hw6,hw7⟩:=hw
  go_simp
  rfl
 simp only [Act.put,List.setIfInBounds_toArray,List.set_cons_zero,List.set_cons_succ]
 refine AnyS.one (i:=23) (fuel:=1) (by kernel_rfl) (.inl fun y τ n hy=>wpOp_of rfl rfl ?_)
 subst hy
 have hn:=HN.out.re hk
 have hb5:=HB5.out.re
 have hb6:=HB6.out.re
 clear HN HB5 HB6
 have HN:=Lib.hid hn
 have HB5:=Lib.hid hb5
 have HB6:=Lib.hid hb6
 clear hn hb5 hb6
 unfold Oper.wp
 go_simp
 refine (reader_told _ _ _).mono ?_
 rintro e' w' ⟨rfl,hkept⟩
 dsimp only
 have hn:=HN.out.kept hkept
 have hb5:=HB5.out.kept hkept
 have hb6:=HB6.out.kept hkept
 clear HN HB5 HB6
 have HN:=Lib.hid hn
 have HB5:=Lib.hid hb5
 have HB6:=Lib.hid hb6
 clear hn hb5 hb6
 refine ⟨rds_of hI HN.out hi HB5.out,?_⟩
 refine AnyS.one (i:=24) (fuel:=0) (by kernel_rfl) (.inl fun y τ n hy=>wpOp_of rfl rfl ?_)
 subst hy
 have hn:=HN.out.re hk
 have hb5:=HB5.out.re
 have hb6:=HB6.out.re
 clear HN HB5 HB6
 have o0:=hb6.blk.cell 0
 have o1:=hb6.blk.cell 1
 have o2:=hb6.blk.cell 2
 have z0:=hb6.blk.frozen 0
 have z1:=hb6.blk.frozen 1
 have z2:=hb6.blk.frozen 2
 simp only [List.getElem?_toArray,List.getElem?_cons_zero,List.getElem?_cons_succ] at o0 o1 o2
 have HN:=Lib.hid hn
 have HB5:=Lib.hid hb5
 have HB6:=Lib.hid hb6
 clear hn hb5 hb6
 unfold Oper.wp
 go_simp
 clear o0 o1 o2 z0 z1 z2
 have hn:=HN.out
 have hb5:=HB5.out
 have hb6:=HB6.out
 clear HN HB5 HB6
 have hb55:=((hb5.far hne 0 (.bool (e == 0))).far hne 1 (.int .i64 (toldN x e))).far hne 2 (.slice none 0 0)
 have hbb:=((hb6.set_ 0 (.bool (e == 0))).set_ 1 (.int .i64 (toldN x e))).set_ 2 (.slice none 0 0)
 have hnn:=((hn.set_ hb6 0 (.bool (e == 0))).set_ (hb6.set_ 0 (.bool (e == 0))) 1 (.int .i64 (toldN x e))).set_ ((hb6.set_ 0 (.bool (e == 0))).set_ 1 (.int .i64 (toldN x e))) 2 (.slice none 0 0)
 simp only [List.setIfInBounds_toArray,List.set_cons_zero,List.set_cons_succ] at hbb
 generalize World.setCell _ _ _ = w6 at hbb hnn hb55 ⊢
 refine ⟨rds_of hI hnn hi hb55,?_⟩
 refine AnyS.done (by kernel_rfl) ?_ _
 refine (show L.T _ _ _ _ from ?_)
 clear hn hb5 hb6 hb55
 with_reducible refine Lg.mv_ret _ ?_
 refine Lg.leave rfl Try.func40 rfl (v:=.agg #[.bool (e == 0),.int .i64 (toldN x e),.slice none 0 0]) (fun y τ n hy=>?_) (HR.out _ _ _ ⟨⟨e == 0,toldN x e,[]⟩,_,H,.slice none 0 0,rfl,rfl,hnn,OutRow.nil⟩)
 have c0 : y.cell? ⟨b6,0,none⟩ = some (.bool (e == 0)):=by have:=hbb.blk.cell 0; rw [hy] at this; exact this
 have c1 : y.cell? ⟨b6,1,none⟩ = some (.int .i64 (toldN x e)):=by have:=hbb.blk.cell 1; rw [hy] at this; exact this
 have c2 : y.cell? ⟨b6,2,none⟩ = some (.slice none 0 0):=by have:=hbb.blk.cell 2; rw [hy] at this; exact this
 simp [results,Try.f40,go_sem,c0,c1,c2]
end Go.Proofs.Ytlhbonnminlnlaa
