/- DERIVED. A slice of numbers that comes in. -/
import Derived.Test.YtlhbonnminlnlaaGh
import Derived.Laws.Cover1
import Derived.Test.YtlhbonnminlnlaaGd
import Derived.Laws.LoneSync
set_option linter.unusedVariables false
namespace Go.Proofs.Ytlhbonnminlnlaa
open Go.RowKit
def highR (st : Nat→Int) (n : Nat) : Nat→Int→Int × Nat
 | 0,q=>(q - 1,0)
 | k + 1,q=>if st (q % n).toNat = 2 * (q / n) then ((highR st n k (q + 1)).1,(highR st n k (q + 1)).2 + 1) else (q - 1,1)
def highN (n : Nat) (a b : Int) : Nat:=(min (min b (a + n - 1)) 4611686018427387903 + 1 - a).toNat
set_option maxRecDepth 100000 in
theorem highest_x (X : Stepper) (hs : X.Steps Try.prog 51) (t rb sb n : Nat) (st va : Nat→Int) (a b : Int) (w : World) (H : RingAt w rb sb n st va) (h0 : 0≤a) (h1 : a < 4611686018427387904) (hab : a≤b) (hb : b < 9223372036854775808) (A : X.at_ t w) (n1 : ¬ X.own rb) (n2 : ¬ X.own sb) :
  Calls Try.prog 34 #[.pointer (some ⟨rb,0,none⟩),X.v,.int .i64 a,.int .i64 b] w fun e w'=>e = .returned (.int .i64 (highR st n (highN n a b) a).1)∧Kept X.own w w'∧w'.heap.size = w.heap.size∧X.at_ (t + (highR st n (highN n a b) a).2) w':=by
 have hn:=H.pos
 have h2:=H.most
 have hr:=H.ring
 have HH:=Lib.hid H
 have HN1:=Lib.hid n1
 have HN2:=Lib.hid n2
 have HA:=Lib.hid A
 clear H n1 n2 A
 go_enter Try.func34,Try.ntmps34
 obtain ⟨Y,e1⟩ : ∃ Y,(if a + (n : Int) - 1 < b then a + (n : Int) - 1 else b) = Y:=⟨_,rfl⟩
 obtain ⟨M,e2⟩ : ∃ M,(if 4611686018427387903 < Y then 4611686018427387903 else Y) = M:=⟨_,rfl⟩
 obtain ⟨m0,m1,m2,m3⟩ : a - 1≤M∧M≤4611686018427387903∧(M + 1 - a).toNat = highN n a b∧a≤M:=by
  unfold highN
  rw [← e2,← e1]
  split <;> split <;> omega
 generalize highN n a b = kk at m2 ⊢
 have hk:=Lib.hid m2
 clear m2
 go_wp2_with (first | (go_at_call 48; refine (good_yes _ _ n _ a _ hr hn h0 h1).mono ?_; rintro e w' ⟨rfl,rfl⟩) | (go_at_call 46; refine (size_ring _ _ n _ _ hr).mono ?_; rintro e w' ⟨rfl,rfl⟩))
 clear e1 e2 hr hab hb
 have hk:=hk.out
 go_loopw [10] (fun i wr=>∃ j : Nat,j≤kk∧i = .int .i64 (a + j)∧(highR st n kk a).1 = (highR st n (kk - j) (a + j)).1∧(highR st n kk a).2 = (highR st n (kk - j) (a + j)).2 + j∧Kept X.own w wr∧wr.heap.size = w.heap.size∧X.at_ (t + j) wr) (fun i _=>kk - (intOf i - a).toNat)
 case atStart=>exact ⟨0,Nat.zero_le _,by simp,by simp,by simp,Kept.refl _ _,rfl,HA.out⟩
 case round =>
  obtain ⟨j,hj,rfl,r1,r2,K1,Z1,A1⟩:=hrel
  have HK:=Lib.hid (And.intro r1 (And.intro r2 (And.intro K1 (And.intro Z1 A1))))
  clear r1 r2 K1 Z1 A1
  by_cases hlt : j < kk
  ·go_wp2_with fail
   refine (there_x X hs (t + j) rb sb n st va (a + j) wr (HH.out.kept HK.out.2.2.1 HN1.out HN2.out) (by omega) (by omega) HK.out.2.2.2.2 HN1.out HN2.out).mono ?_
   rintro e w1 ⟨rfl,K2,Z2,A2⟩
   obtain ⟨r1,r2,K1,Z1,A1⟩:=HK.out
   obtain ⟨k,hkk⟩ : ∃ k,kk - j = k + 1:=⟨kk - j - 1,by omega⟩
   rw [hkk] at r1 r2
   simp only [highR] at r1 r2
   by_cases heq : st ((a + j) % (n : Int)).toNat = 2 * ((a + j) / (n : Int))
   ·rw [if_pos heq] at r1 r2
    have hB : (st ((a + j) % (n : Int)).toNat == 2 * ((a + j) / (n : Int))) = true:=by simpa using heq
    rw [hB]
    have HX:=Lib.hid (And.intro r1 (And.intro r2 (And.intro (K1.trans K2) (And.intro (Z2.trans Z1) A2))))
    have Hk:=Lib.hid hkk
    clear r1 r2 K1 Z1 A1 K2 Z2 A2 HK heq hB hkk
    go_wp2
    go_roundw
    case rel =>
     obtain ⟨x1,x2,x3,x4,x5⟩:=HX.out
     have hkk:=Hk.out
     rw [show a + (j : Int) + 1 = a + ((j + 1 : Nat) : Int) from by omega,show k = kk - (j + 1) from by omega] at x1 x2
     exact ⟨j + 1,by omega,by go_num,x1,by omega,x3,x4,x5⟩
    case measure=>simp [intOf]; omega
   ·rw [if_neg heq] at r1 r2
    have hB : (st ((a + j) % (n : Int)).toNat == 2 * ((a + j) / (n : Int))) = false:=by simpa using heq
    rw [hB]
    have HX:=Lib.hid (And.intro r1 (And.intro r2 (And.intro (K1.trans K2) (And.intro (Z2.trans Z1) A2))))
    clear r1 r2 K1 Z1 A1 K2 Z2 A2 HK heq hB hkk
    go_wp2
    go_ret
    obtain ⟨x1,x2,x3,x4,x5⟩:=HX.out
    exact ⟨by rw [x1]; rfl,x3,x4,by rw [x2]; rw [show t + (1 + j) = t + j + 1 from by omega]; exact x5⟩
  ·have ej : j = kk:=by omega
   subst ej
   go_wp2
   go_ret
   obtain ⟨r1,r2,K1,Z1,A1⟩:=HK.out
   simp only [Nat.sub_self,highR] at r1 r2
   exact ⟨by rw [r1]; exact congrArg (fun z=>Ending.returned (.int .i64 z)) (by omega),K1,Z1,by rw [r2]; simpa using A1⟩
end Go.Proofs.Ytlhbonnminlnlaa
namespace Go.Proofs.Ytlhbonnminlnlaa
open Go.RowKit Go.Turn Go.Tame Go.Conc
def thereT {A R : Type} (l : RLens A) (n : Nat) (q : Int) (s : A × R) (k : Bool→A × R→Tree (A × R) (A × R)) : Tree (A × R) (A × R):=
 .yield s fun s1=>k ((l.get s1.1).1 (q % n).toNat == 2 * (q / n)) s1
set_option maxHeartbeats 2000000 in
set_option maxRecDepth 100000 in
theorem slots_there {D : OpsD} {l : RLens D.A} {rb sb rn : Nat} (R : RingIn D l rb sb rn) {L : Lg Try.prog (Tree D.St D.St)} {Cap : (Nat→Prop)→World→Prop} {V : Value} (hk : CapK Cap) (hS : SStep D L Cap 51 V) (hrn : 0 < rn) (h2 : rn≤65536) (q : Int) (h0 : 0≤q) (h1 : q < 4611686018427387904) (H0 : Nat→Prop) (w0 : World) (s : D.St) (H : Nat→Prop) (k) (w : World) (hn : Now D Cap H0 w0 s H w) :
  Ccalls L 60 #[.pointer (some ⟨rb,0,none⟩),V,.int .i64 q] (thereT l rn q s k) w fun u t' w'=>∃ b s' H',u = .bool b∧t' = k b s'∧Now D Cap H0 w0 s' H' w':=by
 have hb0 : 0≤q % (rn : Int):=Int.emod_nonneg _ (by omega)
 have hb1 : q % (rn : Int) < rn:=Int.emod_lt_of_pos _ (by omega)
 have hd0 : 0≤q / (rn : Int):=Int.ediv_nonneg h0 (by omega)
 have hd1 : q / (rn : Int)≤q:=Int.ediv_le_self _ h0
 intro c mid hR
 have HR:=Lib.hid hR
 have HN:=Lib.hid hn
 clear hR hn
 rw [show Frame.enter Try.prog 60 #[.pointer (some ⟨rb,0,none⟩),V,.int .i64 q] .normal = Frame.at { (default : Frame) with fn:=60,kind:=.normal } ⟨#[.pointer (some ⟨rb,0,none⟩),V,.int .i64 q] ++ Array.replicate (Try.f60.ntmps - 3) undef,[]⟩ [.code (Try.f60.body.getD .skip)] from by simp [Frame.enter,Frame.at,Try.func60]; rfl]
 simp only [Try.f60,Option.getD_some,Nat.reduceSub,Array.replicate_succ,Array.replicate_zero,List.push_toArray,List.append_toArray,List.nil_append,List.cons_append]
 unfold thereT
 refine Lg.move _ (fun _ _=>step_seq) (fun h=>h) ?_
 refine Lg.code fun K hK y τ n' hy=>?_
 subst hy
 have hn:=HN.out.re hk
 clear HN
 have hr:=(R.at_ _ _ _ hn.rep).r.ring
 have HN:=Lib.hid hn
 clear hn
 go_wp2
 refine hK _ _ (fun _=>rfl) ?_
 clear hK K hr
 refine Lg.move _ (fun _ _=>step_seq) (fun h=>h) ?_
 refine Lg.code fun K hK y τ n' hy=>?_
 subst hy
 have hn:=HN.out.re hk
 clear HN
 have hr:=(R.at_ _ _ _ hn.rep).r.ring
 have HN:=Lib.hid hn
 clear hn
 go_wp2_with (go_at_call 48; refine (good_yes _ _ rn _ q _ hr hrn h0 h1).mono ?_; rintro e w' ⟨rfl,rfl⟩)
 refine hK _ _ (fun _=>rfl) ?_
 clear hK K hr
 refine Lg.move _ (fun _ _=>step_seq) (fun h=>h) ?_
 refine Lg.move _ (fun _ _=>step_region) (fun h=>h) ?_
 refine Lg.pre 0 1 1 (by simp) fun K hK z τ n' hz=>?_
 subst hz
 go_wp2
 refine hK _ _ (fun _=>rfl) ?_
 clear hK K
 refine Lg.call (i:=1) (rest:=[]) (f:=51) (args:=#[V]) rfl rfl (fun y=>by go_simp) (hS _ _ _ _ _ _ (HN.out.re hk)) ?_
 rintro vv t' w' ⟨rfl,s,H,rfl,hn⟩
 clear HN
 rw [Frame.finish_at]
 walk_nrm
 refine Lg.move _ (fun _ _=>step_region_end) (fun h=>h) ?_
 have HN:=Lib.hid hn
 clear hn
 refine Lg.move _ (fun _ _=>step_seq) (fun h=>h) ?_
 refine Lg.code fun K hK y τ n' hy=>?_
 subst hy
 have hn:=HN.out.re hk
 clear HN
 have hat:=R.at_ _ _ _ hn.rep
 have s0:=hat.r.stamp (q % (rn : Int)).toNat (by omega)
 have hr:=hat.r.ring
 have HN:=Lib.hid hn
 clear hn hat
 go_quiet (first | (go_at_call 49; exact quietS (slot_yes _ _ rn _ q _ hr hrn h2 h0 h1)) | (go_at_call 50; exact quietS (lap_yes _ _ rn _ q _ hr hrn h2 h0 h1)) | (go_at_call 52; exact quietS (atomic_load _ _ _ s0)))
 refine hK _ _ (fun _=>rfl) ?_
 clear hK K hr s0
 have hn:=HN.out.drewN hk nq
 generalize World.drewN _ nq = y' at hn ⊢
 clear HN
 refine Lg.move _ (fun _ _=>step_ret) (fun h=>h) ?_
 refine Lg.leave rfl Try.func60 rfl (v:=.bool _) (fun _ _ _ _=>by simp [results,Try.f60]) (HR.out _ _ _ ⟨_,_,H,rfl,rfl,hn⟩)
def highT {A R : Type} (l : RLens A) (n : Nat) : Nat→Int→A × R→(Int→A × R→Tree (A × R) (A × R))→Tree (A × R) (A × R)
 | 0,q,s,k=>k (q - 1) s
 | j + 1,q,s,k=>thereT l n q s fun b s'=>if b then highT l n j (q + 1) s' k else k (q - 1) s'
abbrev frH (f : Nat→Value) : Array Value:=#[f 0,f 1,f 2,f 3,f 4,f 5,f 6,f 7,f 8,f 9,f 10,f 11,f 12,f 13,f 14,f 15,f 16,f 17,f 18,f 19,f 20,f 21,f 22,f 23,f 24,f 25,f 26,f 27,f 28,f 29,f 30,f 31,f 32,f 33,f 34,f 35,f 36,f 37,f 38,f 39,f 40,f 41,f 42,f 43,f 44,f 45]
set_option maxHeartbeats 4000000 in
set_option maxRecDepth 100000 in
theorem slots_highest {D : OpsD} {l : RLens D.A} {rb sb rn : Nat} (R : RingIn D l rb sb rn) {L : Lg Try.prog (Tree D.St D.St)} {Cap : (Nat→Prop)→World→Prop} {V : Value} (hk : CapK Cap) (hS : SStep D L Cap 51 V) (hrn : 0 < rn) (h2 : rn≤65536) (a b : Int) (h0 : 0≤a) (h1 : a < 4611686018427387904) (hab : a≤b) (hb : b < 9223372036854775808) (H0 : Nat→Prop) (w0 : World) (s : D.St) (H : Nat→Prop) (k) (w : World) (hn : Now D Cap H0 w0 s H w) :
  Ccalls L 34 #[.pointer (some ⟨rb,0,none⟩),V,.int .i64 a,.int .i64 b] (highT l rn (highN rn a b) a s k) w fun u t' w'=>∃ x s' H',u = .int .i64 x∧t' = k x s'∧Now D Cap H0 w0 s' H' w':=by
 intro c mid hR
 have HR:=Lib.hid hR
 have HN:=Lib.hid hn
 clear hR hn
 rw [show Frame.enter Try.prog 34 #[.pointer (some ⟨rb,0,none⟩),V,.int .i64 a,.int .i64 b] .normal = Frame.at { (default : Frame) with fn:=34,kind:=.normal } ⟨#[.pointer (some ⟨rb,0,none⟩),V,.int .i64 a,.int .i64 b] ++ Array.replicate (Try.f34.ntmps - 4) undef,[]⟩ [.code (Try.f34.body.getD .skip)] from by simp [Frame.enter,Frame.at,Try.func34]; rfl]
 simp only [Try.f34,Option.getD_some,Nat.reduceSub,Array.replicate_succ,Array.replicate_zero,List.push_toArray,List.append_toArray,List.nil_append,List.cons_append]
 refine Lg.move _ (fun _ _=>step_seq) (fun h=>h) ?_
 refine Lg.code fun K hK y τ n' hy=>?_
 subst hy
 have hn:=HN.out.re hk
 clear HN
 have hr:=(R.at_ _ _ _ hn.rep).r.ring
 have HN:=Lib.hid hn
 clear hn
 go_wp2
 refine hK _ _ (fun _=>rfl) ?_
 clear hK K hr
 refine Lg.move _ (fun _ _=>step_seq) (fun h=>h) ?_
 refine Lg.code fun K hK y τ n' hy=>?_
 subst hy
 have hn:=HN.out.re hk
 clear HN
 have hr:=(R.at_ _ _ _ hn.rep).r.ring
 have HN:=Lib.hid hn
 clear hn
 go_wp2_with (go_at_call 48; refine (good_yes _ _ rn _ a _ hr hrn h0 h1).mono ?_; rintro e w' ⟨rfl,rfl⟩)
 refine hK _ _ (fun _=>rfl) ?_
 clear hK K hr
 obtain ⟨Y,e1⟩ : ∃ Y,(if a + (rn : Int) - 1 < b then a + (rn : Int) - 1 else b) = Y:=⟨_,rfl⟩
 obtain ⟨M,e2⟩ : ∃ M,(if 4611686018427387903 < Y then 4611686018427387903 else Y) = M:=⟨_,rfl⟩
 obtain ⟨m0,m1,m2,m3⟩ : a - 1≤M∧M≤4611686018427387903∧(M + 1 - a).toNat = highN rn a b∧a≤M:=by
  unfold highN
  rw [← e2,← e1]
  split <;> split <;> omega
 generalize highN rn a b = kk at m2 ⊢
 have hkk:=Lib.hid m2
 clear m2
 refine Lg.move _ (fun _ _=>step_seq) (fun h=>h) ?_
 refine Lg.code fun K hK y τ n' hy=>?_
 subst hy
 have hn:=HN.out.re hk
 clear HN
 have hr:=(R.at_ _ _ _ hn.rep).r.ring
 have HN:=Lib.hid hn
 clear hn
 go_wp2_with (go_at_call 46; refine (size_ring _ _ rn _ _ hr).mono ?_; rintro e w' ⟨rfl,rfl⟩)
 refine hK _ _ (fun _=>rfl) ?_
 clear hK K hr e1 e2 hab hb
 refine Lg.move _ (fun _ _=>step_seq) (fun h=>h) ?_
 refine Lg.move _ (fun _ _=>step_seq) (fun h=>h) ?_
 refine Lg.code fun K hK y τ n' hy=>?_
 subst hy
 have hn:=HN.out.re hk
 clear HN
 have HN:=Lib.hid hn
 clear hn
 go_wp2
 refine hK _ _ (fun _=>rfl) ?_
 clear hK K
 refine Lg.move _ (fun _ _=>step_block) (fun h=>h) ?_
 refine Lg.family frH (R:=fun f=>f 0 = .pointer (some ⟨rb,0,none⟩)∧f 1 = V∧f 9 = .int .i64 M∧f 10 = .int .i64 a) ?_ (by rfl) ⟨rfl,rfl,rfl,rfl⟩
 rintro f1 ⟨n0,n1,n9,n10⟩
 refine Lg.loop_fr frH (fun f t w=>∃ j : Nat,j≤kk∧∃ s' H',f 0 = .pointer (some ⟨rb,0,none⟩)∧f 1 = V∧f 9 = .int .i64 M∧f 10 = .int .i64 (a + j)∧t = highT l rn (kk - j) (a + j) s' k∧Now D Cap H0 w0 s' H' w) (fun f _ _=>kk - (intOf (f 10) - a).toNat) ⟨0,Nat.zero_le _,s,H,n0,n1,n9,by simpa using n10,by simp,HN.out⟩ ?_
 clear HN n0 n1 n9 n10 f1 s H
 rintro f2 t w2 ⟨j,hj,s,H,k0,k1,k9,k10,rfl,hn⟩ hnext
 have HX:=Lib.hid hnext
 have HN:=Lib.hid hn
 clear hnext hn
 simp only [frH,k0,k1,k9,k10]
 have hkk':=hkk.out
 refine Lg.move _ (fun _ _=>step_seq) (fun h=>h) ?_
 refine Lg.move _ (fun _ _=>step_seq) (fun h=>h) ?_
 refine Lg.code fun K hK y τ n' hy=>?_
 subst hy
 have hn:=HN.out.re hk
 clear HN
 have HN:=Lib.hid hn
 clear hn
 go_wp2
 refine hK _ _ (fun _=>rfl) ?_
 clear hK K
 by_cases hlt : j < kk
 ·have hle : decide (a + (j : Int)≤M) = true:=decide_eq_true (by omega)
  simp only [hle]
  refine Lg.move _ (fun _ _=>step_cond (t:=true) rfl) (fun h=>h) ?_
  refine Lg.move _ (fun _ _=>step_skip) (fun h=>h) ?_
  refine Lg.move _ (fun _ _=>step_seq) (fun h=>h) ?_
  refine Lg.move _ (fun _ _=>step_block) (fun h=>h) ?_
  refine Lg.move _ (fun _ _=>step_seq) (fun h=>h) ?_
  refine Lg.move _ (fun _ _=>step_region) (fun h=>h) ?_
  refine Lg.pre 0 3 2 (by simp) fun K hK z τ n' hz=>?_
  subst hz
  have hn:=HN.out.re hk
  clear HN
  simp only [List.drop_zero,List.take_succ_cons,List.take_zero]
  have HN:=Lib.hid hn
  clear hn
  go_wp2
  refine hK _ _ (fun _=>rfl) ?_
  clear hK K
  rw [show highT l rn (kk - j) (a + j) s k = thereT l rn (a + j) s fun b s'=>if b then highT l rn (kk - (j + 1)) (a + ((j + 1 : Nat) : Int)) s' k else k (a + j - 1) s' from by
   rw [show kk - j = (kk - (j + 1)) + 1 from by omega,show a + ((j + 1 : Nat) : Int) = a + j + 1 from by omega]; rfl]
  refine Lg.call (i:=3) (rest:=[4]) (f:=60) (args:=#[.pointer (some ⟨rb,0,none⟩),V,.int .i64 (a + j)]) rfl rfl (fun y=>by go_simp) (slots_there R hk hS hrn h2 (a + j) (by omega) (by omega) H0 w0 s H _ z HN.out) ?_
  rintro vv t' w' ⟨bb,s,H,rfl,rfl,hn⟩
  clear HN
  have HN:=Lib.hid hn
  clear hn
  rw [Frame.finish_at]
  walk_nrm
  refine (show L.T _ (Frame.at _ ⟨_,[]⟩ (.inRegion _ (List.range' 4 (1 + 0)) :: _)) (c :: mid) w' from ?_)
  refine Lg.pre 4 1 0 (by simp) fun K hK z τ n' hz=>?_
  subst hz
  have hn:=HN.out.re hk
  clear HN
  simp only [List.drop_succ_cons,List.drop_zero,List.take_succ_cons,List.take_zero]
  have HN:=Lib.hid hn
  clear hn
  go_wp2
  refine hK _ _ (fun _=>rfl) ?_
  clear hK K
  refine Lg.move _ (fun _ _=>step_region_end) (fun h=>h) ?_
  cases bb with
  | true =>
    refine Lg.move _ (fun _ _=>step_cond (t:=false) rfl) (fun h=>h) ?_
    refine Lg.move _ (fun _ _=>step_skip) (fun h=>h) ?_
    refine Lg.move _ (fun _ _=>step_inBlock) (fun h=>h) ?_
    refine Lg.code fun K hK y τ n' hy=>?_
    subst hy
    have hn:=HN.out.re hk
    clear HN
    have HN:=Lib.hid hn
    clear hn
    go_wp2
    refine hK _ _ (fun _=>rfl) ?_
    clear hK K
    refine Lg.family frH (R:=fun f=>f 0 = .pointer (some ⟨rb,0,none⟩)∧f 1 = V∧f 9 = .int .i64 M∧f 10 = .int .i64 (a + ((j + 1 : Nat) : Int))) ?_ (by rfl) ⟨rfl,rfl,rfl,by simp; omega⟩
    rintro f' ⟨p0,p1,p9,p10⟩
    exact HX.out f' _ _ ⟨j + 1,by omega,s,H,p0,p1,p9,p10,rfl,HN.out⟩ (by rw [p10,k10]; simp only [intOf]; omega)
  | false =>
    refine Lg.move _ (fun _ _=>step_cond (t:=true) rfl) (fun h=>h) ?_
    refine Lg.move _ (fun _ _=>step_seq) (fun h=>h) ?_
    refine Lg.code fun K hK y τ n' hy=>?_
    subst hy
    have hn:=HN.out.re hk
    clear HN
    have HN:=Lib.hid hn
    clear hn
    go_wp2
    refine hK _ _ (fun _=>rfl) ?_
    clear hK K
    refine Lg.move _ (fun _ _=>step_ret) (fun h=>h) ?_
    exact Lg.leave rfl Try.func34 rfl (v:=.int .i64 (a + j - 1)) (fun _ _ _ _=>by simp [results,Try.f34]) (HR.out _ _ _ ⟨_,_,H,rfl,rfl,HN.out⟩)
 ·have hle : decide (a + (j : Int)≤M) = false:=decide_eq_false (by omega)
  simp only [hle]
  refine Lg.move _ (fun _ _=>step_cond (t:=false) rfl) (fun h=>h) ?_
  refine Lg.move _ (fun _ _=>step_exit rfl) (fun h=>h) ?_
  refine Lg.move _ (fun _ _=>step_seq) (fun h=>h) ?_
  refine Lg.code fun K hK y τ n' hy=>?_
  subst hy
  have hn:=HN.out.re hk
  clear HN
  have HN:=Lib.hid hn
  clear hn
  go_wp2
  refine hK _ _ (fun _=>rfl) ?_
  clear hK K
  have hjk : j = kk:=by omega
  subst hjk
  rw [show highT l rn (j - j) (a + j) s k = k (a + j - 1) s from by rw [Nat.sub_self]; rfl,show a + (j : Int) - 1 = M from by omega]
  refine Lg.move _ (fun _ _=>step_ret) (fun h=>h) ?_
  exact Lg.leave rfl Try.func34 rfl (v:=.int .i64 M) (fun _ _ _ _=>by simp [results,Try.f34]) (HR.out _ _ _ ⟨_,_,H,rfl,rfl,HN.out⟩)
def InB (q : Int) : Prop:=0≤q∧q < 4611686018427387904
instance (q : Int) : Decidable (InB q):=inferInstanceAs (Decidable (_∧_))
section
variable {A R : Type} (l : RLens A) (n : Nat)
def putG (q v : Int) (s : A × R) (k : Int→A × R→Tree (A × R) (A × R)) : Tree (A × R) (A × R):=if InB q then putT l n q v s (k 0) else k 1 s
def getG (q : Int) (s : A × R) (k : Int→Int→A × R→Tree (A × R) (A × R)) : Tree (A × R) (A × R):=if InB q then getT l n q s k else k 0 1 s
def thereG (q : Int) (s : A × R) (k : Bool→A × R→Tree (A × R) (A × R)) : Tree (A × R) (A × R):=if InB q then thereT l n q s k else k false s
def highG (a b : Int) (s : A × R) (k : Int→A × R→Tree (A × R) (A × R)) : Tree (A × R) (A × R):=if InB a∧a≤b then highT l n (highN n a b) a s k else k (pre64 a) s
end
theorem highest_less (a : Addr) (sa : Option Addr) (n c : Nat) (S : Value) (q t : Int) (w : World) (h : w.cell? a = some (.slice sa n c)) (hn : 0 < n) (h0 : 0≤q) (h1 : q < 4611686018427387904) (hlt : t < q) :
  Calls Try.prog 34 #[.pointer (some a),S,.int .i64 q,.int .i64 t] w fun e w'=>e = .returned (.int .i64 (pre64 q))∧w = w':=by
 have hb : (q == -9223372036854775808) = false:=by simp only [beq_eq_false_iff_ne]; omega
 have hp : pre64 q = q - 1:=if_neg (by omega)
 rw [hp]
 clear hp
 go_enter Try.func34,Try.ntmps34
 go_wp2_with (go_at_call 48; refine (good_yes a sa n c q w h hn h0 h1).mono ?_; rintro e w' ⟨rfl,rfl⟩)
 go_ret
 exact ⟨rfl,rfl⟩
theorem bad_at (a : Addr) (sa : Option Addr) (n c : Nat) (q : Int) (w : World) (h : w.cell? a = some (.slice sa n c)) (hq : ¬ InB q) : BadAt (some a) q w:=by
 by_cases h0 : q < 0
 ·exact bad_low a sa n c q w h h0
 ·exact bad_high a sa n c q w h (by unfold InB at hq; omega)
theorem put_any {D : OpsD} {l : RLens D.A} {rb sb rn : Nat} (R : RingIn D l rb sb rn) {L : Lg Try.prog (Tree D.St D.St)} {Cap : (Nat→Prop)→World→Prop} {V : Value} (hk : CapK Cap) (hS : SStep D L Cap 51 V) (hrn : 0 < rn) (h2 : rn≤65536) (H0 : Nat→Prop) (w0 : World) (s : D.St) (H : Nat→Prop) (w : World) (hn : Now D Cap H0 w0 s H w) (q v : Int) (k : Int→D.St→Tree D.St D.St) : Ccalls L 74 #[.pointer (some ⟨rb,0,none⟩),V,.int .i64 q,.int .i64 v] (putG l rn q v s k) w fun u t' w'=>∃ e s' H',u = .int .i64 e∧t' = k e s'∧Now D Cap H0 w0 s' H' w':=by
 by_cases hq : InB q
 ·rw [show putG l rn q v s k = putT l rn q v s (k 0) from if_pos hq]
  exact (slots_put R hk hS hrn h2 q v hq.1 hq.2 H0 w0 s H _ w hn).mono fun u t' w' ⟨e,s',H',h1,h2⟩=>⟨0,s',H',e,h1,h2⟩
 ·rw [show putG l rn q v s k = k 1 s from if_neg hq]
  refine ccalls_lone fun y τ n' hy=>?_
  subst hy
  have hn:=hn.re hk
  have hb:=bad_at ⟨rb,0,none⟩ _ _ _ q y (R.at_ _ _ _ hn.rep).r.ring hq
  exact (put_bad hb V v).mono fun e w' ⟨h1,h2⟩=>⟨_,h1,1,s,H,rfl,rfl,h2 ▸ hn⟩
theorem get_any {D : OpsD} {l : RLens D.A} {rb sb rn : Nat} (R : RingIn D l rb sb rn) {L : Lg Try.prog (Tree D.St D.St)} {Cap : (Nat→Prop)→World→Prop} {V : Value} (hk : CapK Cap) (hS : SStep D L Cap 51 V) (hrn : 0 < rn) (h2 : rn≤65536) (H0 : Nat→Prop) (w0 : World) (s : D.St) (H : Nat→Prop) (w : World) (hn : Now D Cap H0 w0 s H w) (q : Int) (k : Int→Int→D.St→Tree D.St D.St) : Ccalls L 31 #[.pointer (some ⟨rb,0,none⟩),V,.int .i64 q] (getG l rn q s k) w fun u t' w'=>∃ x e s' H',u = .tuple #[.int .i64 x,.int .i64 e]∧t' = k x e s'∧Now D Cap H0 w0 s' H' w':=by
 by_cases hq : InB q
 ·rw [show getG l rn q s k = getT l rn q s k from if_pos hq]
  exact slots_get R hk hS hrn h2 q hq.1 hq.2 H0 w0 s H _ w hn
 ·rw [show getG l rn q s k = k 0 1 s from if_neg hq]
  refine ccalls_lone fun y τ n' hy=>?_
  subst hy
  have hn:=hn.re hk
  have hb:=bad_at ⟨rb,0,none⟩ _ _ _ q y (R.at_ _ _ _ hn.rep).r.ring hq
  exact (get_bad hb V).mono fun e w' ⟨h1,h2⟩=>⟨_,h1,0,1,s,H,rfl,rfl,h2 ▸ hn⟩
theorem there_any {D : OpsD} {l : RLens D.A} {rb sb rn : Nat} (R : RingIn D l rb sb rn) {L : Lg Try.prog (Tree D.St D.St)} {Cap : (Nat→Prop)→World→Prop} {V : Value} (hk : CapK Cap) (hS : SStep D L Cap 51 V) (hrn : 0 < rn) (h2 : rn≤65536) (H0 : Nat→Prop) (w0 : World) (s : D.St) (H : Nat→Prop) (w : World) (hn : Now D Cap H0 w0 s H w) (q : Int) (k : Bool→D.St→Tree D.St D.St) : Ccalls L 60 #[.pointer (some ⟨rb,0,none⟩),V,.int .i64 q] (thereG l rn q s k) w fun u t' w'=>∃ b s' H',u = .bool b∧t' = k b s'∧Now D Cap H0 w0 s' H' w':=by
 by_cases hq : InB q
 ·rw [show thereG l rn q s k = thereT l rn q s k from if_pos hq]
  exact slots_there R hk hS hrn h2 q hq.1 hq.2 H0 w0 s H _ w hn
 ·rw [show thereG l rn q s k = k false s from if_neg hq]
  refine ccalls_lone fun y τ n' hy=>?_
  subst hy
  have hn:=hn.re hk
  have hb:=bad_at ⟨rb,0,none⟩ _ _ _ q y (R.at_ _ _ _ hn.rep).r.ring hq
  exact (there_bad hb V).mono fun e w' ⟨h1,h2⟩=>⟨_,h1,false,s,H,rfl,rfl,h2 ▸ hn⟩
theorem high_any {D : OpsD} {l : RLens D.A} {rb sb rn : Nat} (R : RingIn D l rb sb rn) {L : Lg Try.prog (Tree D.St D.St)} {Cap : (Nat→Prop)→World→Prop} {V : Value} (hk : CapK Cap) (hS : SStep D L Cap 51 V) (hrn : 0 < rn) (h2 : rn≤65536) (H0 : Nat→Prop) (w0 : World) (s : D.St) (H : Nat→Prop) (w : World) (hn : Now D Cap H0 w0 s H w) (q b : Int) (hq0 : -9223372036854775808≤q) (hq1 : q < 9223372036854775808) (hb1 : b < 9223372036854775808) (k : Int→D.St→Tree D.St D.St) : Ccalls L 34 #[.pointer (some ⟨rb,0,none⟩),V,.int .i64 q,.int .i64 b] (highG l rn q b s k) w fun u t' w'=>∃ x s' H',u = .int .i64 x∧t' = k x s'∧Now D Cap H0 w0 s' H' w':=by
 by_cases hq : InB q
 ·by_cases hab : q≤b
  ·rw [show highG l rn q b s k = highT l rn (highN rn q b) q s k from if_pos ⟨hq,hab⟩]
   exact slots_highest R hk hS hrn h2 q b hq.1 hq.2 hab hb1 H0 w0 s H _ w hn
  ·rw [show highG l rn q b s k = k (pre64 q) s from if_neg (fun z=>hab z.2)]
   refine ccalls_lone fun y τ n' hy=>?_
   subst hy
   have hn:=hn.re hk
   exact (highest_less ⟨rb,0,none⟩ _ rn rn V q b y (R.at_ _ _ _ hn.rep).r.ring hrn hq.1 hq.2 (by omega)).mono fun e w' ⟨h1,h2⟩=>⟨_,h1,_,s,H,rfl,rfl,h2 ▸ hn⟩
 ·rw [show highG l rn q b s k = k (pre64 q) s from if_neg (fun z=>hq z.1)]
  refine ccalls_lone fun y τ n' hy=>?_
  subst hy
  have hn:=hn.re hk
  have hb:=bad_at ⟨rb,0,none⟩ _ _ _ q y (R.at_ _ _ _ hn.rep).r.ring hq
  exact (highest_bad hb V b hq0 hq1).mono fun e w' ⟨h1,h2⟩=>⟨_,h1,_,s,H,rfl,rfl,h2 ▸ hn⟩
set_option maxRecDepth 100000 in
theorem cell_step {D : OpsD} {L : Lg Try.prog (Tree D.St D.St)} {Cap : (Nat→Prop)→World→Prop} {sb : Nat} (hre : ∀ H w τ n,Cap H w→Cap H (w.re τ n)) (hcap : ∀ H w H' w',Cap H w→Held H w H' w'→Cap H' w') (hS : StepO D L Cap sb) (s : D.St) (H : Nat→Prop) (k : D.St→Tree D.St D.St) (w : World) (hr : RepO D s H w) (hc : Cap H w) :
  Ccalls L 75 #[.iface 171 (.pointer (some ⟨sb,0,none⟩))] (.yield s k) w fun u t' w'=>u = .tuple #[]∧∃ s' H',t' = k s'∧(RepO D s' H' w'∧Cap H' w')∧Held H w H' w':=by
 intro c mid hR
 rw [show Frame.enter Try.prog 75 #[.iface 171 (.pointer (some ⟨sb,0,none⟩))] .normal = Frame.at { (default : Frame) with fn:=75,kind:=.normal } ⟨#[.iface 171 (.pointer (some ⟨sb,0,none⟩))] ++ Array.replicate (Try.f75.ntmps - 1) undef,[]⟩ [.code (Try.f75.body.getD .skip)] from by simp [Frame.enter,Frame.at,Try.func75]; rfl]
 simp only [Try.f75,Option.getD_some,Nat.reduceSub,Array.replicate_succ,Array.replicate_zero,List.push_toArray,List.append_toArray,List.nil_append,List.cons_append]
 refine Lg.move _ (fun _ _=>step_seq) (fun h=>h) ?_
 have HR:=Lib.hid hR
 have Hr:=Lib.hid hr
 clear hR hr
 refine Lg.code fun K hK y τ n hy=>?_
 go_wp2
 refine hK _ _ (fun _=>rfl) ?_
 clear hK K
 subst hy
 refine Lg.move _ (fun _ _=>step_cond rfl) (fun h=>h) ?_
 refine Lg.move _ (fun _ _=>step_region) (fun h=>h) ?_
 refine Lg.pre 0 1 1 (by simp) fun K hK z τ3 n3 hz=>?_
 subst hz
 have hr : RepO D s H z:=Hr.out.re.re
 have hc : Cap H z:=hcap _ _ _ _ hc (re_held.2 (re_held.2 (Held.refl _ _)))
 have hm:=fun wx=>method_stand 307 ⟨sb,0,none⟩ wx
 go_wp2
 refine hK _ _ (fun _=>rfl) ?_
 clear hK K
 refine Lg.call (i:=1) (rest:=[]) (f:=113) (args:=#[.pointer (some ⟨sb,0,none⟩)]) rfl rfl (fun y=>?_) (hS s H k z hr hc) ?_
 ·go_simp
 rintro vv t' w' ⟨rfl,s',H',rfl,⟨hr',hc'⟩,hh⟩
 rw [Frame.finish_at]
 walk_nrm
 refine Lg.move _ (fun _ _=>step_region_end) (fun h=>h) ?_
 refine Lg.move _ (fun _ _=>step_end) (fun h=>h) ?_
 exact Lg.leave rfl Try.func75 rfl (fun _ _ _ _=>by simp [results,Try.f75]) (HR.out _ _ _ ⟨rfl,s',H',rfl,⟨hr',hc'⟩,re_held.2 (re_held.2 hh)⟩)
theorem cell_sstep {D : OpsD} {L : Lg Try.prog (Tree D.St D.St)} {Cap : (Nat→Prop)→World→Prop} {sb : Nat} (hre : ∀ H w τ n,Cap H w→Cap H (w.re τ n)) (hcap : CapK Cap) (hS : StepO D L Cap sb) : SStep D L Cap 75 (.iface 171 (.pointer (some ⟨sb,0,none⟩))):=
 fun H0 w0 s H k w h=>(cell_step hre hcap hS s H k w h.rep (hcap _ _ _ _ h.cap0 h.held)).mono fun v t' w' ⟨e,s',H',e2,h2,h3⟩=>⟨e,s',H',e2,h2.1,h.cap0,h.held.trans h3⟩
structure WLens (A : Type) where
 get : A→Int
 put : Int→A→A
 ok : Int→Prop
structure WordIn (D : OpsD) (l : WLens D.A) (b : Nat) : Prop where
 at_ : ∀ (s : D.St) (H : Nat→Prop) (w : World),RepO D s H w→w.cell? ⟨b,0,none⟩ = some (.int .i64 (l.get s.1))∧w.frozen? ⟨b,0,none⟩ = false
 set_ : ∀ (s : D.St) (H : Nat→Prop) (w : World),RepO D s H w→∀ x,l.ok x→RepO D (l.put x s.1,s.2) H (w.setCell ⟨b,0,none⟩ (.int .i64 x))∧Held H w H (w.setCell ⟨b,0,none⟩ (.int .i64 x))
section
variable {A R : Type} (l : WLens A)
def loadW (s : A × R) (k : Int→A × R→Tree (A × R) (A × R)) : Tree (A × R) (A × R):=.yield s fun s'=>k (l.get s'.1) s'
def storeW (x : Int) (s : A × R) (k : A × R→Tree (A × R) (A × R)) : Tree (A × R) (A × R):=.yield s fun s'=>k (l.put x s'.1,s'.2)
def casW (a b : Int) (s : A × R) (k : Bool→A × R→Tree (A × R) (A × R)) : Tree (A × R) (A × R):=.yield s fun s'=>if l.get s'.1 = a then k true (l.put b s'.1,s'.2) else k false s'
end
theorem run_call_cas_miss {P : Program} {f : FuncId} {fn : Func} (hf : P.funcs[f]? = some fn) (hname : (fn.name == "runtime.NumGoroutine") = false) (hb : fn.body.isNone = true) (hn : Extern.findNext fn = none) (k : IntKind)
  (he : Extern.find fn = some (Extern.Atomic.casT (.int k))) {a : Addr} {x y z : Int} {w : World} (hc : w.cell? a = some (.int k z)) (hz : w.frozen? a = false) (hne : (z == x) = false) :
  (callFunc f #[.pointer (some a),.int k x,.int k y]).run P w = .ok (.value (.bool false)) w:=by
 rw [run_callFunc_extern hf hname hb hn he]
 change (Sem.run P (do
  let a' ← asAddr (.pointer (some a))
  if ← Extern.Atomic.touchesFrozen a' then unsupported (.unsafePointer "a write to bytes that a string shares")
  let eq ← match Extern.Atomic.T.int k,← Extern.Atomic.read (.int k) a',Value.int k x with
   | _,.int _ x,.int _ y=>pure (x == y)
   | .ptr,.pointer x,.pointer y=>samePointer x y
   | .int _,.pointer (some _),.int _ 0 | .int _,.int _ 0,.pointer (some _)=>pure false
   | .int _,.pointer (some _),_ | .int _,_,.pointer (some _)=>unsupported .addressObserved
   | _,_,_=>stuck "atomic.CompareAndSwap: old is no T"
  if eq then store a' (.int k y) .atomic
  pure (Value.bool eq)) w).andThen _ = _
 simp [Extern.Atomic.touchesFrozen,Extern.Atomic.read,asAddr,viewAt,World.shape?_isSome_of_cell? hc,hc,hz,beq_eq_false_iff_ne.1 hne,Result.andThen]
set_option maxRecDepth 100000 in
theorem atomic_cas (a : Addr) (o v u : Int) (w : World) (h : w.cell? a = some (.int .i64 u)) (hf : w.frozen? a = false) : Calls Try.prog 87 #[.pointer (some a),.int .i64 o,.int .i64 v] w fun e w'=>e = .returned (.bool (u == o))∧(if u == o then w.setCell a (.int .i64 v) else w) = w':=by
 by_cases e : u = o
 ·subst e
  have hcas:=run_call_cas_hit (P:=Try.prog) Try.func91 (by kernel_rfl) (by kernel_rfl) (by kernel_rfl) .i64 (by kernel_rfl) (y:=v) h hf
  go_enter Try.func87,Try.ntmps87
  go_wp2
  all_goals (go_ret; exact ⟨by simp,by simp⟩)
 ·have hne : (u == o) = false:=by simpa using e
  have hcas:=run_call_cas_miss (P:=Try.prog) Try.func91 (by kernel_rfl) (by kernel_rfl) (by kernel_rfl) .i64 (by kernel_rfl) (y:=v) h hf hne
  go_enter Try.func87,Try.ntmps87
  go_wp2
  all_goals (go_ret; exact ⟨rfl,rfl⟩)
set_option maxRecDepth 100000 in
theorem word_loadT {D : OpsD} {l : WLens D.A} {b : Nat} (R : WordIn D l b) {L : Lg Try.prog (Tree D.St D.St)} {Cap : (Nat→Prop)→World→Prop} {V : Value} (hk : CapK Cap) (hS : SStep D L Cap 75 V) (H0 : Nat→Prop) (w0 : World) (s : D.St) (H : Nat→Prop) (w : World) (hn : Now D Cap H0 w0 s H w) (k : Int→D.St→Tree D.St D.St) : Ccalls L 47 #[.pointer (some ⟨b,0,none⟩),V] (loadW l s k) w fun u t' w'=>∃ x s' H',u = .int .i64 x∧x = l.get s'.1∧t' = k x s'∧Now D Cap H0 w0 s' H' w':=by
 intro c mid hR
 have HR:=Lib.hid hR
 have HN:=Lib.hid hn
 clear hR hn
 rw [show Frame.enter Try.prog 47 #[.pointer (some ⟨b,0,none⟩),V] .normal = Frame.at { (default : Frame) with fn:=47,kind:=.normal } ⟨#[.pointer (some ⟨b,0,none⟩),V] ++ Array.replicate (Try.f47.ntmps - 2) undef,[]⟩ [.code (Try.f47.body.getD .skip)] from by simp [Frame.enter,Frame.at,Try.func47]; rfl]
 simp only [Try.f47,Option.getD_some,Nat.reduceSub,Array.replicate_succ,Array.replicate_zero,List.push_toArray,List.append_toArray,List.nil_append,List.cons_append]
 unfold loadW
 repeat (first
  | with_reducible refine Lg.mv_seq _ ?_
  | with_reducible refine Lg.mv_skip _ ?_
  | with_reducible refine Lg.mv_block _ ?_
  | with_reducible refine Lg.mv_inBlock _ ?_
  | with_reducible refine Lg.mv_end _ ?_
  | ((with_reducible refine Lg.mv_condT _ ?_ ?_); exact rfl)
  | ((with_reducible refine Lg.mv_condF _ ?_ ?_); exact rfl)
  | ((with_reducible apply Lg.mv_exit); exact rfl)
  | (with_reducible refine Lg.mv_reg _ ?_
     intro K hK y τ n' hy
     subst hy
     have hn:=HN.out.re hk
     clear HN
     have HN:=Lib.hid hn
     clear hn
     go_wp2
     refine hK _ _ (fun _=>rfl) ?_
     clear hK K))
 with_reducible refine Lg.mv_region _ ?_
 refine Lg.pre 0 1 1 (by simp) fun K hK z τ n' hz=>?_
 subst hz
 go_wp2
 refine hK _ _ (fun _=>rfl) ?_
 clear hK K
 refine Lg.call (i:=1) (rest:=[]) (f:=75) (args:=#[V]) rfl rfl (fun y=>by go_simp) (hS _ _ _ _ _ _ (HN.out.re hk)) ?_
 rintro vv t' w' ⟨rfl,s,H,rfl,hn⟩
 clear HN
 rw [Frame.finish_at]
 walk_nrm
 with_reducible refine Lg.mv_end _ ?_
 have HN:=Lib.hid hn
 clear hn
 with_reducible refine Lg.mv_seq _ ?_
 with_reducible refine Lg.mv_reg _ ?_
 intro K hK y τ n' hy
 subst hy
 have hn:=HN.out.re hk
 clear HN
 have HN:=Lib.hid hn
 clear hn
 have hat:=(R.at_ _ _ _ HN.out.rep).1
 obtain ⟨x,hx⟩ : ∃ x,l.get s.1 = x:=⟨_,rfl⟩
 rw [hx] at hat
 have HX:=Lib.hid hx
 clear hx
 go_wp2_with (go_at_call 52; refine (atomic_load _ _ _ hat).mono ?_; rintro e w' ⟨rfl,hw'⟩; subst hw')
 refine hK _ _ (fun _=>rfl) ?_
 clear hK K hat
 with_reducible refine Lg.mv_ret _ ?_
 exact Lg.leave rfl Try.func47 rfl (v:=.int .i64 x) (fun _ _ _ _=>by simp [results,Try.f47]) (HR.out _ _ _ ⟨x,s,H,rfl,HX.out.symm,by rw [← HX.out],HN.out⟩)
set_option maxRecDepth 100000 in
theorem word_storeT {D : OpsD} {l : WLens D.A} {b : Nat} (R : WordIn D l b) {L : Lg Try.prog (Tree D.St D.St)} {Cap : (Nat→Prop)→World→Prop} {V : Value} (hk : CapK Cap) (hS : SStep D L Cap 75 V) (H0 : Nat→Prop) (w0 : World) (s : D.St) (H : Nat→Prop) (w : World) (hn : Now D Cap H0 w0 s H w) (v : Int) (hok : l.ok v) (k : D.St→Tree D.St D.St) : Ccalls L 86 #[.pointer (some ⟨b,0,none⟩),V,.int .i64 v] (storeW l v s k) w fun u t' w'=>∃ s' H',u = .tuple #[]∧t' = k s'∧Now D Cap H0 w0 s' H' w':=by
 intro c mid hR
 have HR:=Lib.hid hR
 have HN:=Lib.hid hn
 clear hR hn
 rw [show Frame.enter Try.prog 86 #[.pointer (some ⟨b,0,none⟩),V,.int .i64 v] .normal = Frame.at { (default : Frame) with fn:=86,kind:=.normal } ⟨#[.pointer (some ⟨b,0,none⟩),V,.int .i64 v] ++ Array.replicate (Try.f86.ntmps - 3) undef,[]⟩ [.code (Try.f86.body.getD .skip)] from by simp [Frame.enter,Frame.at,Try.func86]; rfl]
 simp only [Try.f86,Option.getD_some,Nat.reduceSub,Array.replicate_succ,Array.replicate_zero,List.push_toArray,List.append_toArray,List.nil_append,List.cons_append]
 unfold storeW
 repeat (first
  | with_reducible refine Lg.mv_seq _ ?_
  | with_reducible refine Lg.mv_skip _ ?_
  | with_reducible refine Lg.mv_block _ ?_
  | with_reducible refine Lg.mv_inBlock _ ?_
  | with_reducible refine Lg.mv_end _ ?_
  | ((with_reducible refine Lg.mv_condT _ ?_ ?_); exact rfl)
  | ((with_reducible refine Lg.mv_condF _ ?_ ?_); exact rfl)
  | ((with_reducible apply Lg.mv_exit); exact rfl)
  | (with_reducible refine Lg.mv_reg _ ?_
     intro K hK y τ n' hy
     subst hy
     have hn:=HN.out.re hk
     clear HN
     have HN:=Lib.hid hn
     clear hn
     go_wp2
     refine hK _ _ (fun _=>rfl) ?_
     clear hK K))
 with_reducible refine Lg.mv_region _ ?_
 refine Lg.pre 0 1 1 (by simp) fun K hK z τ n' hz=>?_
 subst hz
 go_wp2
 refine hK _ _ (fun _=>rfl) ?_
 clear hK K
 refine Lg.call (i:=1) (rest:=[]) (f:=75) (args:=#[V]) rfl rfl (fun y=>by go_simp) (hS _ _ _ _ _ _ (HN.out.re hk)) ?_
 rintro vv t' w' ⟨rfl,s,H,rfl,hn⟩
 clear HN
 rw [Frame.finish_at]
 walk_nrm
 with_reducible refine Lg.mv_end _ ?_
 have HN:=Lib.hid hn
 clear hn
 with_reducible refine Lg.mv_reg _ ?_
 intro K hK y τ n' hy
 subst hy
 have hn:=HN.out.re hk
 clear HN
 have HN:=Lib.hid hn
 clear hn
 obtain ⟨hat,hfz⟩:=R.at_ _ _ _ HN.out.rep
 have hset:=R.set_ _ _ _ HN.out.rep v hok
 have HS:=Lib.hid hset
 clear hset
 go_wp2_with (go_at_call 27; refine (atomic_store _ v _ _ hat hfz).mono ?_; rintro e w' ⟨rfl,rfl⟩)
 refine hK _ _ (fun _=>rfl) ?_
 clear hK K hat hfz
 have hn:=HN.out.to hk HS.out
 clear HS HN
 generalize World.setCell _ _ _ = y' at hn ⊢
 have HN:=Lib.hid hn
 clear hn
 refine Lg.move _ (fun _ _=>step_end) (fun h=>h) ?_
 exact Lg.leave rfl Try.func86 rfl (v:=.tuple #[]) (fun _ _ _ _=>by simp [results,Try.f86]) (HR.out _ _ _ ⟨_,H,rfl,rfl,HN.out⟩)
set_option maxRecDepth 100000 in
theorem word_casT {D : OpsD} {l : WLens D.A} {b : Nat} (R : WordIn D l b) {L : Lg Try.prog (Tree D.St D.St)} {Cap : (Nat→Prop)→World→Prop} {V : Value} (hk : CapK Cap) (hS : SStep D L Cap 75 V) (H0 : Nat→Prop) (w0 : World) (s : D.St) (H : Nat→Prop) (w : World) (hn : Now D Cap H0 w0 s H w) (o v : Int) (hok : l.ok v) (k : Bool→D.St→Tree D.St D.St) : Ccalls L 73 #[.pointer (some ⟨b,0,none⟩),V,.int .i64 o,.int .i64 v] (casW l o v s k) w fun u t' w'=>∃ x s' H',u = .bool x∧t' = k x s'∧Now D Cap H0 w0 s' H' w':=by
 intro c mid hR
 have HR:=Lib.hid hR
 have HN:=Lib.hid hn
 clear hR hn
 rw [show Frame.enter Try.prog 73 #[.pointer (some ⟨b,0,none⟩),V,.int .i64 o,.int .i64 v] .normal = Frame.at { (default : Frame) with fn:=73,kind:=.normal } ⟨#[.pointer (some ⟨b,0,none⟩),V,.int .i64 o,.int .i64 v] ++ Array.replicate (Try.f73.ntmps - 4) undef,[]⟩ [.code (Try.f73.body.getD .skip)] from by simp [Frame.enter,Frame.at,Try.func73]; rfl]
 simp only [Try.f73,Option.getD_some,Nat.reduceSub,Array.replicate_succ,Array.replicate_zero,List.push_toArray,List.append_toArray,List.nil_append,List.cons_append]
 unfold casW
 repeat (first
  | with_reducible refine Lg.mv_seq _ ?_
  | with_reducible refine Lg.mv_skip _ ?_
  | with_reducible refine Lg.mv_block _ ?_
  | with_reducible refine Lg.mv_inBlock _ ?_
  | with_reducible refine Lg.mv_end _ ?_
  | ((with_reducible refine Lg.mv_condT _ ?_ ?_); exact rfl)
  | ((with_reducible refine Lg.mv_condF _ ?_ ?_); exact rfl)
  | ((with_reducible apply Lg.mv_exit); exact rfl)
  | (with_reducible refine Lg.mv_reg _ ?_
     intro K hK y τ n' hy
     subst hy
     have hn:=HN.out.re hk
     clear HN
     have HN:=Lib.hid hn
     clear hn
     go_wp2
     refine hK _ _ (fun _=>rfl) ?_
     clear hK K))
 with_reducible refine Lg.mv_region _ ?_
 refine Lg.pre 0 1 1 (by simp) fun K hK z τ n' hz=>?_
 subst hz
 go_wp2
 refine hK _ _ (fun _=>rfl) ?_
 clear hK K
 refine Lg.call (i:=1) (rest:=[]) (f:=75) (args:=#[V]) rfl rfl (fun y=>by go_simp) (hS _ _ _ _ _ _ (HN.out.re hk)) ?_
 rintro vv t' w' ⟨rfl,s,H,rfl,hn⟩
 clear HN
 rw [Frame.finish_at]
 walk_nrm
 with_reducible refine Lg.mv_end _ ?_
 have HN:=Lib.hid hn
 clear hn
 with_reducible refine Lg.mv_seq _ ?_
 refine (show L.T (if l.get s.1 = o then k true (l.put v s.1,s.2) else k false s) _ _ _ from ?_)
 by_cases hx : l.get s.1 = o
 ·rw [if_pos hx]
  with_reducible refine Lg.mv_reg _ ?_
  intro K hK y τ n' hy
  subst hy
  have hn:=HN.out.re hk
  clear HN
  have HN:=Lib.hid hn
  clear hn
  obtain ⟨hat,hfz⟩:=R.at_ _ _ _ HN.out.rep
  have hset:=R.set_ _ _ _ HN.out.rep v hok
  have HS:=Lib.hid hset
  clear hset
  rw [hx] at hat
  clear hx
  have hb : (o == o) = true:=by simp
  go_wp2_with (go_at_call 87; refine (atomic_cas _ o v o _ hat hfz).mono ?_; rintro e w' ⟨rfl,hw'⟩; rw [hb] at hw' ⊢; rw [if_pos rfl] at hw'; subst hw')
  refine hK _ _ (fun _=>rfl) ?_
  clear hK K hat hfz hb
  have hn:=HN.out.to hk HS.out
  clear HS HN
  generalize World.setCell _ _ _ = y' at hn ⊢
  have HN:=Lib.hid hn
  clear hn
  with_reducible refine Lg.mv_ret _ ?_
  exact Lg.leave rfl Try.func73 rfl (v:=.bool true) (fun _ _ _ _=>by simp [results,Try.f73]) (HR.out _ _ _ ⟨true,_,H,rfl,rfl,HN.out⟩)
 ·rw [if_neg hx]
  with_reducible refine Lg.mv_reg _ ?_
  intro K hK y τ n' hy
  subst hy
  have hn:=HN.out.re hk
  clear HN
  have HN:=Lib.hid hn
  clear hn
  obtain ⟨hat,hfz⟩:=R.at_ _ _ _ HN.out.rep
  have hb : (l.get s.1 == o) = false:=by simpa using hx
  clear hx
  generalize l.get s.1 = x at hat hb
  go_wp2_with (go_at_call 87; refine (atomic_cas _ o v x _ hat hfz).mono ?_; rintro e w' ⟨rfl,hw'⟩; rw [hb] at hw' ⊢; rw [if_neg (by decide)] at hw'; subst hw')
  refine hK _ _ (fun _=>rfl) ?_
  clear hK K hat hfz hb
  with_reducible refine Lg.mv_ret _ ?_
  exact Lg.leave rfl Try.func73 rfl (v:=.bool false) (fun _ _ _ _=>by simp [results,Try.f73]) (HR.out _ _ _ ⟨false,s,H,rfl,rfl,HN.out⟩)
structure WordLaw {D : OpsD} (L : Lg Try.prog (Tree D.St D.St)) (Cap : (Nat→Prop)→World→Prop) (V : Value) (l : WLens D.A) (b : Nat) : Prop where
 load : ∀ (H0 : Nat→Prop) (w0 : World) (s : D.St) (H : Nat→Prop) (w : World),Now D Cap H0 w0 s H w→∀ k,Ccalls L 47 #[.pointer (some ⟨b,0,none⟩),V] (loadW l s k) w fun u t' w'=>∃ x s' H',u = .int .i64 x∧x = l.get s'.1∧t' = k x s'∧Now D Cap H0 w0 s' H' w'
 store : ∀ (H0 : Nat→Prop) (w0 : World) (s : D.St) (H : Nat→Prop) (w : World),Now D Cap H0 w0 s H w→∀ v,l.ok v→∀ k,Ccalls L 86 #[.pointer (some ⟨b,0,none⟩),V,.int .i64 v] (storeW l v s k) w fun u t' w'=>∃ s' H',u = .tuple #[]∧t' = k s'∧Now D Cap H0 w0 s' H' w'
 cas : ∀ (H0 : Nat→Prop) (w0 : World) (s : D.St) (H : Nat→Prop) (w : World),Now D Cap H0 w0 s H w→∀ o v,l.ok v→∀ k,Ccalls L 73 #[.pointer (some ⟨b,0,none⟩),V,.int .i64 o,.int .i64 v] (casW l o v s k) w fun u t' w'=>∃ x s' H',u = .bool x∧t' = k x s'∧Now D Cap H0 w0 s' H' w'
theorem WordIn.law {D : OpsD} {l : WLens D.A} {b : Nat} (R : WordIn D l b) {L : Lg Try.prog (Tree D.St D.St)} {Cap : (Nat→Prop)→World→Prop} {V : Value} (hk : CapK Cap) (hS : SStep D L Cap 75 V) : WordLaw L Cap V l b where
 load:=fun H0 w0 s H w hn k=>word_loadT R hk hS H0 w0 s H w hn k
 store:=fun H0 w0 s H w hn v hv k=>word_storeT R hk hS H0 w0 s H w hn v hv k
 cas:=fun H0 w0 s H w hn o v hv k=>word_casT R hk hS H0 w0 s H w hn o v hv k
structure RingLaw {D : OpsD} (L : Lg Try.prog (Tree D.St D.St)) (Cap : (Nat→Prop)→World→Prop) (V : Value) (l : RLens D.A) (rb rn : Nat) : Prop where
 put : ∀ (H0 : Nat→Prop) (w0 : World) (s : D.St) (H : Nat→Prop) (w : World),Now D Cap H0 w0 s H w→∀ (q v : Int) (k : Int→D.St→Tree D.St D.St),Ccalls L 74 #[.pointer (some ⟨rb,0,none⟩),V,.int .i64 q,.int .i64 v] (putG l rn q v s k) w fun u t' w'=>∃ e s' H',u = .int .i64 e∧t' = k e s'∧Now D Cap H0 w0 s' H' w'
 get : ∀ (H0 : Nat→Prop) (w0 : World) (s : D.St) (H : Nat→Prop) (w : World),Now D Cap H0 w0 s H w→∀ (q : Int) (k : Int→Int→D.St→Tree D.St D.St),Ccalls L 31 #[.pointer (some ⟨rb,0,none⟩),V,.int .i64 q] (getG l rn q s k) w fun u t' w'=>∃ x e s' H',u = .tuple #[.int .i64 x,.int .i64 e]∧t' = k x e s'∧Now D Cap H0 w0 s' H' w'
 there : ∀ (H0 : Nat→Prop) (w0 : World) (s : D.St) (H : Nat→Prop) (w : World),Now D Cap H0 w0 s H w→∀ (q : Int) (k : Bool→D.St→Tree D.St D.St),Ccalls L 60 #[.pointer (some ⟨rb,0,none⟩),V,.int .i64 q] (thereG l rn q s k) w fun u t' w'=>∃ b s' H',u = .bool b∧t' = k b s'∧Now D Cap H0 w0 s' H' w'
 high : ∀ (H0 : Nat→Prop) (w0 : World) (s : D.St) (H : Nat→Prop) (w : World),Now D Cap H0 w0 s H w→∀ (q b : Int),-9223372036854775808≤q→q < 9223372036854775808→b < 9223372036854775808→∀ (k : Int→D.St→Tree D.St D.St),Ccalls L 34 #[.pointer (some ⟨rb,0,none⟩),V,.int .i64 q,.int .i64 b] (highG l rn q b s k) w fun u t' w'=>∃ x s' H',u = .int .i64 x∧t' = k x s'∧Now D Cap H0 w0 s' H' w'
theorem RingIn.law {D : OpsD} {l : RLens D.A} {rb sb rn : Nat} (R : RingIn D l rb sb rn) {L : Lg Try.prog (Tree D.St D.St)} {Cap : (Nat→Prop)→World→Prop} {V : Value} (hk : CapK Cap) (hS : SStep D L Cap 51 V) (hrn : 0 < rn) (h2 : rn≤65536) : RingLaw L Cap V l rb rn where
 put:=fun H0 w0 s H w hn q v k=>put_any R hk hS hrn h2 H0 w0 s H w hn q v k
 get:=fun H0 w0 s H w hn q k=>get_any R hk hS hrn h2 H0 w0 s H w hn q k
 there:=fun H0 w0 s H w hn q k=>there_any R hk hS hrn h2 H0 w0 s H w hn q k
 high:=fun H0 w0 s H w hn q b h0 h1 h3 k=>high_any R hk hS hrn h2 H0 w0 s H w hn q b h0 h1 h3 k
structure Lay where
 A : Type
 cell : A→Nat→Nat→Option Value
 BI : Nat→Prop
 ok : A→Prop
 dom : ∀ a b o v,cell a b o = some v→BI b
  /-- What lies in blocks that the run has chosen. -/
 Box : A→(Nat→Prop)→World→Prop:=fun _ G _=>∀ b,¬ G b
 box_ : ∀ a G w w',Box a G w→(∀ b,G b∨BI b→w'.heap[b]? = w.heap[b]?)→Box a G w':=by exact fun _ _ _ _ h _=>h
structure Lay.At (Y : Lay) (a : Y.A) (w : World) : Prop where
 cell : ∀ b o v,Y.cell a b o = some v→w.cell? ⟨b,o,none⟩ = some v
 near : ∀ b,Y.BI b→∃ c t,w.heap[b]? = some (.cells c t (0,0))
 ok : Y.ok a
theorem Lay.At.free {Y : Lay} {a : Y.A} {w : World} (h : Y.At a w) {b : Nat} (hb : Y.BI b) (o : Nat) : w.frozen? ⟨b,o,none⟩ = false:=by
 obtain ⟨c,t,e⟩:=h.near b hb
 exact (show Blk w b t c from e).frozen o
theorem Lay.At.lt {Y : Lay} {a : Y.A} {w : World} (h : Y.At a w) {b : Nat} (hb : Y.BI b) : b < w.heap.size:=by
 obtain ⟨c,t,e⟩:=h.near b hb
 exact lt_of_some e
def Lay.inner (Y : Lay) : Inner where
 A:=Y.A
 At:=Y.At
 BI:=Y.BI
 at_:=fun a w w' h hs=>⟨fun b o v hv=>(World.cell?_of_block (w:=w) (a:=⟨b,o,none⟩) (hs b (Y.dom a b o v hv))).trans (h.cell b o v hv),fun b hb=>by obtain ⟨c,t,e⟩:=h.near b hb; exact ⟨c,t,(hs b hb).trans e⟩,h.ok⟩
 Box:=Y.Box
 box_:=Y.box_
def Lay.Turns (Y : Lay) (a a' : Y.A) (b o : Nat) (v : Value) : Prop:=(∃ u,Y.cell a b o = some u)∧(∀ b' o' u,Y.cell a' b' o' = some u→b' = b∧o' = o∧u = v∨(b'≠b∨o'≠o)∧Y.cell a b' o' = some u)
theorem Lay.At.set_ {Y : Lay} {a a' : Y.A} {w : World} (h : Y.At a w) {b o : Nat} {v : Value} (ht : Y.Turns a a' b o v) (hok : Y.ok a') : Y.At a' (w.setCell ⟨b,o,none⟩ v):=by
 obtain ⟨⟨u0,hu0⟩,ht⟩:=ht
 refine ⟨fun b' o' u hu=>?_,fun b' hb=>set_near (h.near b' hb),hok⟩
 rcases ht b' o' u hu with ⟨rfl,rfl,rfl⟩ | ⟨hne,hu2⟩
 ·rw [World.cell?_setCell_same _ _ _ (by rw [h.cell _ _ _ hu0])]
 ·rw [World.cell?_setCell_other _ _ _ _ (by intro e; injection e with e1 e2; rcases hne with z | z; exact z e1.symm; exact z e2.symm)]
  exact h.cell _ _ _ hu2
section
variable {B : OpsB} {Y : Lay} {good : OpI→Prop}
theorem lay_set {s : (B.on Y.inner good).St} {H : Nat→Prop} {w : World} (h : RepO (B.on Y.inner good) s H w) {a' : Y.A} {b o : Nat} {v : Value} (ht : Y.Turns s.1 a' b o v) (hok : Y.ok a') (hbx : ∀ G : Nat→Prop,¬ G b→Y.Box s.1 G w→Y.Box a' G (w.setCell ⟨b,o,none⟩ v):=by exact fun _ _ h=>h) :
  RepO (B.on Y.inner good) (a',s.2) H (w.setCell ⟨b,o,none⟩ v)∧Held H w H (w.setCell ⟨b,o,none⟩ v):=by
 have ha : Y.At s.1 w:=h.at_
 have hb : Y.BI b:=by obtain ⟨⟨u,hu⟩,_⟩:=ht; exact Y.dom _ _ _ _ hu
 have hn : Y.At a' (w.setCell ⟨b,o,none⟩ v):=ha.set_ ht hok
 refine ⟨h.inner (a':=a') hn (fun b' _ hbi=>Below.heap_setCell _ _ _ _ (fun e=>hbi (e ▸ hb))) (fun b' hb'=>?_) (fun G hG=>hbx G fun z=>(hG b z).2 hb),held_in w (h.bi b hb) _⟩
 obtain ⟨c,t,e⟩:=hn.near b' hb'
 exact ⟨c,t,_,e,by decide⟩
structure WordLay (Y : Lay) (l : WLens Y.A) (b : Nat) : Prop where
 at_ : ∀ a,Y.cell a b 0 = some (.int .i64 (l.get a))
 turns : ∀ a x,Y.Turns a (l.put x a) b 0 (.int .i64 x)
 ok : ∀ a x,Y.ok a→l.ok x→Y.ok (l.put x a)
 box : ∀ (a : Y.A) (x : Int) (w : World) (G : Nat→Prop),¬ G b→Y.Box a G w→Y.Box (l.put x a) G (w.setCell ⟨b,0,none⟩ (.int .i64 x)):=by exact fun _ _ _ _ _ h=>h
theorem WordLay.in_ {l : WLens Y.A} {b : Nat} (h : WordLay Y l b) : WordIn (B.on Y.inner good) l b where
 at_:=fun s H w hr=>by
  have ha : Y.At s.1 w:=hr.at_
  exact ⟨ha.cell _ _ _ (h.at_ s.1),ha.free (Y.dom _ _ _ _ (h.at_ s.1)) 0⟩
 set_:=fun s H w hr x hx=>by
  have ha : Y.At s.1 w:=hr.at_
  exact lay_set hr (h.turns s.1 x) (h.ok _ _ ha.ok hx) (h.box s.1 x w)
structure RingLay (Y : Lay) (l : RLens Y.A) (rb gb n : Nat) : Prop where
 ring : ∀ a,Y.cell a rb 0 = some (.slice (some ⟨gb,0,none⟩) n n)
 stamp : ∀ a i,i < n→Y.cell a gb (i * 2) = some (.int .i64 ((l.get a).1 i))
 value : ∀ a i,i < n→Y.cell a gb (i * 2 + 1) = some (.int .i64 ((l.get a).2 i))
 tst : ∀ a i,i < n→∀ x,Y.Turns a (l.put (upd (l.get a).1 i x,(l.get a).2) a) gb (i * 2) (.int .i64 x)
 tva : ∀ a i,i < n→∀ x,Y.Turns a (l.put ((l.get a).1,upd (l.get a).2 i x) a) gb (i * 2 + 1) (.int .i64 x)
 ok : ∀ a r,Y.ok a→Y.ok (l.put r a)
 pos : 0 < n
 most : n≤65536
 ne : rb≠gb
 box : ∀ (a : Y.A) (r : RSt) (o : Nat) (v : Value) (w : World) (G : Nat→Prop),¬ G gb→Y.Box a G w→Y.Box (l.put r a) G (w.setCell ⟨gb,o,none⟩ v):=by exact fun _ _ _ _ _ _ _ h=>h
theorem RingLay.in_ {l : RLens Y.A} {rb gb n : Nat} (h : RingLay Y l rb gb n) : RingIn (B.on Y.inner good) l rb gb n where
 at_:=fun s H w hr=>by
  have ha : Y.At s.1 w:=hr.at_
  have b1:=Y.dom _ _ _ _ (h.ring s.1)
  have b2:=Y.dom _ _ _ _ (h.stamp s.1 0 h.pos)
  exact ⟨⟨ha.cell _ _ _ (h.ring s.1),fun i hi=>ha.cell _ _ _ (h.stamp s.1 i hi),fun i hi=>ha.cell _ _ _ (h.value s.1 i hi),fun i=>ha.free b2 i,h.pos,h.most,h.ne,ha.lt b1,ha.lt b2⟩,ha.near _ b1,ha.near _ b2⟩
 stamp:=fun s H w hr i hi x=>by
  have ha : Y.At s.1 w:=hr.at_
  exact lay_set hr (h.tst s.1 i hi x) (h.ok _ _ ha.ok) (h.box s.1 _ _ _ w)
 value:=fun s H w hr i hi x=>by
  have ha : Y.At s.1 w:=hr.at_
  exact lay_set hr (h.tva s.1 i hi x) (h.ok _ _ ha.ok) (h.box s.1 _ _ _ w)
end
structure Kpt (W0 w w' : World) : Prop where
 size : w.heap.size≤w'.heap.size
 near : ∀ (b : Nat) (c : Array Value) (t : TypeId) (r : Nat × Nat),(b < W0.heap.size∨r.2 < big)→w.heap[b]? = some (.cells c t r)→w'.heap[b]? = some (.cells c t r)
 io : w'.os = w.os∧w'.output = w.output
theorem Kpt.refl (W0 w : World) : Kpt W0 w w:=⟨Nat.le_refl _,fun _ _ _ _ _ h=>h,rfl,rfl⟩
theorem Kpt.trans {W0 a b c : World} (h : Kpt W0 a b) (k : Kpt W0 b c) : Kpt W0 a c:=
 ⟨Nat.le_trans h.size k.size,fun i cs t r hc hb=>k.near i cs t r hc (h.near i cs t r hc hb),k.io.1.trans h.io.1,k.io.2.trans h.io.2⟩
theorem Kpt.old {W0 a b : World} (h : Old a.heap.size a b) : Kpt W0 a b:=⟨h.size,fun i c t r _ hb=>(h.block i (lt_of_some hb)).trans hb,h.io⟩
theorem Kpt.re {W0 a y : World} {τ : Nat→Question→Nat} {n : Nat} (h : Kpt W0 a (y.re τ n)) : Kpt W0 a y:=⟨h.size,h.near,h.io⟩
theorem Kpt.er {W0 y b : World} {τ : Nat→Question→Nat} {n : Nat} (h : Kpt W0 (y.re τ n) b) : Kpt W0 y b:=⟨h.size,h.near,h.io⟩
theorem Kpt.then {W0 a b c : World} (h : Kpt W0 a b) (k : Old a.heap.size b c) : Kpt W0 a c:=
 ⟨Nat.le_trans h.size k.size,fun i cs t r hc hb=>(k.block i (lt_of_some hb)).trans (h.near i cs t r hc hb),k.io.1.trans h.io.1,k.io.2.trans h.io.2⟩
theorem Old.kept {S : Nat→Prop} {B : Nat} {w w' : World} (h : Kept S w w') (hS : ∀ b,S b→B≤b) (hB : B≤w.heap.size) : Old B w w':=
 ⟨h.size,fun b hb=>h.block b (by omega) (fun z=>by have:=hS b z; omega),h.os,h.output⟩
theorem AnsAll.one {w : World} {ab n : Nat} {ans : Nat→List Ans} {H : Nat→Prop} (h : AnsAll w ab n ans H) {i : Nat} (hi : i < n) {a : Ans} (ha : ans i = [a]) : ∃ g c,w.cell? ⟨ab,i,none⟩ = some (.slice (some ⟨g,0,none⟩) 1 c)∧1≤c∧w.cell? ⟨g,0,none⟩ = some (.bool a.ok)∧w.cell? ⟨g,1,none⟩ = some (.int .i64 a.n):=by
 obtain ⟨rw_,c,h1,h2,h3,h4,_⟩:=h.rows
 obtain ⟨xs,k1,k2,k3⟩:=h4 i hi
 rw [ha] at k1 k2
 obtain ⟨lv,xs',rfl,_,_,e⟩:=k2
 have e : xs' = []:=e
 subst e
 have c0 : w.cell? ⟨ab,i,none⟩ = some (rw_ i):=(cell_of_row w ab i c _ (0,0) h1).trans (h3 i hi)
 rcases k1.2 with ⟨_,e⟩ | ⟨g,cp,cur,e,_,hh,hle,_,hsz,htake⟩
 ·simp at e
 ·have e : rw_ i = .slice (some ⟨g,0,none⟩) 1 cp:=e
  have hb : Blk w g 66 cur:=hh
  have hcell : ∀ j u,[Value.bool a.ok,.int .i64 a.n,lv][j]? = some u→w.cell? ⟨g,j,none⟩ = some u:=fun j u hj=>by
   rw [hb.cell j]
   have h1 : (cur.toList.take (1 * 3))[j]? = some u:=by
    have : (cur.toList.take (1 * 3)) = [Value.bool a.ok,.int .i64 a.n,lv]:=htake
    rw [this]; exact hj
   rw [List.getElem?_take] at h1
   split at h1
   ·simpa using h1
   ·cases h1
  exact ⟨g,cp,by rw [c0,e],hle,hcell 0 _ rfl,hcell 1 _ rfl⟩
theorem PlayG.kpt {W0 : World} {A : Type} {sL : Nat} {stf : A→List Int} {R : Run (A × (Nat→List Ans))} {n : Nat} {w0 : World} {v : Value} {w' : World} (h : PlayG W0 sL stf R n w0 v w') : Kpt W0 w0 w':=⟨h.size,h.near,h.io⟩
end Go.Proofs.Ytlhbonnminlnlaa
namespace Go.Proofs.Ytlhbonnminlnlaa
open Go.RowKit
structure NumsIn (w : World) (A : Option Addr) (c : Nat) (xs : List Int) : Prop where
 le : xs.length≤c
 max : c≤maxLen
 cells : ∀ i,i < xs.length→∃ b o,A = some ⟨b,o,none⟩∧w.cell? ⟨b,o + i,none⟩ = some (.int .i64 (xs.getD i 0))
theorem NumsIn.kept {w w' : World} {A : Option Addr} {c : Nat} {xs : List Int} {Z : Nat→Prop} (h : NumsIn w A c xs) (hk : Kept Z w w') (hz : ∀ b,b < w.heap.size→¬ Z b) : NumsIn w' A c xs:=
 ⟨h.le,h.max,fun i hi=>by
   obtain ⟨b,o,h1,h2⟩:=h.cells i hi
   have hb : b < w.heap.size:=by
    rcases Nat.lt_or_ge b w.heap.size with hlt | hge
    ·exact hlt
    ·simp [World.cell?,Array.getElem?_eq_none hge] at h2
   exact ⟨b,o,h1,(World.cell?_of_block (w:=w) (a:=⟨b,o + i,none⟩) (hk.block b hb (hz b hb))).trans h2⟩⟩
end Go.Proofs.Ytlhbonnminlnlaa
