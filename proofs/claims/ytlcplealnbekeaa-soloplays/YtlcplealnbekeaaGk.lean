/- DERIVED. The ring with one writer (package solo) among threads: an operation of a thread (Solo.do). -/
import Derived.Test.YtlcplealnbekeaaGj
set_option linter.unusedVariables false
set_option linter.unusedSectionVars false
set_option linter.unusedSimpArgs false
set_option maxHeartbeats 8000000
set_option maxRecDepth 100000
namespace Go.Proofs.Ytlcplealnbekeaa
open Go.RowKit Go.Turn Go.Tame Go.Conc
def eK (I:Ids) (p:Int):Nat->List Int->SSt->(List Int->Int->SSt->Tree SSt SSt)->Tree SSt SSt
 | 0,ls,s,k=>k ls 0 s
 | m+1,ls,s,k=>if 4294967296<=ls.length then .cut else getG soloL I.n (p+1+ls.length) s λv e s'=>if e=0 then eK I p m (ls++[v]) s' k else if ls=[] then k [] e s' else k ls 0 s'
def eV (I:Ids) (r most:Int) (s:SSt) (k:List Int->Int->SSt->Tree SSt SSt):Tree SSt SSt:=
 if r<0 then k [] 1 s else if (I.k:Int)<=r then k [] 1 s else
  .yield s λs1=>if s1.1.cursor<=s.1.place r.toNat then k [] 4 s1 else
   eK I (s.1.place r.toNat) (min (s1.1.cursor-s.1.place r.toNat).toNat (max most 1).toNat) [] s1 λls e s2=>if e=0 then
    .yield s2 λs3=>k ls 0 ({ s3.1 with num:=uI s3.1.num r.toNat (s.1.place r.toNat+ls.length),place:=uI s3.1.place r.toNat (s.1.place r.toNat+ls.length) },s3.2) else k [] e s2
abbrev frB (f:Nat->Value):Array Value:=#[f 0,f 1,f 2,f 3,f 4,f 5,f 6,f 7,f 8,f 9,f 10,f 11,f 12,f 13,f 14,f 15,f 16,f 17,f 18,f 19,f 20,f 21,f 22,f 23,f 24,f 25,f 26,f 27,f 28,f 29,f 30,f 31,f 32,f 33,f 34,f 35,f 36,f 37,f 38,f 39,f 40,f 41,f 42,f 43,f 44,f 45,f 46,f 47,f 48,f 49,f 50,f 51,f 52,f 53,f 54,f 55,f 56,f 57,f 58,f 59,f 60,f 61,f 62,f 63,f 64,f 65,f 66,f 67,f 68,f 69,f 70,f 71,f 72,f 73,f 74,f 75,f 76,f 77,f 78,f 79,f 80,f 81,f 82,f 83,f 84,f 85,f 86,f 87,f 88,f 89,f 90,f 91,f 92,f 93,f 94,f 95,f 96,f 97,f 98,f 99]
theorem lV {B:OpsB}{I:Ids}{good:OpI->Prop}{L:Lg Try.prog (Tree SSt SSt)}{Cap:(Nat->Prop)->World->Prop}{V:Value}(hk:iL Cap) (hS:dC (B.solo I good) L Cap 63 V) (hS2:dC (B.solo I good) L Cap 38 V) (H0:Nat->Prop) (w0:World) (s:SSt) (H:Nat->Prop) (w:World) (hn:Now (B.solo I good) Cap H0 w0 s H w) (hcut:∀ fr mid x,L.T .cut fr mid x) (r most:Int) (hm0:-9223372036854775808<=most) (hm1:most<=9223372036854775807) (k:List Int->Int->SSt->Tree SSt SSt):Ccalls L 15 #[.pointer (some ⟨I.so,0,none⟩),V,.int .i64 r,.int .i64 most] (eV I r most s k) w λu t' w'=>∃ ls v e s' H',u=.tuple #[v,.int .i64 e]/\t'=k ls e s'/\Now (B.solo I good) Cap H0 w0 s' H' w'/\OutRow (B.solo I good) w0 H' w' v ls/\(e=0->ls≠[]):=by
 have hk64:I.k<=64:=(show SAt I _ _ from hn.rep.at_).s.most;have hout:OutRow (B.solo I good) w0 H w (.slice none 0 0) []:=OutRow.nil;intro c mid hR;have HR:=qd hR;have HN:=qd hn;clear hR hn;rw[show Frame.enter Try.prog 15 #[.pointer (some ⟨I.so,0,none⟩),V,.int .i64 r,.int .i64 most] .normal=Frame.at { (default:Frame) with fn:=15,kind:=.normal } ⟨#[.pointer (some ⟨I.so,0,none⟩),V,.int .i64 r,.int .i64 most]++Array.replicate (Try.f15.ntmps-4) undef,[]⟩ [.code (Try.f15.body.getD .skip)] from by simp[Frame.enter,Frame.at,Try.func15];rfl];simp only[Try.f15,Option.getD_some,Nat.reduceSub,Array.replicate_succ,Array.replicate_zero,List.push_toArray,List.append_toArray,List.nil_append,List.cons_append];have HO:=qd hout;clear hout;unfold eV
 by_cases h1:r<0
 ·have d1:decide (r<0)=true:=decide_eq_true h1
  rw[if_pos h1];clear h1
  repeat (first
   | (with_reducible first | refine Lg.aW _ ?_ | refine Lg.aO _ ?_ | refine Lg.aL _ ?_ | refine Lg.aG _ ?_ | refine Lg.aN _ ?_)
   | ((with_reducible refine Lg.aI _ ?_ ?_);exact rfl)
   | ((with_reducible refine Lg.aJ _ ?_ ?_);exact rfl)
   | ((with_reducible apply Lg.aP);exact rfl)
   | (with_reducible refine Lg.aM _ ?_
      intro K hK y τ n' hy;subst hy;replace HN:=qd (HN.out.re hk);replace HO:=qd HO.out.re;obtain⟨c0,c1,c2,c3,c4,c5,c6,HS⟩:=SAt.c7 (show SAt I _ y from HN.out.rep.at_)
      go_wp2_with ((first |(go_at_call 55;refine(aH _ _ _ HS.out).mono ?_) |(go_at_call 37;refine(aC _ _ _ HS.out).mono ?_) |(go_at_call 39;refine(aD _ _ _ c1).mono ?_) |(go_at_call 57;refine(aE _ _ _ HS.out _).mono ?_));rintro e w' ⟨rfl,hw'⟩;subst hw')
      refine hK _ _ (λ_=>rfl) ?_;clear hK K c0 c1 c2 c3 c4 c5 c6 HS))
  with_reducible refine Lg.bO _ ?_
  exact Lg.leave rfl Try.func15 rfl (v:=.tuple #[.slice none 0 0,.int .i64 1]) (λ_ _ _ _=>by simp[results,Try.f15]) (HR.out _ _ _ ⟨[],_,_,_,H,rfl,rfl,HN.out,OutRow.nil,λz=>absurd z (by decide)⟩)
 have d1:decide (r<0)=false:=decide_eq_false h1;rw[if_neg h1]
 by_cases h2:(I.k:Int)<=r
 ·have d2:decide ((I.k:Int)<=r)=true:=decide_eq_true h2
  rw[if_pos h2];clear h1 h2
  repeat (first
   | (with_reducible first | refine Lg.aW _ ?_ | refine Lg.aO _ ?_ | refine Lg.aL _ ?_ | refine Lg.aG _ ?_ | refine Lg.aN _ ?_)
   | ((with_reducible refine Lg.aI _ ?_ ?_);exact rfl)
   | ((with_reducible refine Lg.aJ _ ?_ ?_);exact rfl)
   | ((with_reducible apply Lg.aP);exact rfl)
   | (with_reducible refine Lg.aM _ ?_
      intro K hK y τ n' hy;subst hy;replace HN:=qd (HN.out.re hk);replace HO:=qd HO.out.re;obtain⟨c0,c1,c2,c3,c4,c5,c6,HS⟩:=SAt.c7 (show SAt I _ y from HN.out.rep.at_)
      go_wp2_with ((first |(go_at_call 55;refine(aH _ _ _ HS.out).mono ?_) |(go_at_call 37;refine(aC _ _ _ HS.out).mono ?_) |(go_at_call 39;refine(aD _ _ _ c1).mono ?_) |(go_at_call 57;refine(aE _ _ _ HS.out _).mono ?_));rintro e w' ⟨rfl,hw'⟩;subst hw')
      refine hK _ _ (λ_=>rfl) ?_;clear hK K c0 c1 c2 c3 c4 c5 c6 HS))
  with_reducible refine Lg.bO _ ?_
  exact Lg.leave rfl Try.func15 rfl (v:=.tuple #[.slice none 0 0,.int .i64 1]) (λ_ _ _ _=>by simp[results,Try.f15]) (HR.out _ _ _ ⟨[],_,_,_,H,rfl,rfl,HN.out,OutRow.nil,λz=>absurd z (by decide)⟩)
 have d2:decide ((I.k:Int)<=r)=false:=decide_eq_false h2;rw[if_neg h2];obtain⟨R,rfl⟩:∃ R:Nat,r=R:=⟨r.toNat,by omega⟩;simp only[Int.toNat_natCast];have hR2:R<I.k:=by omega
 clear h1 h2 d2;have d2:decide (I.k<=R)=false:=decide_eq_false (by omega);obtain⟨p,hp⟩:∃ p,s.1.place R=p:=⟨_,rfl⟩;have hpb:=(show SAt I _ _ from HN.out.rep.at_).b;have p0:=hpb.p0 R hR2;have p1:=hpb.p1 R hR2;rw[hp] at p0 p1 ⊢;clear hpb
 repeat (first
  | (with_reducible first | refine Lg.aW _ ?_ | refine Lg.aO _ ?_ | refine Lg.aL _ ?_ | refine Lg.aG _ ?_ | refine Lg.aN _ ?_)
  | ((with_reducible refine Lg.aI _ ?_ ?_);exact rfl)
  | ((with_reducible refine Lg.aJ _ ?_ ?_);exact rfl)
  | ((with_reducible apply Lg.aP);exact rfl)
  | (with_reducible refine Lg.aM _ ?_
     intro K hK y τ n' hy;subst hy;replace HN:=qd (HN.out.re hk);replace HO:=qd HO.out.re;obtain⟨c0,c1,c2,c3,c4,c5,c6,HS⟩:=SAt.c7 (show SAt I _ y from HN.out.rep.at_)
     go_wp2_with ((first |(go_at_call 55;refine(aH _ _ _ HS.out).mono ?_) |(go_at_call 37;refine(aC _ _ _ HS.out).mono ?_) |(go_at_call 39;refine(aD _ _ _ c1).mono ?_) |(go_at_call 57;refine(aE _ _ _ HS.out _).mono ?_));rintro e w' ⟨rfl,hw'⟩;subst hw')
     refine hK _ _ (λ_=>rfl) ?_;clear hK K c0 c1 c2 c3 c4 c5 c6 HS))
 with_reducible refine Lg.aM _ ?_
 intro K hK y τ n' hy;subst hy;replace HN:=qd (HN.out.re hk);replace HO:=qd HO.out.re;obtain⟨c0,c1,c2,c3,c4,c5,c6,HS⟩:=SAt.c7 (show SAt I _ y from HN.out.rep.at_);have cj:=HS.out.places.cell R hR2;rw[hp] at cj;go_wp2;refine hK _ _ (λ_=>rfl) ?_;clear cj;clear hK K c0 c1 c2 c3 c4 c5 c6 HS;clear hp
 repeat (first
  | (with_reducible first | refine Lg.aW _ ?_ | refine Lg.aO _ ?_ | refine Lg.aL _ ?_ | refine Lg.aG _ ?_ | refine Lg.aN _ ?_)
  | ((with_reducible refine Lg.aI _ ?_ ?_);exact rfl)
  | ((with_reducible refine Lg.aJ _ ?_ ?_);exact rfl)
  | ((with_reducible apply Lg.aP);exact rfl)
  | (with_reducible refine Lg.aM _ ?_
     intro K hK y τ n' hy;subst hy;replace HN:=qd (HN.out.re hk);replace HO:=qd HO.out.re;obtain⟨c0,c1,c2,c3,c4,c5,c6,HS⟩:=SAt.c7 (show SAt I _ y from HN.out.rep.at_)
     go_wp2_with ((first |(go_at_call 55;refine(aH _ _ _ HS.out).mono ?_) |(go_at_call 37;refine(aC _ _ _ HS.out).mono ?_) |(go_at_call 39;refine(aD _ _ _ c1).mono ?_) |(go_at_call 57;refine(aE _ _ _ HS.out _).mono ?_));rintro e w' ⟨rfl,hw'⟩;subst hw')
     refine hK _ _ (λ_=>rfl) ?_;clear hK K c0 c1 c2 c3 c4 c5 c6 HS))
 with_reducible refine Lg.bJ _ ?_
 refine Lg.pre 0 1 1 (by simp) λK hK z τ n' hz=>?_;subst hz;replace HN:=qd (HN.out.re hk);replace HO:=qd HO.out.re;go_wp2;refine hK _ _ (λ_=>rfl) ?_;clear hK K;refine Lg.call (i:=1) (rest:=[]) (f:=38) (args:=#[V]) rfl rfl (λy=>by go_simp) (hS2 _ _ _ _ _ _ (HN.out.here hk)) ?_;rintro vv t' w' ⟨rfl,s,H,rfl,hn'⟩;have hout:=HO.out.held hn'.held;have hn:=HN.out.on hn';clear HN HO hn';have HN:=qd hn;have HO:=qd hout;clear hn hout;rw[Frame.finish_at];walk_nrm
 with_reducible refine Lg.aN _ ?_
 obtain⟨cu,hcu⟩:∃ c,s.1.cursor=c:=⟨_,rfl⟩;have hcb:=(show SAt I _ _ from HN.out.rep.at_).b.c1;rw[hcu] at hcb ⊢
 by_cases h3:cu<=p
 ·have d3:decide (cu<=p)=true:=decide_eq_true h3
  rw[if_pos h3];clear h3
  repeat (first
   | (with_reducible first | refine Lg.aW _ ?_ | refine Lg.aO _ ?_ | refine Lg.aL _ ?_ | refine Lg.aG _ ?_ | refine Lg.aN _ ?_)
   | ((with_reducible refine Lg.aI _ ?_ ?_);exact rfl)
   | ((with_reducible refine Lg.aJ _ ?_ ?_);exact rfl)
   | ((with_reducible apply Lg.aP);exact rfl)
   | (with_reducible refine Lg.aM _ ?_
      intro K hK y τ n' hy;subst hy;replace HN:=qd (HN.out.re hk);replace HO:=qd HO.out.re;obtain⟨c0,c1,c2,c3,c4,c5,c6,HS⟩:=SAt.c7 (show SAt I _ y from HN.out.rep.at_)
      go_wp2_with ((first |(go_at_call 55;refine(aH _ _ _ HS.out).mono ?_) |(go_at_call 37;refine(aC _ _ _ HS.out).mono ?_) |(go_at_call 39;refine(aD _ _ _ c1).mono ?_) |(go_at_call 57;refine(aE _ _ _ HS.out _).mono ?_));rintro e w' ⟨rfl,hw'⟩;subst hw')
      refine hK _ _ (λ_=>rfl) ?_;clear hK K c0 c1 c2 c3 c4 c5 c6 HS))
  with_reducible refine Lg.bO _ ?_
  exact Lg.leave rfl Try.func15 rfl (v:=.tuple #[.slice none 0 0,.int .i64 4]) (λ_ _ _ _=>by simp[results,Try.f15]) (HR.out _ _ _ ⟨[],_,_,_,H,rfl,rfl,HN.out,OutRow.nil,λz=>absurd z (by decide)⟩)
 have d3:decide (cu<=p)=false:=decide_eq_false h3;rw[if_neg h3]
 repeat (first
  | (with_reducible first | refine Lg.aW _ ?_ | refine Lg.aO _ ?_ | refine Lg.aL _ ?_ | refine Lg.aG _ ?_ | refine Lg.aN _ ?_)
  | ((with_reducible refine Lg.aI _ ?_ ?_);exact rfl)
  | ((with_reducible refine Lg.aJ _ ?_ ?_);exact rfl)
  | ((with_reducible apply Lg.aP);exact rfl)
  | (with_reducible refine Lg.aM _ ?_
     intro K hK y τ n' hy;subst hy;replace HN:=qd (HN.out.re hk);replace HO:=qd HO.out.re;obtain⟨c0,c1,c2,c3,c4,c5,c6,HS⟩:=SAt.c7 (show SAt I _ y from HN.out.rep.at_)
     go_wp2_with ((first |(go_at_call 55;refine(aH _ _ _ HS.out).mono ?_) |(go_at_call 37;refine(aC _ _ _ HS.out).mono ?_) |(go_at_call 39;refine(aD _ _ _ c1).mono ?_) |(go_at_call 57;refine(aE _ _ _ HS.out _).mono ?_));rintro e w' ⟨rfl,hw'⟩;subst hw')
     refine hK _ _ (λ_=>rfl) ?_;clear hK K c0 c1 c2 c3 c4 c5 c6 HS))
 obtain⟨N,hN⟩:∃ N,min (cu-p).toNat (max most 1).toNat=N:=⟨_,rfl⟩;rw[hN];have hN1:1<=N:=by omega
 clear d1 d2 d3 hcu;refine Lg.bP frB (R:=λf=>f 0=.pointer (some ⟨I.so,0,none⟩)/\f 1=V/\f 2=.int .i64 R/\f 3=.int .i64 most/\f 10=.int .i64 p/\f 11=.int .i64 cu/\f 12=.slice none 0 0/\f 13=.int .i64 (p+1)) ?_ (by rfl) ⟨rfl,rfl,rfl,rfl,rfl,rfl,rfl,rfl⟩;rintro f1 ⟨n0,n1,n2,n3,n10,n11,n12,n13⟩;refine Lg.eZ frB (λf t w=>∃ ls:List Int,ls.length<=N/\∃ s' H' oA oc,f 0=.pointer (some ⟨I.so,0,none⟩)/\f 1=V/\f 2=.int .i64 R/\f 3=.int .i64 most/\f 10=.int .i64 p/\f 11=.int .i64 cu/\f 12=.slice oA ls.length oc/\f 13=.int .i64 (p+1+ls.length)/\t=eK I p (N-ls.length) ls s' (λls e s2=>if e=0 then .yield s2 λs3=>k ls 0 ({ s3.1 with num:=uI s3.1.num R (p+ls.length),place:=uI s3.1.place R (p+ls.length) },s3.2) else k [] e s2)/\Now (B.solo I good) Cap H0 w0 s' H' w/\OutRow (B.solo I good) w0 H' w (.slice oA ls.length oc) ls) (λf _ _=>N-((intOf (f 13))-p-1).toNat) ⟨[],Nat.zero_le _,s,H,none,0,n0,n1,n2,n3,n10,n11,n12,by simpa using n13,rfl,HN.out,OutRow.nil⟩ ?_;clear HN HO n0 n1 n2 n3 n10 n11 n12 n13 f1 s H;rintro f2 t w2 ⟨ls,hl,s,H,oA,oc,k0,k1,k2,k3,k10,k11,k12,k13,rfl,hn,hout⟩ hnext;have HX:=qd hnext;have HN':=qd hN;have HN:=qd hn;have HO:=qd hout;clear hnext hn hout hN;simp only[frB,k0,k1,k2,k3,k10,k11,k12,k13];obtain⟨M,hM⟩:∃ M,(if most<1 then(1:Int) else most)=M:=⟨_,rfl⟩;have hM1:1<=M/\M=max most 1/\M<=9223372036854775807:=by rw[<-hM];split <;> omega
 obtain⟨m1,m2,m3⟩:=hM1;have hNM:N<=(cu-p).toNat/\N<=M.toNat/\(N=(cu-p).toNat\/N=M.toNat):=by have:=HN'.out;rw[m2];omega
 obtain⟨g1,g2,g3⟩:=hNM;have HG:=qd g3;clear m2 g3
 by_cases hlt:ls.length<N
 ·have h4 : p+1+(ls.length:Int)<=cu:=by omega
  have h5:(ls.length:Int)<M:=by omega
  have d4:decide (p+1+(ls.length:Int)<=cu)=true:=decide_eq_true h4;have d5:decide ((ls.length:Int)<M)=true:=decide_eq_true h5;obtain⟨j,hjj⟩:∃ j,N-ls.length=j+1:=⟨N-ls.length-1,by omega⟩;have HJ:=qd (show j=N-(ls.length+1) by omega);rw[hjj];clear hjj
  by_cases hbig:4294967296<=ls.length
  ·rw [show ∀ K,eK I p (j+1) ls s K=.cut from λK=>if_pos hbig]
   exact hcut _ _ _
  rw[show ∀ K,eK I p (j+1) ls s K=getG soloL I.n (p+1+ls.length) s λv e s'=>if e=0 then eK I p j (ls++[v]) s' K else if ls=[] then K [] e s' else K ls 0 s' from λK=>if_neg hbig]
  repeat (first
   | (with_reducible first | refine Lg.aW _ ?_ | refine Lg.aO _ ?_ | refine Lg.aL _ ?_ | refine Lg.aG _ ?_ | refine Lg.aN _ ?_)
   | ((with_reducible refine Lg.aI _ ?_ ?_);exact rfl)
   | ((with_reducible refine Lg.aJ _ ?_ ?_);exact rfl)
   | ((with_reducible apply Lg.aP);exact rfl)
   | (with_reducible refine Lg.aM _ ?_
      intro K hK y τ n' hy;subst hy;replace HN:=qd (HN.out.re hk);replace HO:=qd HO.out.re;obtain⟨c0,c1,c2,c3,c4,c5,c6,HS⟩:=SAt.c7 (show SAt I _ y from HN.out.rep.at_)
      go_wp2_with ((first |(go_at_call 55;refine(aH _ _ _ HS.out).mono ?_) |(go_at_call 37;refine(aC _ _ _ HS.out).mono ?_) |(go_at_call 39;refine(aD _ _ _ c1).mono ?_) |(go_at_call 57;refine(aE _ _ _ HS.out _).mono ?_));rintro e w' ⟨rfl,hw'⟩;subst hw')
      refine hK _ _ (λ_=>rfl) ?_;clear hK K c0 c1 c2 c3 c4 c5 c6 HS))
  with_reducible refine Lg.bJ _ ?_
  refine Lg.pre 0 6 6 (by simp) λK hK y τ n' hz=>?_;subst hz;replace HN:=qd (HN.out.re hk);replace HO:=qd HO.out.re;obtain⟨c0,c1,c2,c3,c4,c5,c6,HS⟩:=SAt.c7 (show SAt I _ y from HN.out.rep.at_);simp only[zC];go_wp2;refine hK _ _ (λ_=>rfl) ?_;clear hK K c0 c1 c2 c3 c4 c5 c6 HS;refine Lg.call (i:=6) (rest:=[7,8,9,10,11]) (f:=40) (args:=#[.pointer (some ⟨I.rb,0,none⟩),V,.int .i64 (p+1+ls.length)]) rfl rfl (λy=>by go_simp) (get_any hk hS hS2 H y s H _ (HN.out.here hk) (p+1+ls.length) _) ?_;rintro vv t' w' ⟨x,e,s,H,rfl,rfl,hn'⟩;have hout:=HO.out.held hn'.held;have hn:=HN.out.on hn';clear HN HO hn';have HN:=qd hn;have HO:=qd hout;clear hn hout;rw[Frame.finish_at];walk_nrm;refine(show L.T _ (Frame.at _ ⟨_,[]⟩ (.inRegion _ (List.range' 7 (5+0))::_)) (c::mid) w' from ?_);refine Lg.pre 7 5 0 (by simp) λK hK y τ n' hz=>?_;subst hz;replace HN:=qd (HN.out.re hk);replace HO:=qd HO.out.re;obtain⟨c0,c1,c2,c3,c4,c5,c6,HS⟩:=SAt.c7 (show SAt I _ y from HN.out.rep.at_)
  skip
  simp only[zC];go_wp2;refine hK _ _ (λ_=>rfl) ?_;clear hK K c0 c1 c2 c3 c4 c5 c6 HS;refine Lg.aN _ ?_
  by_cases he:e=0
  ·subst he
   rw[if_pos rfl]
   repeat (first
    | (with_reducible first | refine Lg.aW _ ?_ | refine Lg.aO _ ?_ | refine Lg.aL _ ?_ | refine Lg.aG _ ?_ | refine Lg.aN _ ?_)
    | ((with_reducible refine Lg.aI _ ?_ ?_);exact rfl)
    | ((with_reducible refine Lg.aJ _ ?_ ?_);exact rfl)
    | ((with_reducible apply Lg.aP);exact rfl)
    | (with_reducible refine Lg.aM _ ?_
       intro K hK y τ n' hy;subst hy;replace HN:=qd (HN.out.re hk);replace HO:=qd HO.out.re;obtain⟨c0,c1,c2,c3,c4,c5,c6,HS⟩:=SAt.c7 (show SAt I _ y from HN.out.rep.at_)
       go_wp2_with ((first |(go_at_call 55;refine(aH _ _ _ HS.out).mono ?_) |(go_at_call 37;refine(aC _ _ _ HS.out).mono ?_) |(go_at_call 39;refine(aD _ _ _ c1).mono ?_) |(go_at_call 57;refine(aE _ _ _ HS.out _).mono ?_));rintro e w' ⟨rfl,hw'⟩;subst hw')
       refine hK _ _ (λ_=>rfl) ?_;clear hK K c0 c1 c2 c3 c4 c5 c6 HS))
   with_reducible refine Lg.bJ _ ?_
   refine Lg.pre 0 3 2 (by simp) λK hK y τ n' hy=>?_;subst hy;replace HN:=qd (HN.out.re hk);replace HO:=qd HO.out.re;simp only[zC];go_wp2;refine hK _ _ (λ_=>rfl) ?_;clear hK K;have hnb:=Blk.new y 2 #[.int .i64 x];have hn:=HN.out.alloc (.cells #[.int .i64 x] 2);have hout:=HO.out.kept (Kept.alloc y (.cells #[.int .i64 x] 2));clear HN HO;generalize y.alloc (.cells #[.int .i64 x] 2)=z3 at hn hout hnb ⊢;generalize y.heap.size=nb at hnb ⊢;obtain⟨i0,hi0,hz0,hz1',hz2⟩:=info_parts Try.intInfo;refine Lg.pre 3 2 0 (by simp) λK hK q τ n' hq=>?_;subst hq;have hn:=hn.re hk;have hout:=hout.re;have hnb:Blk q nb _ _:=hnb;have hsize:w0.heap.size<=q.heap.size:=hn.held.size;simp only[zC];refine wpList_append_lies _ rfl _ _ _ rfl w0.heap.size 2 i0 _ 1 8 Try.underlying29 hi0 hz0 hz1' hz2 rfl (by omega) (.slice oA ls.length oc) ls.length _ rfl hout.own ⟨nb,0,none⟩ 1 1 [.int .i64 x] rfl rfl (World.news_of_block (cs:=#[.int .i64 x]) (t:=2) (fr:=(0,0)) hnb) (by simp[Value.oneCell']) (by omega) (by unfold maxLen;omega) (by omega) hsize _ rfl ?_;intro g cp' w1 hown hgrow hat hlt1;have hrowH:∀ b,(Value.slice oA ls.length oc).ownBlock=some b->w0.heap.size<=b/\¬H b/\¬(B.solo I good).RB b:=λb hb=>⟨(hout.blk hb).1,hout.nh b hb⟩;have hn2:=hn.grown hgrow λb hb=>hrowH b hb.symm.symm
   have hout2:OutRow (B.solo I good) w0 H w1 (.slice (some ⟨g,0,none⟩) (ls.length+1) cp') (ls++[x]):=by
    refine⟨by rw[List.length_append,List.map_append];exact hown,λb hb=>?_⟩;simp only[Value.ownBlock,Option.some.injEq] at hb;subst hb
    rcases hat with hat | hat
    ·exact (hrowH _ hat).2
    ·exact ⟨λz=>by have:=hn.rep.lt z;omega,λz=>by have:=hn.rlt z;omega⟩
   have HN:=qd hn2;have HO:=qd hout2;clear hn hn2 hout hout2 hown hgrow hat hlt1 hnb hrowH hsize;go_wp2;refine hK _ _ (λ_=>rfl) ?_;clear hK K;refine Lg.aN _ ?_
   repeat (first
    | (with_reducible first | refine Lg.aW _ ?_ | refine Lg.aO _ ?_ | refine Lg.aL _ ?_ | refine Lg.aG _ ?_ | refine Lg.aN _ ?_)
    | ((with_reducible refine Lg.aI _ ?_ ?_);exact rfl)
    | ((with_reducible refine Lg.aJ _ ?_ ?_);exact rfl)
    | ((with_reducible apply Lg.aP);exact rfl)
    | (with_reducible refine Lg.aM _ ?_
       intro K hK y τ n' hy;subst hy;replace HN:=qd (HN.out.re hk);replace HO:=qd HO.out.re;obtain⟨c0,c1,c2,c3,c4,c5,c6,HS⟩:=SAt.c7 (show SAt I _ y from HN.out.rep.at_)
       go_wp2_with ((first |(go_at_call 55;refine(aH _ _ _ HS.out).mono ?_) |(go_at_call 37;refine(aC _ _ _ HS.out).mono ?_) |(go_at_call 39;refine(aD _ _ _ c1).mono ?_) |(go_at_call 57;refine(aE _ _ _ HS.out _).mono ?_));rintro e w' ⟨rfl,hw'⟩;subst hw')
       refine hK _ _ (λ_=>rfl) ?_;clear hK K c0 c1 c2 c3 c4 c5 c6 HS))
   refine Lg.bP frB (R:=λf=>f 0=.pointer (some ⟨I.so,0,none⟩)/\f 1=V/\f 2=.int .i64 R/\f 3=.int .i64 most/\f 10=.int .i64 p/\f 11=.int .i64 cu/\f 12=.slice (some ⟨g,0,none⟩) (ls.length+1) cp'/\f 13=.int .i64 (p+1+((ls.length+1:Nat):Int))) ?_ (by rfl) ⟨rfl,rfl,rfl,rfl,rfl,rfl,rfl,by simp;omega⟩;rintro f' ⟨q0,q1,q2,q3,q10,q11,q12,q13⟩;exact HX.out f' _ _ ⟨ls++[x],by simp;omega,s,H,_,_,q0,q1,q2,q3,q10,q11,by simpa using q12,by simpa using q13,by rw[HJ.out,List.length_append,List.length_singleton],HN.out,by simpa using HO.out⟩ (by rw[q13,k13];simp only[intOf];omega)
  ·rw [if_neg he]
   have de:(e !=0)=true:=by simpa using he
   by_cases hls:ls=[]
   ·subst hls
    rw[if_pos rfl,if_neg he]
    repeat (first
     | (with_reducible first | refine Lg.aW _ ?_ | refine Lg.aO _ ?_ | refine Lg.aL _ ?_ | refine Lg.aG _ ?_ | refine Lg.aN _ ?_)
     | ((with_reducible refine Lg.aI _ ?_ ?_);exact rfl)
     | ((with_reducible refine Lg.aJ _ ?_ ?_);exact rfl)
     | ((with_reducible apply Lg.aP);exact rfl)
     | (with_reducible refine Lg.aM _ ?_
        intro K hK y τ n' hy;subst hy;replace HN:=qd (HN.out.re hk);replace HO:=qd HO.out.re;obtain⟨c0,c1,c2,c3,c4,c5,c6,HS⟩:=SAt.c7 (show SAt I _ y from HN.out.rep.at_)
        go_wp2_with ((first |(go_at_call 55;refine(aH _ _ _ HS.out).mono ?_) |(go_at_call 37;refine(aC _ _ _ HS.out).mono ?_) |(go_at_call 39;refine(aD _ _ _ c1).mono ?_) |(go_at_call 57;refine(aE _ _ _ HS.out _).mono ?_));rintro e w' ⟨rfl,hw'⟩;subst hw')
        refine hK _ _ (λ_=>rfl) ?_;clear hK K c0 c1 c2 c3 c4 c5 c6 HS))
    with_reducible refine Lg.bO _ ?_
    exact Lg.leave rfl Try.func15 rfl (v:=.tuple #[.slice none 0 0,.int .i64 e]) (λ_ _ _ _=>by simp[results,Try.f15]) (HR.out _ _ _ ⟨[],_,_,_,H,rfl,rfl,HN.out,OutRow.nil,λz=>absurd z he⟩)
   ·rw [if_neg hls,if_pos trivial]
    have hne:((ls.length:Int)==0)=false:=by
     have:=List.length_pos_iff.2 hls;simp only[beq_eq_false_iff_ne];omega
    repeat (first
     | (with_reducible first | refine Lg.aW _ ?_ | refine Lg.aO _ ?_ | refine Lg.aL _ ?_ | refine Lg.aG _ ?_ | refine Lg.aN _ ?_)
     | ((with_reducible refine Lg.aI _ ?_ ?_);exact rfl)
     | ((with_reducible refine Lg.aJ _ ?_ ?_);exact rfl)
     | ((with_reducible apply Lg.aP);exact rfl)
     | (with_reducible refine Lg.aM _ ?_
        intro K hK y τ n' hy;subst hy;replace HN:=qd (HN.out.re hk);replace HO:=qd HO.out.re;obtain⟨c0,c1,c2,c3,c4,c5,c6,HS⟩:=SAt.c7 (show SAt I _ y from HN.out.rep.at_)
        go_wp2_with ((first |(go_at_call 55;refine(aH _ _ _ HS.out).mono ?_) |(go_at_call 37;refine(aC _ _ _ HS.out).mono ?_) |(go_at_call 39;refine(aD _ _ _ c1).mono ?_) |(go_at_call 57;refine(aE _ _ _ HS.out _).mono ?_));rintro e w' ⟨rfl,hw'⟩;subst hw')
        refine hK _ _ (λ_=>rfl) ?_;clear hK K c0 c1 c2 c3 c4 c5 c6 HS))
    with_reducible refine Lg.bJ _ ?_
    refine Lg.pre 0 1 1 (by simp) λK hK z τ n' hz=>?_;subst hz;replace HN:=qd (HN.out.re hk);replace HO:=qd HO.out.re;go_wp2;refine hK _ _ (λ_=>rfl) ?_;clear hK K;refine Lg.call (i:=1) (rest:=[]) (f:=38) (args:=#[V]) rfl rfl (λy=>by go_simp) (hS2 _ _ _ _ _ _ (HN.out.here hk)) ?_;rintro vv t' w' ⟨rfl,s,H,rfl,hn'⟩;have hout:=HO.out.held hn'.held;have hn:=HN.out.on hn';clear HN HO hn';have HN:=qd hn;have HO:=qd hout;clear hn hout;rw[Frame.finish_at];walk_nrm
    with_reducible refine Lg.aN _ ?_
    repeat (first
     | (with_reducible first | refine Lg.aW _ ?_ | refine Lg.aO _ ?_ | refine Lg.aL _ ?_ | refine Lg.aG _ ?_ | refine Lg.aN _ ?_)
     | ((with_reducible refine Lg.aI _ ?_ ?_);exact rfl)
     | ((with_reducible refine Lg.aJ _ ?_ ?_);exact rfl)
     | ((with_reducible apply Lg.aP);exact rfl)
     | (with_reducible refine Lg.aM _ ?_
        intro K hK y τ n' hy;subst hy;replace HN:=qd (HN.out.re hk);replace HO:=qd HO.out.re;obtain⟨c0,c1,c2,c3,c4,c5,c6,HS⟩:=SAt.c7 (show SAt I _ y from HN.out.rep.at_)
        go_wp2_with ((first |(go_at_call 55;refine(aH _ _ _ HS.out).mono ?_) |(go_at_call 37;refine(aC _ _ _ HS.out).mono ?_) |(go_at_call 39;refine(aD _ _ _ c1).mono ?_) |(go_at_call 57;refine(aE _ _ _ HS.out _).mono ?_));rintro e w' ⟨rfl,hw'⟩;subst hw')
        refine hK _ _ (λ_=>rfl) ?_;clear hK K c0 c1 c2 c3 c4 c5 c6 HS))
    with_reducible refine Lg.aM _ ?_
    intro K hK y τ n' hy;subst hy;replace HN:=qd (HN.out.re hk);replace HO:=qd HO.out.re;obtain⟨c0,c1,c2,c3,c4,c5,c6,HS⟩:=SAt.c7 (show SAt I _ y from HN.out.rep.at_);have cj:=HS.out.nums.cell R hR2;have zj:=HS.out.nums.free R
    go_wp2_with (go_at_call 33;refine(aZ _ _ _ _ cj zj).mono ?_;rintro e w' ⟨rfl,hw'⟩;subst hw')
    refine hK _ _ (λ_=>rfl) ?_;clear cj zj;clear hK K c0 c1 c2 c3 c4 c5 c6 HS;have hh:=nG HN.out.rep hR2 (p+ls.length);have hout:=HO.out.held hh.2;have hn:=HN.out.to hk hh;clear HN HO hh;have HN:=qd hn;have HO:=qd hout;clear hn hout;generalize World.setCell _ _ _=y' at HN HO ⊢
    repeat (first
     | (with_reducible first | refine Lg.aW _ ?_ | refine Lg.aO _ ?_ | refine Lg.aL _ ?_ | refine Lg.aG _ ?_ | refine Lg.aN _ ?_)
     | ((with_reducible refine Lg.aI _ ?_ ?_);exact rfl)
     | ((with_reducible refine Lg.aJ _ ?_ ?_);exact rfl)
     | ((with_reducible apply Lg.aP);exact rfl)
     | (with_reducible refine Lg.aM _ ?_
        intro K hK y τ n' hy;subst hy;replace HN:=qd (HN.out.re hk);replace HO:=qd HO.out.re;obtain⟨c0,c1,c2,c3,c4,c5,c6,HS⟩:=SAt.c7 (show SAt I _ y from HN.out.rep.at_)
        go_wp2_with ((first |(go_at_call 55;refine(aH _ _ _ HS.out).mono ?_) |(go_at_call 37;refine(aC _ _ _ HS.out).mono ?_) |(go_at_call 39;refine(aD _ _ _ c1).mono ?_) |(go_at_call 57;refine(aE _ _ _ HS.out _).mono ?_));rintro e w' ⟨rfl,hw'⟩;subst hw')
        refine hK _ _ (λ_=>rfl) ?_;clear hK K c0 c1 c2 c3 c4 c5 c6 HS))
    with_reducible refine Lg.aM _ ?_
    intro K hK y τ n' hy;subst hy;replace HN:=qd (HN.out.re hk);replace HO:=qd HO.out.re;obtain⟨c0,c1,c2,c3,c4,c5,c6,HS⟩:=SAt.c7 (show SAt I _ y from HN.out.rep.at_);have cj:=HS.out.places.cell R hR2;have zj:=HS.out.places.free R;go_wp2;refine hK _ _ (λ_=>rfl) ?_;clear cj zj;clear hK K c0 c1 c2 c3 c4 c5 c6 HS;have hh:=jU HN.out.rep hR2 (p+ls.length) (by omega) (by omega);have hout:=HO.out.held hh.2;have hn:=HN.out.to hk hh;clear HN HO hh;have HN:=qd hn;have HO:=qd hout;clear hn hout;generalize World.setCell _ _ _=y' at HN HO ⊢
    repeat (first
     | (with_reducible first | refine Lg.aW _ ?_ | refine Lg.aO _ ?_ | refine Lg.aL _ ?_ | refine Lg.aG _ ?_ | refine Lg.aN _ ?_)
     | ((with_reducible refine Lg.aI _ ?_ ?_);exact rfl)
     | ((with_reducible refine Lg.aJ _ ?_ ?_);exact rfl)
     | ((with_reducible apply Lg.aP);exact rfl)
     | (with_reducible refine Lg.aM _ ?_
        intro K hK y τ n' hy;subst hy;replace HN:=qd (HN.out.re hk);replace HO:=qd HO.out.re;obtain⟨c0,c1,c2,c3,c4,c5,c6,HS⟩:=SAt.c7 (show SAt I _ y from HN.out.rep.at_)
        go_wp2_with ((first |(go_at_call 55;refine(aH _ _ _ HS.out).mono ?_) |(go_at_call 37;refine(aC _ _ _ HS.out).mono ?_) |(go_at_call 39;refine(aD _ _ _ c1).mono ?_) |(go_at_call 57;refine(aE _ _ _ HS.out _).mono ?_));rintro e w' ⟨rfl,hw'⟩;subst hw')
        refine hK _ _ (λ_=>rfl) ?_;clear hK K c0 c1 c2 c3 c4 c5 c6 HS))
    with_reducible refine Lg.bO _ ?_
    exact Lg.leave rfl Try.func15 rfl (v:=.tuple #[.slice oA ls.length oc,.int .i64 0]) (λ_ _ _ _=>by simp[results,Try.f15]) (HR.out _ _ _ ⟨ls,_,_,_,H,rfl,rfl,HN.out,HO.out,λ_=>hls⟩)
 ·have e0:N-ls.length=0:=by omega
  have hls:¬ls=[]:=by
   rintro rfl
   simp at e0
   omega
  rw[e0,show ∀ K,eK I p 0 ls s K=K ls 0 s from λK=>rfl,if_pos rfl]
  by_cases h4:p+1+(ls.length:Int)<=cu
  ·have d4:decide (p+1+(ls.length:Int)<=cu)=true:=decide_eq_true h4
   have d5:decide ((ls.length:Int)<M)=false:=decide_eq_false (by have:=HG.out;omega)
   repeat (first
    | (with_reducible first | refine Lg.aW _ ?_ | refine Lg.aO _ ?_ | refine Lg.aL _ ?_ | refine Lg.aG _ ?_ | refine Lg.aN _ ?_)
    | ((with_reducible refine Lg.aI _ ?_ ?_);exact rfl)
    | ((with_reducible refine Lg.aJ _ ?_ ?_);exact rfl)
    | ((with_reducible apply Lg.aP);exact rfl)
    | (with_reducible refine Lg.aM _ ?_
       intro K hK y τ n' hy;subst hy;replace HN:=qd (HN.out.re hk);replace HO:=qd HO.out.re;obtain⟨c0,c1,c2,c3,c4,c5,c6,HS⟩:=SAt.c7 (show SAt I _ y from HN.out.rep.at_)
       go_wp2_with ((first |(go_at_call 55;refine(aH _ _ _ HS.out).mono ?_) |(go_at_call 37;refine(aC _ _ _ HS.out).mono ?_) |(go_at_call 39;refine(aD _ _ _ c1).mono ?_) |(go_at_call 57;refine(aE _ _ _ HS.out _).mono ?_));rintro e w' ⟨rfl,hw'⟩;subst hw')
       refine hK _ _ (λ_=>rfl) ?_;clear hK K c0 c1 c2 c3 c4 c5 c6 HS))
   with_reducible refine Lg.bJ _ ?_
   refine Lg.pre 0 1 1 (by simp) λK hK z τ n' hz=>?_;subst hz;replace HN:=qd (HN.out.re hk);replace HO:=qd HO.out.re;go_wp2;refine hK _ _ (λ_=>rfl) ?_;clear hK K;refine Lg.call (i:=1) (rest:=[]) (f:=38) (args:=#[V]) rfl rfl (λy=>by go_simp) (hS2 _ _ _ _ _ _ (HN.out.here hk)) ?_;rintro vv t' w' ⟨rfl,s,H,rfl,hn'⟩;have hout:=HO.out.held hn'.held;have hn:=HN.out.on hn';clear HN HO hn';have HN:=qd hn;have HO:=qd hout;clear hn hout;rw[Frame.finish_at];walk_nrm
   with_reducible refine Lg.aN _ ?_
   repeat (first
    | (with_reducible first | refine Lg.aW _ ?_ | refine Lg.aO _ ?_ | refine Lg.aL _ ?_ | refine Lg.aG _ ?_ | refine Lg.aN _ ?_)
    | ((with_reducible refine Lg.aI _ ?_ ?_);exact rfl)
    | ((with_reducible refine Lg.aJ _ ?_ ?_);exact rfl)
    | ((with_reducible apply Lg.aP);exact rfl)
    | (with_reducible refine Lg.aM _ ?_
       intro K hK y τ n' hy;subst hy;replace HN:=qd (HN.out.re hk);replace HO:=qd HO.out.re;obtain⟨c0,c1,c2,c3,c4,c5,c6,HS⟩:=SAt.c7 (show SAt I _ y from HN.out.rep.at_)
       go_wp2_with ((first |(go_at_call 55;refine(aH _ _ _ HS.out).mono ?_) |(go_at_call 37;refine(aC _ _ _ HS.out).mono ?_) |(go_at_call 39;refine(aD _ _ _ c1).mono ?_) |(go_at_call 57;refine(aE _ _ _ HS.out _).mono ?_));rintro e w' ⟨rfl,hw'⟩;subst hw')
       refine hK _ _ (λ_=>rfl) ?_;clear hK K c0 c1 c2 c3 c4 c5 c6 HS))
   with_reducible refine Lg.aM _ ?_
   intro K hK y τ n' hy;subst hy;replace HN:=qd (HN.out.re hk);replace HO:=qd HO.out.re;obtain⟨c0,c1,c2,c3,c4,c5,c6,HS⟩:=SAt.c7 (show SAt I _ y from HN.out.rep.at_);have cj:=HS.out.nums.cell R hR2;have zj:=HS.out.nums.free R
   go_wp2_with (go_at_call 33;refine(aZ _ _ _ _ cj zj).mono ?_;rintro e w' ⟨rfl,hw'⟩;subst hw')
   refine hK _ _ (λ_=>rfl) ?_;clear cj zj;clear hK K c0 c1 c2 c3 c4 c5 c6 HS;have hh:=nG HN.out.rep hR2 (p+ls.length);have hout:=HO.out.held hh.2;have hn:=HN.out.to hk hh;clear HN HO hh;have HN:=qd hn;have HO:=qd hout;clear hn hout;generalize World.setCell _ _ _=y' at HN HO ⊢
   repeat (first
    | (with_reducible first | refine Lg.aW _ ?_ | refine Lg.aO _ ?_ | refine Lg.aL _ ?_ | refine Lg.aG _ ?_ | refine Lg.aN _ ?_)
    | ((with_reducible refine Lg.aI _ ?_ ?_);exact rfl)
    | ((with_reducible refine Lg.aJ _ ?_ ?_);exact rfl)
    | ((with_reducible apply Lg.aP);exact rfl)
    | (with_reducible refine Lg.aM _ ?_
       intro K hK y τ n' hy;subst hy;replace HN:=qd (HN.out.re hk);replace HO:=qd HO.out.re;obtain⟨c0,c1,c2,c3,c4,c5,c6,HS⟩:=SAt.c7 (show SAt I _ y from HN.out.rep.at_)
       go_wp2_with ((first |(go_at_call 55;refine(aH _ _ _ HS.out).mono ?_) |(go_at_call 37;refine(aC _ _ _ HS.out).mono ?_) |(go_at_call 39;refine(aD _ _ _ c1).mono ?_) |(go_at_call 57;refine(aE _ _ _ HS.out _).mono ?_));rintro e w' ⟨rfl,hw'⟩;subst hw')
       refine hK _ _ (λ_=>rfl) ?_;clear hK K c0 c1 c2 c3 c4 c5 c6 HS))
   with_reducible refine Lg.aM _ ?_
   intro K hK y τ n' hy;subst hy;replace HN:=qd (HN.out.re hk);replace HO:=qd HO.out.re;obtain⟨c0,c1,c2,c3,c4,c5,c6,HS⟩:=SAt.c7 (show SAt I _ y from HN.out.rep.at_);have cj:=HS.out.places.cell R hR2;have zj:=HS.out.places.free R;go_wp2;refine hK _ _ (λ_=>rfl) ?_;clear cj zj;clear hK K c0 c1 c2 c3 c4 c5 c6 HS;have hh:=jU HN.out.rep hR2 (p+ls.length) (by omega) (by omega);have hout:=HO.out.held hh.2;have hn:=HN.out.to hk hh;clear HN HO hh;have HN:=qd hn;have HO:=qd hout;clear hn hout;generalize World.setCell _ _ _=y' at HN HO ⊢
   repeat (first
    | (with_reducible first | refine Lg.aW _ ?_ | refine Lg.aO _ ?_ | refine Lg.aL _ ?_ | refine Lg.aG _ ?_ | refine Lg.aN _ ?_)
    | ((with_reducible refine Lg.aI _ ?_ ?_);exact rfl)
    | ((with_reducible refine Lg.aJ _ ?_ ?_);exact rfl)
    | ((with_reducible apply Lg.aP);exact rfl)
    | (with_reducible refine Lg.aM _ ?_
       intro K hK y τ n' hy;subst hy;replace HN:=qd (HN.out.re hk);replace HO:=qd HO.out.re;obtain⟨c0,c1,c2,c3,c4,c5,c6,HS⟩:=SAt.c7 (show SAt I _ y from HN.out.rep.at_)
       go_wp2_with ((first |(go_at_call 55;refine(aH _ _ _ HS.out).mono ?_) |(go_at_call 37;refine(aC _ _ _ HS.out).mono ?_) |(go_at_call 39;refine(aD _ _ _ c1).mono ?_) |(go_at_call 57;refine(aE _ _ _ HS.out _).mono ?_));rintro e w' ⟨rfl,hw'⟩;subst hw')
       refine hK _ _ (λ_=>rfl) ?_;clear hK K c0 c1 c2 c3 c4 c5 c6 HS))
   with_reducible refine Lg.bO _ ?_
   exact Lg.leave rfl Try.func15 rfl (v:=.tuple #[.slice oA ls.length oc,.int .i64 0]) (λ_ _ _ _=>by simp[results,Try.f15]) (HR.out _ _ _ ⟨ls,_,_,_,H,rfl,rfl,HN.out,HO.out,λ_=>hls⟩)
  ·have d4:decide (p+1+(ls.length:Int)<=cu)=false:=decide_eq_false h4
   repeat (first
    | (with_reducible first | refine Lg.aW _ ?_ | refine Lg.aO _ ?_ | refine Lg.aL _ ?_ | refine Lg.aG _ ?_ | refine Lg.aN _ ?_)
    | ((with_reducible refine Lg.aI _ ?_ ?_);exact rfl)
    | ((with_reducible refine Lg.aJ _ ?_ ?_);exact rfl)
    | ((with_reducible apply Lg.aP);exact rfl)
    | (with_reducible refine Lg.aM _ ?_
       intro K hK y τ n' hy;subst hy;replace HN:=qd (HN.out.re hk);replace HO:=qd HO.out.re;obtain⟨c0,c1,c2,c3,c4,c5,c6,HS⟩:=SAt.c7 (show SAt I _ y from HN.out.rep.at_)
       go_wp2_with ((first |(go_at_call 55;refine(aH _ _ _ HS.out).mono ?_) |(go_at_call 37;refine(aC _ _ _ HS.out).mono ?_) |(go_at_call 39;refine(aD _ _ _ c1).mono ?_) |(go_at_call 57;refine(aE _ _ _ HS.out _).mono ?_));rintro e w' ⟨rfl,hw'⟩;subst hw')
       refine hK _ _ (λ_=>rfl) ?_;clear hK K c0 c1 c2 c3 c4 c5 c6 HS))
   with_reducible refine Lg.bJ _ ?_
   refine Lg.pre 0 1 1 (by simp) λK hK z τ n' hz=>?_;subst hz;replace HN:=qd (HN.out.re hk);replace HO:=qd HO.out.re;go_wp2;refine hK _ _ (λ_=>rfl) ?_;clear hK K;refine Lg.call (i:=1) (rest:=[]) (f:=38) (args:=#[V]) rfl rfl (λy=>by go_simp) (hS2 _ _ _ _ _ _ (HN.out.here hk)) ?_;rintro vv t' w' ⟨rfl,s,H,rfl,hn'⟩;have hout:=HO.out.held hn'.held;have hn:=HN.out.on hn';clear HN HO hn';have HN:=qd hn;have HO:=qd hout;clear hn hout;rw[Frame.finish_at];walk_nrm
   with_reducible refine Lg.aN _ ?_
   repeat (first
    | (with_reducible first | refine Lg.aW _ ?_ | refine Lg.aO _ ?_ | refine Lg.aL _ ?_ | refine Lg.aG _ ?_ | refine Lg.aN _ ?_)
    | ((with_reducible refine Lg.aI _ ?_ ?_);exact rfl)
    | ((with_reducible refine Lg.aJ _ ?_ ?_);exact rfl)
    | ((with_reducible apply Lg.aP);exact rfl)
    | (with_reducible refine Lg.aM _ ?_
       intro K hK y τ n' hy;subst hy;replace HN:=qd (HN.out.re hk);replace HO:=qd HO.out.re;obtain⟨c0,c1,c2,c3,c4,c5,c6,HS⟩:=SAt.c7 (show SAt I _ y from HN.out.rep.at_)
       go_wp2_with ((first |(go_at_call 55;refine(aH _ _ _ HS.out).mono ?_) |(go_at_call 37;refine(aC _ _ _ HS.out).mono ?_) |(go_at_call 39;refine(aD _ _ _ c1).mono ?_) |(go_at_call 57;refine(aE _ _ _ HS.out _).mono ?_));rintro e w' ⟨rfl,hw'⟩;subst hw')
       refine hK _ _ (λ_=>rfl) ?_;clear hK K c0 c1 c2 c3 c4 c5 c6 HS))
   with_reducible refine Lg.aM _ ?_
   intro K hK y τ n' hy;subst hy;replace HN:=qd (HN.out.re hk);replace HO:=qd HO.out.re;obtain⟨c0,c1,c2,c3,c4,c5,c6,HS⟩:=SAt.c7 (show SAt I _ y from HN.out.rep.at_);have cj:=HS.out.nums.cell R hR2;have zj:=HS.out.nums.free R
   go_wp2_with (go_at_call 33;refine(aZ _ _ _ _ cj zj).mono ?_;rintro e w' ⟨rfl,hw'⟩;subst hw')
   refine hK _ _ (λ_=>rfl) ?_;clear cj zj;clear hK K c0 c1 c2 c3 c4 c5 c6 HS;have hh:=nG HN.out.rep hR2 (p+ls.length);have hout:=HO.out.held hh.2;have hn:=HN.out.to hk hh;clear HN HO hh;have HN:=qd hn;have HO:=qd hout;clear hn hout;generalize World.setCell _ _ _=y' at HN HO ⊢
   repeat (first
    | (with_reducible first | refine Lg.aW _ ?_ | refine Lg.aO _ ?_ | refine Lg.aL _ ?_ | refine Lg.aG _ ?_ | refine Lg.aN _ ?_)
    | ((with_reducible refine Lg.aI _ ?_ ?_);exact rfl)
    | ((with_reducible refine Lg.aJ _ ?_ ?_);exact rfl)
    | ((with_reducible apply Lg.aP);exact rfl)
    | (with_reducible refine Lg.aM _ ?_
       intro K hK y τ n' hy;subst hy;replace HN:=qd (HN.out.re hk);replace HO:=qd HO.out.re;obtain⟨c0,c1,c2,c3,c4,c5,c6,HS⟩:=SAt.c7 (show SAt I _ y from HN.out.rep.at_)
       go_wp2_with ((first |(go_at_call 55;refine(aH _ _ _ HS.out).mono ?_) |(go_at_call 37;refine(aC _ _ _ HS.out).mono ?_) |(go_at_call 39;refine(aD _ _ _ c1).mono ?_) |(go_at_call 57;refine(aE _ _ _ HS.out _).mono ?_));rintro e w' ⟨rfl,hw'⟩;subst hw')
       refine hK _ _ (λ_=>rfl) ?_;clear hK K c0 c1 c2 c3 c4 c5 c6 HS))
   with_reducible refine Lg.aM _ ?_
   intro K hK y τ n' hy;subst hy;replace HN:=qd (HN.out.re hk);replace HO:=qd HO.out.re;obtain⟨c0,c1,c2,c3,c4,c5,c6,HS⟩:=SAt.c7 (show SAt I _ y from HN.out.rep.at_);have cj:=HS.out.places.cell R hR2;have zj:=HS.out.places.free R;go_wp2;refine hK _ _ (λ_=>rfl) ?_;clear cj zj;clear hK K c0 c1 c2 c3 c4 c5 c6 HS;have hh:=jU HN.out.rep hR2 (p+ls.length) (by omega) (by omega);have hout:=HO.out.held hh.2;have hn:=HN.out.to hk hh;clear HN HO hh;have HN:=qd hn;have HO:=qd hout;clear hn hout;generalize World.setCell _ _ _=y' at HN HO ⊢
   repeat (first
    | (with_reducible first | refine Lg.aW _ ?_ | refine Lg.aO _ ?_ | refine Lg.aL _ ?_ | refine Lg.aG _ ?_ | refine Lg.aN _ ?_)
    | ((with_reducible refine Lg.aI _ ?_ ?_);exact rfl)
    | ((with_reducible refine Lg.aJ _ ?_ ?_);exact rfl)
    | ((with_reducible apply Lg.aP);exact rfl)
    | (with_reducible refine Lg.aM _ ?_
       intro K hK y τ n' hy;subst hy;replace HN:=qd (HN.out.re hk);replace HO:=qd HO.out.re;obtain⟨c0,c1,c2,c3,c4,c5,c6,HS⟩:=SAt.c7 (show SAt I _ y from HN.out.rep.at_)
       go_wp2_with ((first |(go_at_call 55;refine(aH _ _ _ HS.out).mono ?_) |(go_at_call 37;refine(aC _ _ _ HS.out).mono ?_) |(go_at_call 39;refine(aD _ _ _ c1).mono ?_) |(go_at_call 57;refine(aE _ _ _ HS.out _).mono ?_));rintro e w' ⟨rfl,hw'⟩;subst hw')
       refine hK _ _ (λ_=>rfl) ?_;clear hK K c0 c1 c2 c3 c4 c5 c6 HS))
   with_reducible refine Lg.bO _ ?_
   exact Lg.leave rfl Try.func15 rfl (v:=.tuple #[.slice oA ls.length oc,.int .i64 0]) (λ_ _ _ _=>by simp[results,Try.f15]) (HR.out _ _ _ ⟨ls,_,_,_,H,rfl,rfl,HN.out,HO.out,λ_=>hls⟩)
def kL (I:Ids) (r:Int) (s:SSt) (k:Int->Int->SSt->Tree SSt SSt):Tree SSt SSt:=eV I r 1 s λls e s'=>if e=0 then k (ls.headD 0) 0 s' else k 0 e s'
theorem solo_readT {B:OpsB}{I:Ids}{good:OpI->Prop}{L:Lg Try.prog (Tree SSt SSt)}{Cap:(Nat->Prop)->World->Prop}{V:Value}(hk:iL Cap) (hS:dC (B.solo I good) L Cap 63 V) (hS2:dC (B.solo I good) L Cap 38 V) (H0:Nat->Prop) (w0:World) (s:SSt) (H:Nat->Prop) (w:World) (hn:Now (B.solo I good) Cap H0 w0 s H w) (hcut:∀ fr mid x,L.T .cut fr mid x) (r:Int) (k:Int->Int->SSt->Tree SSt SSt):Ccalls L 14 #[.pointer (some ⟨I.so,0,none⟩),V,.int .i64 r] (kL I r s k) w λu t' w'=>∃ q e s' H',u=.tuple #[.int .i64 q,.int .i64 e]/\t'=k q e s'/\Now (B.solo I good) Cap H0 w0 s' H' w':=by
 have hout:OutRow (B.solo I good) w0 H w (.slice none 0 0) []:=OutRow.nil;intro c mid hR;have HR:=qd hR;have HN:=qd hn;clear hR hn;rw[show Frame.enter Try.prog 14 #[.pointer (some ⟨I.so,0,none⟩),V,.int .i64 r] .normal=Frame.at { (default:Frame) with fn:=14,kind:=.normal } ⟨#[.pointer (some ⟨I.so,0,none⟩),V,.int .i64 r]++Array.replicate (Try.f14.ntmps-3) undef,[]⟩ [.code (Try.f14.body.getD .skip)] from by simp[Frame.enter,Frame.at,Try.func14];rfl];simp only[Try.f14,Option.getD_some,Nat.reduceSub,Array.replicate_succ,Array.replicate_zero,List.push_toArray,List.append_toArray,List.nil_append,List.cons_append];have HO:=qd hout;clear hout;unfold kL
 repeat (first
  | (with_reducible first | refine Lg.aW _ ?_ | refine Lg.aO _ ?_ | refine Lg.aL _ ?_ | refine Lg.aG _ ?_ | refine Lg.aN _ ?_)
  | ((with_reducible refine Lg.aI _ ?_ ?_);exact rfl)
  | ((with_reducible refine Lg.aJ _ ?_ ?_);exact rfl)
  | ((with_reducible apply Lg.aP);exact rfl)
  | (with_reducible refine Lg.aM _ ?_
     intro K hK y τ n' hy;subst hy;replace HN:=qd (HN.out.re hk);replace HO:=qd HO.out.re;obtain⟨c0,c1,c2,c3,c4,c5,c6,HS⟩:=SAt.c7 (show SAt I _ y from HN.out.rep.at_)
     go_wp2_with ((first |(go_at_call 55;refine(aH _ _ _ HS.out).mono ?_) |(go_at_call 37;refine(aC _ _ _ HS.out).mono ?_) |(go_at_call 39;refine(aD _ _ _ c1).mono ?_) |(go_at_call 57;refine(aE _ _ _ HS.out _).mono ?_));rintro e w' ⟨rfl,hw'⟩;subst hw')
     refine hK _ _ (λ_=>rfl) ?_;clear hK K c0 c1 c2 c3 c4 c5 c6 HS))
 with_reducible refine Lg.bJ _ ?_
 refine Lg.pre 0 3 6 (by simp) λK hK y τ n' hz=>?_;subst hz;replace HN:=qd (HN.out.re hk);replace HO:=qd HO.out.re;obtain⟨c0,c1,c2,c3,c4,c5,c6,HS⟩:=SAt.c7 (show SAt I _ y from HN.out.rep.at_);simp only[zC];go_wp2;refine hK _ _ (λ_=>rfl) ?_;clear hK K c0 c1 c2 c3 c4 c5 c6 HS;refine Lg.call (i:=3) (rest:=[4,5,6,7,8]) (f:=15) (args:=#[.pointer (some ⟨I.so,0,none⟩),V,.int .i64 r,.int .i64 1]) rfl rfl (λy=>by go_simp) (lV hk hS hS2 H y s H _ (HN.out.here hk) hcut r 1 (by decide) (by decide) _) ?_;rintro vv t' w' ⟨ls,v,e,s,H,rfl,rfl,hn',hout',hne⟩;have hn:=HN.out.on hn';obtain⟨A,ca,rfl,hl1,hl2⟩:=hout'.slice;clear HN HO hn';have HN:=qd hn;have HO:=qd hout';clear hn hout';unfold maxLen at hl2;rw[Frame.finish_at];walk_nrm;refine(show L.T _ (Frame.at _ ⟨_,[]⟩ (.inRegion _ (List.range' 4 (5+0))::_)) (c::mid) w' from ?_);refine Lg.pre 4 5 0 (by simp) λK hK y τ n' hz=>?_;subst hz;replace HN:=qd (HN.out.re hk);replace HO:=qd HO.out.re;obtain⟨c0,c1,c2,c3,c4,c5,c6,HS⟩:=SAt.c7 (show SAt I _ y from HN.out.rep.at_)
 skip
 simp only[zC];go_wp2;refine hK _ _ (λ_=>rfl) ?_;clear hK K c0 c1 c2 c3 c4 c5 c6 HS;refine Lg.aN _ ?_
 by_cases he:e=0
 ·subst he
  rw[if_pos rfl];have hlt:0<ls.length:=List.length_pos_iff.2 (hne rfl);obtain⟨g,c',hsl,hcell⟩:=HO.out.cell hlt;simp only[Value.slice.injEq] at hsl;obtain⟨rfl,-,rfl⟩:=hsl;clear hcell hne
  repeat (first
   | (with_reducible first | refine Lg.aW _ ?_ | refine Lg.aO _ ?_ | refine Lg.aL _ ?_ | refine Lg.aG _ ?_ | refine Lg.aN _ ?_)
   | ((with_reducible refine Lg.aI _ ?_ ?_);exact rfl)
   | ((with_reducible refine Lg.aJ _ ?_ ?_);exact rfl)
   | ((with_reducible apply Lg.aP);exact rfl)
   | (with_reducible refine Lg.aM _ ?_
      intro K hK y τ n' hy;subst hy;replace HN:=qd (HN.out.re hk);replace HO:=qd HO.out.re;obtain⟨c0,c1,c2,c3,c4,c5,c6,HS⟩:=SAt.c7 (show SAt I _ y from HN.out.rep.at_)
      go_wp2_with ((first |(go_at_call 55;refine(aH _ _ _ HS.out).mono ?_) |(go_at_call 37;refine(aC _ _ _ HS.out).mono ?_) |(go_at_call 39;refine(aD _ _ _ c1).mono ?_) |(go_at_call 57;refine(aE _ _ _ HS.out _).mono ?_));rintro e w' ⟨rfl,hw'⟩;subst hw')
      refine hK _ _ (λ_=>rfl) ?_;clear hK K c0 c1 c2 c3 c4 c5 c6 HS))
  with_reducible refine Lg.aM _ ?_
  intro K hK y τ n' hy;subst hy;replace HN:=qd (HN.out.re hk);replace HO:=qd HO.out.re;obtain⟨g',c',hsl,hcell⟩:=HO.out.cell hlt;simp only[Value.slice.injEq,Option.some.injEq,Addr.mk.injEq,and_true,true_and] at hsl;obtain⟨rfl,rfl⟩:=hsl;have hh:ls.headD 0=ls[0]:=by cases ls with | nil=>simp at hlt | cons a l=>rfl
  generalize ls[0]=x at hcell hh;go_wp2;refine hK _ _ (λ_=>rfl) ?_;clear hK K hcell;rw[hh]
  repeat (first
   | (with_reducible first | refine Lg.aW _ ?_ | refine Lg.aO _ ?_ | refine Lg.aL _ ?_ | refine Lg.aG _ ?_ | refine Lg.aN _ ?_)
   | ((with_reducible refine Lg.aI _ ?_ ?_);exact rfl)
   | ((with_reducible refine Lg.aJ _ ?_ ?_);exact rfl)
   | ((with_reducible apply Lg.aP);exact rfl)
   | (with_reducible refine Lg.aM _ ?_
      intro K hK y τ n' hy;subst hy;replace HN:=qd (HN.out.re hk);replace HO:=qd HO.out.re;obtain⟨c0,c1,c2,c3,c4,c5,c6,HS⟩:=SAt.c7 (show SAt I _ y from HN.out.rep.at_)
      go_wp2_with ((first |(go_at_call 55;refine(aH _ _ _ HS.out).mono ?_) |(go_at_call 37;refine(aC _ _ _ HS.out).mono ?_) |(go_at_call 39;refine(aD _ _ _ c1).mono ?_) |(go_at_call 57;refine(aE _ _ _ HS.out _).mono ?_));rintro e w' ⟨rfl,hw'⟩;subst hw')
      refine hK _ _ (λ_=>rfl) ?_;clear hK K c0 c1 c2 c3 c4 c5 c6 HS))
  with_reducible refine Lg.bO _ ?_
  exact Lg.leave rfl Try.func14 rfl (v:=.tuple #[.int .i64 x,.int .i64 0]) (λ_ _ _ _=>by simp[results,Try.f14]) (HR.out _ _ _ ⟨_,_,_,H,rfl,rfl,HN.out⟩)
 ·rw [if_neg he]
  have de:(e !=0)=true:=by simpa using he
  clear he hne
  repeat (first
   | (with_reducible first | refine Lg.aW _ ?_ | refine Lg.aO _ ?_ | refine Lg.aL _ ?_ | refine Lg.aG _ ?_ | refine Lg.aN _ ?_)
   | ((with_reducible refine Lg.aI _ ?_ ?_);exact rfl)
   | ((with_reducible refine Lg.aJ _ ?_ ?_);exact rfl)
   | ((with_reducible apply Lg.aP);exact rfl)
   | (with_reducible refine Lg.aM _ ?_
      intro K hK y τ n' hy;subst hy;replace HN:=qd (HN.out.re hk);replace HO:=qd HO.out.re;obtain⟨c0,c1,c2,c3,c4,c5,c6,HS⟩:=SAt.c7 (show SAt I _ y from HN.out.rep.at_)
      go_wp2_with ((first |(go_at_call 55;refine(aH _ _ _ HS.out).mono ?_) |(go_at_call 37;refine(aC _ _ _ HS.out).mono ?_) |(go_at_call 39;refine(aD _ _ _ c1).mono ?_) |(go_at_call 57;refine(aE _ _ _ HS.out _).mono ?_));rintro e w' ⟨rfl,hw'⟩;subst hw')
      refine hK _ _ (λ_=>rfl) ?_;clear hK K c0 c1 c2 c3 c4 c5 c6 HS))
  with_reducible refine Lg.bO _ ?_
  exact Lg.leave rfl Try.func14 rfl (v:=.tuple #[.int .i64 0,.int .i64 e]) (λ_ _ _ _=>by simp[results,Try.f14]) (HR.out _ _ _ ⟨_,_,_,H,rfl,rfl,HN.out⟩)
def eI (n:Int):Int:=min (max n (-1)) 2147483647
def bH (n e:Int):Int:=if e=0 then n else e
def eW (n e:Int):Ans:=⟨e==0,bH n e,[]⟩
theorem bY (n:Int) (w:World):Calls Try.prog 45 #[.int .i64 n] w λx w'=>x=.returned (.int .i64 (eI n))/\w=w':=by
 obtain⟨X,hX⟩:∃ X,(if n < -1 then(-1:Int) else n)=X:=⟨_,rfl⟩;obtain⟨Y,hY⟩:∃ Y,(if 2147483647<X then(2147483647:Int) else X)=Y:=⟨_,rfl⟩;have e:eI n=Y:=by rw[<-hY,<-hX];unfold eI;split <;> split <;> omega
 rw[e];clear e
 go_enter Try.func45,Try.ntmps45
 go_wp2
 all_goals go_ret
 all_goals exact⟨by simp_all,rfl⟩
theorem Own1.drewN {D:OpsD}{w0 y:World}{H:Nat->Prop}{b:Nat}{t:TypeId}{cs:Array Value}(h:Own1 D w0 H y b t cs) (n:Nat):Own1 D w0 H (y.drewN n) b t cs:=⟨h.blk.drewN n,h.nh,h.ge,h.nr⟩
theorem cell_keep' {w w':World}{b i:Nat}{v:Value}(h:w.cell? ⟨b,i,none⟩=some v) (k:Kept (λ_=>False) w w'):w'.cell? ⟨b,i,none⟩=some v:=(World.cell?_of_block (w:=w) (a:=⟨b,i,none⟩) (k.block b (bG h) id)).trans h
theorem fS (n e:Int) (w:World):Calls Try.prog 44 #[.int .i64 n,.int .i64 e] w λx w'=>x=.returned (.agg #[.bool (e==0),.int .i64 (bH n e),.slice none 0 0])/\Kept (λ_=>False) w w':=by
 by_cases h:e=0
 ·subst h
  rw[show bH n 0=n from rfl]
  go_enter Try.func44,Try.ntmps44
  go_wp2
  try simp only[Exit.inBlock,Exit.then]
  refine bodyPost_ret (v:=.agg #[.bool (0==0),.int .i64 n,.slice none 0 0]) ?_ rfl ⟨rfl,?_⟩
  ·simp [results,Try.f44,go_sem]
  exact Kept.alloc _ _
 ·have h0:(e==0)=false:=by simpa using h
  have h1:(e !=0)=true:=by simpa using h
  rw[show bH n e=e from if_neg h,h0];clear h h0
  go_enter Try.func44,Try.ntmps44
  go_wp2
  try simp only[Exit.inBlock,Exit.then]
  refine bodyPost_ret (v:=.agg #[.bool false,.int .i64 e,.slice none 0 0]) ?_ rfl ⟨rfl,?_⟩
  ·simp [results,Try.f44,go_sem]
  exact Kept.alloc _ _
def iC (a:Int) (m:Nat):List Int:=(List.range m).map λ(j:Nat)=>wrap64 (a+j)
def gY (I:Ids) (b:Int):Nat:=(min (max b 0) ((I.n:Int)+1)).toNat
def kC (I:Ids) (o:OpI) (s:SSt) (k:Ans->SSt->Tree SSt SSt):Tree SSt SSt:=
 if o.kind=1 then iJ I (eI o.a) s λq e s=>k (eW q e) s
 else if o.kind=2 then iQ I o.a o.b s λe s=>k (eW 0 e) s
 else if o.kind=3 then eO o.a s λe s=>k (eW 0 e) s
 else if o.kind=4 then gE I (iC o.a (gY I o.b)) s λq e s=>k (eW q e) s
 else k ⟨false,0,[]⟩ s
theorem solo_wopT {B:OpsB}{I:Ids}{good:OpI->Prop}{L:Lg Try.prog (Tree SSt SSt)}{Cap:(Nat->Prop)->World->Prop}{V:Value}(hk:iL Cap) (hS:dC (B.solo I good) L Cap 63 V) (hS2:dC (B.solo I good) L Cap 38 V) (H0:Nat->Prop) (w0:World) (s:SSt) (H:Nat->Prop) (w:World) (hn:Now (B.solo I good) Cap H0 w0 s H w) (o:OpI) (hg:-9223372036854775808<=o.a/\o.a<9223372036854775808/\-9223372036854775808<=o.b/\o.b<9223372036854775808) (k:Ans->SSt->Tree SSt SSt):Ccalls L 43 #[.pointer (some ⟨I.so,0,none⟩),V,o.val] (kC I o s k) w λu t' w'=>∃ a s' H' lv,u=.agg #[.bool a.ok,.int .i64 a.n,lv]/\t'=k a s'/\Now (B.solo I good) Cap H0 w0 s' H' w'/\OutRow (B.solo I good) w0 H' w' lv a.ls:=by
 obtain⟨kd,oa,ob,oc⟩:=o;obtain⟨ga0,ga1,gb0,gb1⟩:=hg;dsimp only at ga0 ga1 gb0 gb1;have hn16:=(show SAt I _ _ from hn.rep.at_).s.ring.most;rw[show OpI.val ⟨kd,oa,ob,oc⟩=.agg #[.int .i64 kd,.int .i64 oa,.int .i64 ob,.int .i64 oc] from rfl];intro c mid hR;have HR:=qd hR;have HN:=qd hn;clear hR hn;rw[show Frame.enter Try.prog 43 #[.pointer (some ⟨I.so,0,none⟩),V,.agg #[.int .i64 kd,.int .i64 oa,.int .i64 ob,.int .i64 oc]] .normal=Frame.at { (default:Frame) with fn:=43,kind:=.normal } ⟨#[.pointer (some ⟨I.so,0,none⟩),V,.agg #[.int .i64 kd,.int .i64 oa,.int .i64 ob,.int .i64 oc]]++Array.replicate (Try.f43.ntmps-3) undef,[]⟩ [.code (Try.f43.body.getD .skip)] from by simp[Frame.enter,Frame.at,Try.func43];rfl];simp only[Try.f43,Option.getD_some,Nat.reduceSub,Array.replicate_succ,Array.replicate_zero,List.push_toArray,List.append_toArray,List.nil_append,List.cons_append]
 with_reducible refine Lg.aW _ ?_
 refine Lg.aM _ λK hK y τ n' hy=>?_;subst hy;replace HN:=qd (HN.out.re hk);go_wp2;refine hK _ _ (λ_=>rfl) ?_;clear hK K;have hb5:=(HN.out.own 46 #[.int .i64 kd,.int .i64 oa,.int .i64 ob,.int .i64 oc]).alloc (.cells #[.bool false,.int .i64 0,.slice none 0 0] 48);have hb6:=(HN.out.alloc (.cells #[.int .i64 kd,.int .i64 oa,.int .i64 ob,.int .i64 oc] 46)).own 48 #[.bool false,.int .i64 0,.slice none 0 0];have hn:=(HN.out.alloc (.cells #[.int .i64 kd,.int .i64 oa,.int .i64 ob,.int .i64 oc] 46)).alloc (.cells #[.bool false,.int .i64 0,.slice none 0 0] 48);rw[show (y.alloc (.cells #[.int .i64 kd,.int .i64 oa,.int .i64 ob,.int .i64 oc] 46)).heap.size=y.heap.size+1 from by simp] at hb6;clear HN;generalize (y.alloc (.cells #[.int .i64 kd,.int .i64 oa,.int .i64 ob,.int .i64 oc] 46)).alloc (.cells #[.bool false,.int .i64 0,.slice none 0 0] 48)=z at hn hb5 hb6 ⊢;have hne:y.heap.size≠y.heap.size+1:=by omega
 generalize y.heap.size+1=b6 at hb6 hne ⊢;generalize y.heap.size=b5 at hb5 hne ⊢;have HN:=qd hn;have HB5:=qd hb5;have HB6:=qd hb6;clear hn hb5 hb6
 by_cases q1:kd=1
 ·subst q1
  rw[show kC I ⟨1,oa,ob,oc⟩ s k=iJ I (eI oa) s λq e s=>k (eW q e) s from if_pos rfl]
  repeat (first
   | (with_reducible first | refine Lg.aW _ ?_ | refine Lg.aO _ ?_ | refine Lg.aL _ ?_ | refine Lg.aG _ ?_ | refine Lg.aN _ ?_)
   | ((with_reducible refine Lg.aI _ ?_ ?_);exact rfl)
   | ((with_reducible refine Lg.aJ _ ?_ ?_);exact rfl)
   | ((with_reducible apply Lg.aP);exact rfl)
   | (with_reducible refine Lg.aM _ ?_
      intro K hK y τ n' hy;subst hy;have hn:=HN.out.re hk;have hb5:=HB5.out.re;have hb6:=HB6.out.re;clear HN HB5 HB6;have o0:=hb5.blk.cell 0;have o1:=hb5.blk.cell 1;have o2:=hb5.blk.cell 2;simp only[zD] at o0 o1 o2;have HN:=qd hn;have HB5:=qd hb5;have HB6:=qd hb6;clear hn hb5 hb6;obtain⟨c0,c1,c2,c3,c4,c5,c6,HS⟩:=SAt.c7 (show SAt I _ y from HN.out.rep.at_)
      go_wp2_with (first |(go_at_call 45;refine(bY _ _).mono ?_;rintro e w' ⟨rfl,hw'⟩;subst hw') |(go_at_call 37;refine(aC _ _ _ HS.out).mono ?_;rintro e w' ⟨rfl,hw'⟩;subst hw'))
      refine hK _ _ (λ_=>rfl) ?_;clear hK K c0 c1 c2 c3 c4 c5 c6 HS
      try clear o0 o1 o2))
  with_reducible refine Lg.bJ _ ?_
  refine Lg.pre 0 5 5 (by simp) λK hK y τ n' hz=>?_;subst hz;have hn:=HN.out.re hk;have hb5:=HB5.out.re;have hb6:=HB6.out.re;clear HN HB5 HB6;have o0:=hb5.blk.cell 0;have o1:=hb5.blk.cell 1;have o2:=hb5.blk.cell 2;simp only[zD] at o0 o1 o2;have HN:=qd hn;have HB5:=qd hb5;have HB6:=qd hb6;clear hn hb5 hb6;obtain⟨c0,c1,c2,c3,c4,c5,c6,HS⟩:=SAt.c7 (show SAt I _ y from HN.out.rep.at_);simp only[zC]
  go_wp2_with (go_at_call 45;refine(bY _ _).mono ?_;rintro e w' ⟨rfl,hw'⟩;subst hw')
  refine hK _ _ (λ_=>rfl) ?_;clear hK K c0 c1 c2 c3 c4 c5 c6 HS
  try clear o0 o1 o2
  refine Lg.call (i:=5) (rest:=[6,7,8,9]) (f:=34) (args:=#[.pointer (some ⟨I.so,0,none⟩),V,.int .i64 (eI oa)]) rfl rfl (λy=>by go_simp) (lU hk hS hS2 H y s H _ (HN.out.here hk) (eI oa) _) ?_;rintro vv t' w' ⟨q,e,s,H,rfl,rfl,hn'⟩;have hb5:=HB5.out.held hn'.held;have hb6:=HB6.out.held hn'.held;have hn:=HN.out.on hn';clear HN HB5 HB6 hn';have HN:=qd hn;have HB5:=qd hb5;have HB6:=qd hb6;clear hn hb5 hb6;rw[Frame.finish_at];walk_nrm;refine(show L.T _ (Frame.at _ ⟨_,[]⟩ (.inRegion _ (List.range' 6 (4+0))::_)) (c::mid) w' from ?_);refine Lg.pre 6 4 0 (by simp) λK hK y τ n' hz=>?_;subst hz;have hn:=HN.out.re hk;have hb5:=HB5.out.re;have hb6:=HB6.out.re;clear HN HB5 HB6;have HN:=qd hn;have HB5:=qd hb5;have HB6:=qd hb6;clear hn hb5 hb6;simp only[zC]
  go_wp2_with (go_at_call 44;refine(fS _ _ _).mono ?_;rintro e' w' ⟨rfl,hkept⟩;have hn:=HN.out.kept hkept;have hb6:=HB6.out.kept hkept;have z0:=hb6.blk.frozen 0;have z1:=hb6.blk.frozen 1;have z2:=hb6.blk.frozen 2;have o0:=hb6.blk.cell 0;have o1:=hb6.blk.cell 1;have o2:=hb6.blk.cell 2;simp at o0 o1 o2)
  refine hK _ _ (λ_=>rfl) ?_;clear hK K HN HB5 HB6 o0 o1 o2 z0 z1 z2;have hbb:=((hb6.set_ 0 (.bool (e==0))).set_ 1 (.int .i64 (bH q e))).set_ 2 (.slice none 0 0);have hnn:=((hn.set_ hb6 0 (.bool (e==0))).set_ (hb6.set_ 0 (.bool (e==0))) 1 (.int .i64 (bH q e))).set_ ((hb6.set_ 0 (.bool (e==0))).set_ 1 (.int .i64 (bH q e))) 2 (.slice none 0 0);simp only[zA] at hbb;generalize World.setCell _ _ _=w6 at hbb hnn ⊢;clear hn hb6;refine Lg.aN _ ?_
  with_reducible refine Lg.bO _ ?_
  refine Lg.leave rfl Try.func43 rfl (v:=.agg #[.bool (e==0),.int .i64 (bH q e),.slice none 0 0]) (λy τ n hy=>?_) (HR.out _ _ _ ⟨⟨e==0,bH q e,[]⟩,_,H,.slice none 0 0,rfl,rfl,hnn,OutRow.nil⟩);have c0:y.cell? ⟨b6,0,none⟩=some (.bool (e==0)):=by have:=hbb.blk.cell 0;rw[hy] at this;exact this
  have c1:y.cell? ⟨b6,1,none⟩=some (.int .i64 (bH q e)):=by have:=hbb.blk.cell 1;rw[hy] at this;exact this
  have c2:y.cell? ⟨b6,2,none⟩=some (.slice none 0 0):=by have:=hbb.blk.cell 2;rw[hy] at this;exact this
  simp[results,Try.f43,go_sem,c0,c1,c2]
 have q1b:(kd==1)=false:=by simpa using q1
 by_cases q2:kd=2
 ·subst q2
  rw[show kC I ⟨2,oa,ob,oc⟩ s k=iQ I oa ob s λe s=>k (eW 0 e) s from (if_neg (show ¬(2:Int)=1 by decide)).trans (if_pos rfl)]
  repeat (first
   | (with_reducible first | refine Lg.aW _ ?_ | refine Lg.aO _ ?_ | refine Lg.aL _ ?_ | refine Lg.aG _ ?_ | refine Lg.aN _ ?_)
   | ((with_reducible refine Lg.aI _ ?_ ?_);exact rfl)
   | ((with_reducible refine Lg.aJ _ ?_ ?_);exact rfl)
   | ((with_reducible apply Lg.aP);exact rfl)
   | (with_reducible refine Lg.aM _ ?_
      intro K hK y τ n' hy;subst hy;have hn:=HN.out.re hk;have hb5:=HB5.out.re;have hb6:=HB6.out.re;clear HN HB5 HB6;have o0:=hb5.blk.cell 0;have o1:=hb5.blk.cell 1;have o2:=hb5.blk.cell 2;simp only[zD] at o0 o1 o2;have HN:=qd hn;have HB5:=qd hb5;have HB6:=qd hb6;clear hn hb5 hb6;obtain⟨c0,c1,c2,c3,c4,c5,c6,HS⟩:=SAt.c7 (show SAt I _ y from HN.out.rep.at_)
      go_wp2_with (first |(go_at_call 45;refine(bY _ _).mono ?_;rintro e w' ⟨rfl,hw'⟩;subst hw') |(go_at_call 37;refine(aC _ _ _ HS.out).mono ?_;rintro e w' ⟨rfl,hw'⟩;subst hw'))
      refine hK _ _ (λ_=>rfl) ?_;clear hK K c0 c1 c2 c3 c4 c5 c6 HS
      try clear o0 o1 o2))
  with_reducible refine Lg.bJ _ ?_
  refine Lg.pre 0 6 3 (by simp) λK hK y τ n' hz=>?_;subst hz;have hn:=HN.out.re hk;have hb5:=HB5.out.re;have hb6:=HB6.out.re;clear HN HB5 HB6;have o0:=hb5.blk.cell 0;have o1:=hb5.blk.cell 1;have o2:=hb5.blk.cell 2;simp only[zD] at o0 o1 o2;have HN:=qd hn;have HB5:=qd hb5;have HB6:=qd hb6;clear hn hb5 hb6;obtain⟨c0,c1,c2,c3,c4,c5,c6,HS⟩:=SAt.c7 (show SAt I _ y from HN.out.rep.at_);simp only[zC]
  go_wp2_with (go_at_call 45;refine(bY _ _).mono ?_;rintro e w' ⟨rfl,hw'⟩;subst hw')
  refine hK _ _ (λ_=>rfl) ?_;clear hK K c0 c1 c2 c3 c4 c5 c6 HS
  try clear o0 o1 o2
  refine Lg.call (i:=6) (rest:=[7,8]) (f:=35) (args:=#[.pointer (some ⟨I.so,0,none⟩),V,.int .i64 oa,.int .i64 ob]) rfl rfl (λy=>by go_simp) (pM hk hS hS2 H y s H _ (HN.out.here hk) oa ob _) ?_;rintro vv t' w' ⟨e,s,H,rfl,rfl,hn'⟩;have hb5:=HB5.out.held hn'.held;have hb6:=HB6.out.held hn'.held;have hn:=HN.out.on hn';clear HN HB5 HB6 hn';have HN:=qd hn;have HB5:=qd hb5;have HB6:=qd hb6;clear hn hb5 hb6;rw[Frame.finish_at];walk_nrm;refine(show L.T _ (Frame.at _ ⟨_,[]⟩ (.inRegion _ (List.range' 7 (2+0))::_)) (c::mid) w' from ?_);refine Lg.pre 7 2 0 (by simp) λK hK y τ n' hz=>?_;subst hz;have hn:=HN.out.re hk;have hb5:=HB5.out.re;have hb6:=HB6.out.re;clear HN HB5 HB6;have HN:=qd hn;have HB5:=qd hb5;have HB6:=qd hb6;clear hn hb5 hb6;simp only[zC]
  go_wp2_with (go_at_call 44;refine(fS _ _ _).mono ?_;rintro e' w' ⟨rfl,hkept⟩;have hn:=HN.out.kept hkept;have hb6:=HB6.out.kept hkept;have z0:=hb6.blk.frozen 0;have z1:=hb6.blk.frozen 1;have z2:=hb6.blk.frozen 2;have o0:=hb6.blk.cell 0;have o1:=hb6.blk.cell 1;have o2:=hb6.blk.cell 2;simp at o0 o1 o2)
  refine hK _ _ (λ_=>rfl) ?_;clear hK K HN HB5 HB6 o0 o1 o2 z0 z1 z2;have hbb:=((hb6.set_ 0 (.bool (e==0))).set_ 1 (.int .i64 (bH 0 e))).set_ 2 (.slice none 0 0);have hnn:=((hn.set_ hb6 0 (.bool (e==0))).set_ (hb6.set_ 0 (.bool (e==0))) 1 (.int .i64 (bH 0 e))).set_ ((hb6.set_ 0 (.bool (e==0))).set_ 1 (.int .i64 (bH 0 e))) 2 (.slice none 0 0);simp only[zA] at hbb;generalize World.setCell _ _ _=w6 at hbb hnn ⊢;clear hn hb6;refine Lg.aN _ ?_
  with_reducible refine Lg.bO _ ?_
  refine Lg.leave rfl Try.func43 rfl (v:=.agg #[.bool (e==0),.int .i64 (bH 0 e),.slice none 0 0]) (λy τ n hy=>?_) (HR.out _ _ _ ⟨⟨e==0,bH 0 e,[]⟩,_,H,.slice none 0 0,rfl,rfl,hnn,OutRow.nil⟩);have c0:y.cell? ⟨b6,0,none⟩=some (.bool (e==0)):=by have:=hbb.blk.cell 0;rw[hy] at this;exact this
  have c1:y.cell? ⟨b6,1,none⟩=some (.int .i64 (bH 0 e)):=by have:=hbb.blk.cell 1;rw[hy] at this;exact this
  have c2:y.cell? ⟨b6,2,none⟩=some (.slice none 0 0):=by have:=hbb.blk.cell 2;rw[hy] at this;exact this
  simp[results,Try.f43,go_sem,c0,c1,c2]
 have q2b:(kd==2)=false:=by simpa using q2
 by_cases q3:kd=3
 ·subst q3
  rw[show kC I ⟨3,oa,ob,oc⟩ s k=eO oa s λe s=>k (eW 0 e) s from (if_neg (show ¬(3:Int)=1 by decide)).trans ((if_neg (show ¬(3:Int)=2 by decide)).trans (if_pos rfl))]
  repeat (first
   | (with_reducible first | refine Lg.aW _ ?_ | refine Lg.aO _ ?_ | refine Lg.aL _ ?_ | refine Lg.aG _ ?_ | refine Lg.aN _ ?_)
   | ((with_reducible refine Lg.aI _ ?_ ?_);exact rfl)
   | ((with_reducible refine Lg.aJ _ ?_ ?_);exact rfl)
   | ((with_reducible apply Lg.aP);exact rfl)
   | (with_reducible refine Lg.aM _ ?_
      intro K hK y τ n' hy;subst hy;have hn:=HN.out.re hk;have hb5:=HB5.out.re;have hb6:=HB6.out.re;clear HN HB5 HB6;have o0:=hb5.blk.cell 0;have o1:=hb5.blk.cell 1;have o2:=hb5.blk.cell 2;simp only[zD] at o0 o1 o2;have HN:=qd hn;have HB5:=qd hb5;have HB6:=qd hb6;clear hn hb5 hb6;obtain⟨c0,c1,c2,c3,c4,c5,c6,HS⟩:=SAt.c7 (show SAt I _ y from HN.out.rep.at_)
      go_wp2_with (first |(go_at_call 45;refine(bY _ _).mono ?_;rintro e w' ⟨rfl,hw'⟩;subst hw') |(go_at_call 37;refine(aC _ _ _ HS.out).mono ?_;rintro e w' ⟨rfl,hw'⟩;subst hw'))
      refine hK _ _ (λ_=>rfl) ?_;clear hK K c0 c1 c2 c3 c4 c5 c6 HS
      try clear o0 o1 o2))
  with_reducible refine Lg.bJ _ ?_
  refine Lg.pre 0 4 3 (by simp) λK hK y τ n' hz=>?_;subst hz;have hn:=HN.out.re hk;have hb5:=HB5.out.re;have hb6:=HB6.out.re;clear HN HB5 HB6;have o0:=hb5.blk.cell 0;have o1:=hb5.blk.cell 1;have o2:=hb5.blk.cell 2;simp only[zD] at o0 o1 o2;have HN:=qd hn;have HB5:=qd hb5;have HB6:=qd hb6;clear hn hb5 hb6;obtain⟨c0,c1,c2,c3,c4,c5,c6,HS⟩:=SAt.c7 (show SAt I _ y from HN.out.rep.at_);simp only[zC]
  go_wp2_with (go_at_call 45;refine(bY _ _).mono ?_;rintro e w' ⟨rfl,hw'⟩;subst hw')
  refine hK _ _ (λ_=>rfl) ?_;clear hK K c0 c1 c2 c3 c4 c5 c6 HS
  try clear o0 o1 o2
  refine Lg.call (i:=4) (rest:=[5,6]) (f:=36) (args:=#[.pointer (some ⟨I.so,0,none⟩),V,.int .i64 oa]) rfl rfl (λy=>by go_simp) (pN hk hS hS2 H y s H _ (HN.out.here hk) oa ga0 _) ?_;rintro vv t' w' ⟨e,s,H,rfl,rfl,hn'⟩;have hb5:=HB5.out.held hn'.held;have hb6:=HB6.out.held hn'.held;have hn:=HN.out.on hn';clear HN HB5 HB6 hn';have HN:=qd hn;have HB5:=qd hb5;have HB6:=qd hb6;clear hn hb5 hb6;rw[Frame.finish_at];walk_nrm;refine(show L.T _ (Frame.at _ ⟨_,[]⟩ (.inRegion _ (List.range' 5 (2+0))::_)) (c::mid) w' from ?_);refine Lg.pre 5 2 0 (by simp) λK hK y τ n' hz=>?_;subst hz;have hn:=HN.out.re hk;have hb5:=HB5.out.re;have hb6:=HB6.out.re;clear HN HB5 HB6;have HN:=qd hn;have HB5:=qd hb5;have HB6:=qd hb6;clear hn hb5 hb6;simp only[zC]
  go_wp2_with (go_at_call 44;refine(fS _ _ _).mono ?_;rintro e' w' ⟨rfl,hkept⟩;have hn:=HN.out.kept hkept;have hb6:=HB6.out.kept hkept;have z0:=hb6.blk.frozen 0;have z1:=hb6.blk.frozen 1;have z2:=hb6.blk.frozen 2;have o0:=hb6.blk.cell 0;have o1:=hb6.blk.cell 1;have o2:=hb6.blk.cell 2;simp at o0 o1 o2)
  refine hK _ _ (λ_=>rfl) ?_;clear hK K HN HB5 HB6 o0 o1 o2 z0 z1 z2;have hbb:=((hb6.set_ 0 (.bool (e==0))).set_ 1 (.int .i64 (bH 0 e))).set_ 2 (.slice none 0 0);have hnn:=((hn.set_ hb6 0 (.bool (e==0))).set_ (hb6.set_ 0 (.bool (e==0))) 1 (.int .i64 (bH 0 e))).set_ ((hb6.set_ 0 (.bool (e==0))).set_ 1 (.int .i64 (bH 0 e))) 2 (.slice none 0 0);simp only[zA] at hbb;generalize World.setCell _ _ _=w6 at hbb hnn ⊢;clear hn hb6;refine Lg.aN _ ?_
  with_reducible refine Lg.bO _ ?_
  refine Lg.leave rfl Try.func43 rfl (v:=.agg #[.bool (e==0),.int .i64 (bH 0 e),.slice none 0 0]) (λy τ n hy=>?_) (HR.out _ _ _ ⟨⟨e==0,bH 0 e,[]⟩,_,H,.slice none 0 0,rfl,rfl,hnn,OutRow.nil⟩);have c0:y.cell? ⟨b6,0,none⟩=some (.bool (e==0)):=by have:=hbb.blk.cell 0;rw[hy] at this;exact this
  have c1:y.cell? ⟨b6,1,none⟩=some (.int .i64 (bH 0 e)):=by have:=hbb.blk.cell 1;rw[hy] at this;exact this
  have c2:y.cell? ⟨b6,2,none⟩=some (.slice none 0 0):=by have:=hbb.blk.cell 2;rw[hy] at this;exact this
  simp[results,Try.f43,go_sem,c0,c1,c2]
 have q3b:(kd==3)=false:=by simpa using q3
 by_cases q4:kd=4
 ·subst q4
  rw[show kC I ⟨4,oa,ob,oc⟩ s k=gE I (iC oa (gY I ob)) s λq e s=>k (eW q e) s from (if_neg (show ¬(4:Int)=1 by decide)).trans ((if_neg (show ¬(4:Int)=2 by decide)).trans ((if_neg (show ¬(4:Int)=3 by decide)).trans (if_pos rfl)))]
  repeat (first
   | (with_reducible first | refine Lg.aW _ ?_ | refine Lg.aO _ ?_ | refine Lg.aL _ ?_ | refine Lg.aG _ ?_ | refine Lg.aN _ ?_)
   | ((with_reducible refine Lg.aI _ ?_ ?_);exact rfl)
   | ((with_reducible refine Lg.aJ _ ?_ ?_);exact rfl)
   | ((with_reducible apply Lg.aP);exact rfl)
   | (with_reducible refine Lg.aM _ ?_
      intro K hK y τ n' hy;subst hy;have hn:=HN.out.re hk;have hb5:=HB5.out.re;have hb6:=HB6.out.re;clear HN HB5 HB6;have o0:=hb5.blk.cell 0;have o1:=hb5.blk.cell 1;have o2:=hb5.blk.cell 2;simp only[zD] at o0 o1 o2;have HN:=qd hn;have HB5:=qd hb5;have HB6:=qd hb6;clear hn hb5 hb6;obtain⟨c0,c1,c2,c3,c4,c5,c6,HS⟩:=SAt.c7 (show SAt I _ y from HN.out.rep.at_)
      go_wp2_with (first |(go_at_call 45;refine(bY _ _).mono ?_;rintro e w' ⟨rfl,hw'⟩;subst hw') |(go_at_call 37;refine(aC _ _ _ HS.out).mono ?_;rintro e w' ⟨rfl,hw'⟩;subst hw'))
      refine hK _ _ (λ_=>rfl) ?_;clear hK K c0 c1 c2 c3 c4 c5 c6 HS
      try clear o0 o1 o2))
  refine Lg.aM _ λK hK y τ n' hy=>?_;subst hy;have hn:=HN.out.re hk;have hb5:=HB5.out.re;have hb6:=HB6.out.re;clear HN HB5 HB6;have o0:=hb5.blk.cell 0;have o1:=hb5.blk.cell 1;have o2:=hb5.blk.cell 2;simp only[zD] at o0 o1 o2;have HN:=qd hn;have HB5:=qd hb5;have HB6:=qd hb6;clear hn hb5 hb6;obtain⟨c0,c1,c2,c3,c4,c5,c6,HS⟩:=SAt.c7 (show SAt I _ y from HN.out.rep.at_);obtain⟨X,hX⟩:∃ X,(if ob<0 then(0:Int) else ob)=X:=⟨_,rfl⟩;obtain⟨Y,hY⟩:∃ Y,(if (I.n:Int)+1<X then(I.n:Int)+1 else X)=Y:=⟨_,rfl⟩
  have hY2:Y=gY I ob/\gY I ob<=65537:=by
   unfold gY;rw[<-hY,<-hX]
   split <;> split <;> omega
  clear c0 c1 c2 c3 c4 c5 c6
  go_quiet ((go_at_call 55;exact dQ (aH _ _ _ (HS.out.drewN _))))
  refine hK _ _ (λ_=>rfl) ?_;clear hK K HS hX hY o0 o1 o2;have hn:=HN.out.drewN hk nq;have hb5:=HB5.out.drewN nq;have hb6:=HB6.out.drewN nq;clear HN HB5 HB6;generalize World.drewN _ nq=y' at hn hb5 hb6 ⊢;have HN:=qd hn;have HB5:=qd hb5;have HB6:=qd hb6;clear hn hb5 hb6;obtain⟨rfl,hm⟩:=hY2;generalize gY I ob=m at hm ⊢;refine Lg.code (c:=Code.block _ _) λK hK y τ n' hy=>?_;subst hy;have hn:=HN.out.re hk;have hb5:=HB5.out.re;have hb6:=HB6.out.re;clear HN HB5 HB6;have o1:=hb5.blk.cell 1;simp only[zD] at o1;have hlt5:=hb5.blk.lt;have HN:=qd hn;have HB5:=qd hb5;have HB6:=qd hb6;clear hn hb5 hb6;obtain⟨i0,hi0,hz0,hz1,hz2⟩:=info_parts Try.intInfo;go_wp2
  go_loopw [7,49] (λo i wr=>∃ j:Nat,j<=m/\i=.int .i64 j/\wr.ownsRow y.heap.size 2 1 o j ((iC oa j).map (Value.int .i64))/\Below y.heap.size y wr) (λ_ i _=>m-(intOf i).toNat)
  case atStart=>exact⟨0,Nat.zero_le _,rfl,⟨by simp[iC],.inl ⟨rfl,rfl⟩⟩,Below.refl _ _⟩
  case round =>
   obtain⟨j,hj,rfl,hown,hb⟩:=hrel;obtain⟨A,cap,rfl⟩:=aQ hown;have HO:=qd hown;have hk1:Kept (λ_=>False) y wr:=Kept.of_below (S:=λ_=>False) hb;have o1':=cell_keep' o1 hk1;have HBW:=qd hb;clear hown hk1 hb
   by_cases hlt:j<m
   ·have hb1:y.heap.size<=wr.heap.size:=HBW.out.size
    go_wp2_with (at_builtin;refine wpList_append_own _ rfl _ _ 29 rfl y.heap.size 2 i0 (.int .i64 0) 1 8 Try.underlying29 hi0 hz0 hz1 hz2 rfl (by decide) _ _ _ rfl (HO.out.alloc _) ⟨wr.heap.size,0,none⟩ 1 1 [.int .i64 (wrap64 (oa+j))] rfl rfl ?c1 ?c2 ?c3 ?c4 ?c5 ?_)
    case c1=>exact cell_one_new _ _ _
    case c2=>simp[Value.oneCell']
    case c3=>unfold maxLen;omega
    case c4=>omega
    case c5=>simp;omega
    intro v' w3 hown1 hg1 _;have ho1:w3.ownsRow y.heap.size 2 1 v' (j+1) ((iC oa (j+1)).map (Value.int .i64)):=by rw[show iC oa (j+1)=iC oa j++[wrap64 (oa+j)] from by simp[iC,List.range_succ],List.map_append];exact hown1
    have hb3:Below y.heap.size y w3:=(HBW.out.alloc HBW.out.size _).grown hg1 (by simp;omega) (λk hk=>(HO.out.lt k hk).1);have HO2:=qd (And.intro ho1 hb3);clear hown1 hg1 ho1 hb3;go_wp2;go_roundw
    case rel=>exact⟨j+1,by omega,by go_num,HO2.out.1,HO2.out.2⟩
    case measure=>simp[intOf];omega
   ·obtain rfl:j=m:=by omega
    go_wp2;refine hK _ _ (λ_=>rfl) ?_;clear hK o1 o1' hi0 hz0 hz1 hz2;have hk1:Kept (λ_=>False) y wr:=Kept.of_below (S:=λ_=>False) HBW.out;have hn2:=(HN.out.here hk).kept hk1
    have ho2:OutRow (B.solo I good) y H wr (.slice A j cap) (iC oa j):=by
     have hl:(iC oa j).length=j:=by simp[iC]
     refine⟨by rw[hl];exact HO.out,λb hb=>?_⟩;have hge:=(HO.out.lt b hb).1;exact⟨λz=>by have:=HN.out.rep.lt z;omega,λz=>by have:=HN.out.rlt z;omega⟩
    have HN2:=qd hn2;have HO2:=qd ho2;clear hk1 hn2 ho2 HO HBW
    with_reducible refine Lg.aW _ ?_
    with_reducible refine Lg.bJ _ ?_
    refine Lg.pre 0 3 5 (by simp) λK hK y2 τ n' hz=>?_;subst hz;have hn2:=HN2.out.re hk;have ho2:=HO2.out.re;clear HN2 HO2;have HN2:=qd hn2;have HO2:=qd ho2;clear hn2 ho2;simp only[zC];go_wp2;refine hK _ _ (λ_=>rfl) ?_;clear hK K;refine Lg.call (i:=3) (rest:=[4,5,6,7]) (f:=13) (args:=#[.pointer (some ⟨I.so,0,none⟩),V,.slice A j cap]) rfl rfl (λy=>by go_simp) (solo_writeT hk hS hS2 H y s H _ HN2.out _ _ HO2.out _) ?_;rintro vv t' w' ⟨q,e,s,H,rfl,rfl,hn'⟩;clear HN2 HO2;have hb5:=HB5.out.held hn'.held;have hb6:=HB6.out.held hn'.held;have hn:=HN.out.on hn';clear HN HB5 HB6 hn';have HN:=qd hn;have HB5:=qd hb5;have HB6:=qd hb6;clear hn hb5 hb6;rw[Frame.finish_at];walk_nrm;refine(show L.T _ (Frame.at _ ⟨_,[]⟩ (.inRegion _ (List.range' 4 (4+0))::_)) (c::mid) w' from ?_);refine Lg.pre 4 4 0 (by simp) λK hK y τ n' hz=>?_;subst hz;have hn:=HN.out.re hk;have hb5:=HB5.out.re;have hb6:=HB6.out.re;clear HN HB5 HB6;have HN:=qd hn;have HB5:=qd hb5;have HB6:=qd hb6;clear hn hb5 hb6;simp only[zC]
    go_wp2_with (go_at_call 44;refine(fS _ _ _).mono ?_;rintro e' w' ⟨rfl,hkept⟩;have hn:=HN.out.kept hkept;have hb6:=HB6.out.kept hkept;have z0:=hb6.blk.frozen 0;have z1:=hb6.blk.frozen 1;have z2:=hb6.blk.frozen 2;have o0:=hb6.blk.cell 0;have o1:=hb6.blk.cell 1;have o2:=hb6.blk.cell 2;simp at o0 o1 o2)
    refine hK _ _ (λ_=>rfl) ?_;clear hK K HN HB5 HB6 o0 o1 o2 z0 z1 z2;have hbb:=((hb6.set_ 0 (.bool (e==0))).set_ 1 (.int .i64 (bH q e))).set_ 2 (.slice none 0 0);have hnn:=((hn.set_ hb6 0 (.bool (e==0))).set_ (hb6.set_ 0 (.bool (e==0))) 1 (.int .i64 (bH q e))).set_ ((hb6.set_ 0 (.bool (e==0))).set_ 1 (.int .i64 (bH q e))) 2 (.slice none 0 0);simp only[zA] at hbb;generalize World.setCell _ _ _=w6 at hbb hnn ⊢;clear hn hb6;refine Lg.aN _ ?_
    with_reducible refine Lg.bO _ ?_
    refine Lg.leave rfl Try.func43 rfl (v:=.agg #[.bool (e==0),.int .i64 (bH q e),.slice none 0 0]) (λy τ n hy=>?_) (HR.out _ _ _ ⟨⟨e==0,bH q e,[]⟩,_,H,.slice none 0 0,rfl,rfl,hnn,OutRow.nil⟩);have c0:y.cell? ⟨b6,0,none⟩=some (.bool (e==0)):=by have:=hbb.blk.cell 0;rw[hy] at this;exact this
    have c1:y.cell? ⟨b6,1,none⟩=some (.int .i64 (bH q e)):=by have:=hbb.blk.cell 1;rw[hy] at this;exact this
    have c2:y.cell? ⟨b6,2,none⟩=some (.slice none 0 0):=by have:=hbb.blk.cell 2;rw[hy] at this;exact this
    simp[results,Try.f43,go_sem,c0,c1,c2]
 have q4b:(kd==4)=false:=by simpa using q4
 rw[show kC I ⟨kd,oa,ob,oc⟩ s k=k ⟨false,0,[]⟩ s from (if_neg q1).trans ((if_neg q2).trans ((if_neg q3).trans (if_neg q4)))];clear q1 q2 q3 q4
 repeat (first
  | (with_reducible first | refine Lg.aW _ ?_ | refine Lg.aO _ ?_ | refine Lg.aL _ ?_ | refine Lg.aG _ ?_ | refine Lg.aN _ ?_)
  | ((with_reducible refine Lg.aI _ ?_ ?_);exact rfl)
  | ((with_reducible refine Lg.aJ _ ?_ ?_);exact rfl)
  | ((with_reducible apply Lg.aP);exact rfl)
  | (with_reducible refine Lg.aM _ ?_
     intro K hK y τ n' hy;subst hy;have hn:=HN.out.re hk;have hb5:=HB5.out.re;have hb6:=HB6.out.re;clear HN HB5 HB6;have o0:=hb5.blk.cell 0;have o1:=hb5.blk.cell 1;have o2:=hb5.blk.cell 2;simp only[zD] at o0 o1 o2;have HN:=qd hn;have HB5:=qd hb5;have HB6:=qd hb6;clear hn hb5 hb6;obtain⟨c0,c1,c2,c3,c4,c5,c6,HS⟩:=SAt.c7 (show SAt I _ y from HN.out.rep.at_)
     go_wp2_with (first |(go_at_call 45;refine(bY _ _).mono ?_;rintro e w' ⟨rfl,hw'⟩;subst hw') |(go_at_call 37;refine(aC _ _ _ HS.out).mono ?_;rintro e w' ⟨rfl,hw'⟩;subst hw'))
     refine hK _ _ (λ_=>rfl) ?_;clear hK K c0 c1 c2 c3 c4 c5 c6 HS
     try clear o0 o1 o2))
 with_reducible refine Lg.aM _ ?_
 intro K hK y τ n' hy;subst hy;have hn:=HN.out.re hk;have hb5:=HB5.out.re;have hb6:=HB6.out.re;clear HN HB5 HB6;have o0:=hb6.blk.cell 0;have o1:=hb6.blk.cell 1;have o2:=hb6.blk.cell 2;have z0:=hb6.blk.frozen 0;have z1:=hb6.blk.frozen 1;have z2:=hb6.blk.frozen 2;simp only[zD] at o0 o1 o2;have HN:=qd hn;have HB5:=qd hb5;have HB6:=qd hb6;clear hn hb5 hb6;go_wp2;refine hK _ _ (λ_=>rfl) ?_;clear hK K o0 o1 o2 z0 z1 z2;have hn:=HN.out;have hb6:=HB6.out;clear HN HB5 HB6;have hbb:=((hb6.set_ 0 (.bool (false))).set_ 1 (.int .i64 (0))).set_ 2 (.slice none 0 0);have hnn:=((hn.set_ hb6 0 (.bool (false))).set_ (hb6.set_ 0 (.bool (false))) 1 (.int .i64 (0))).set_ ((hb6.set_ 0 (.bool (false))).set_ 1 (.int .i64 (0))) 2 (.slice none 0 0);simp only[zA] at hbb;generalize World.setCell _ _ _=w6 at hbb hnn ⊢;clear hn hb6
 with_reducible refine Lg.bO _ ?_
 refine Lg.leave rfl Try.func43 rfl (v:=.agg #[.bool (false),.int .i64 (0),.slice none 0 0]) (λy τ n hy=>?_) (HR.out _ _ _ ⟨⟨false,0,[]⟩,_,H,.slice none 0 0,rfl,rfl,hnn,OutRow.nil⟩);have c0:y.cell? ⟨b6,0,none⟩=some (.bool (false)):=by have:=hbb.blk.cell 0;rw[hy] at this;exact this
 have c1:y.cell? ⟨b6,1,none⟩=some (.int .i64 (0)):=by have:=hbb.blk.cell 1;rw[hy] at this;exact this
 have c2:y.cell? ⟨b6,2,none⟩=some (.slice none 0 0):=by have:=hbb.blk.cell 2;rw[hy] at this;exact this
 simp[results,Try.f43,go_sem,c0,c1,c2]
def SG (o:OpI):Prop:=-9223372036854775808<=o.a/\o.a<9223372036854775808/\-9223372036854775808<=o.b/\o.b<9223372036854775808
def doS (I:Ids) (i:Nat):DoQ SoloSt:=λo st k =>
 if i=0 then kC I o st k
 else if I.k<i then k ⟨false,0,[]⟩ st
 else if o.kind=5 then kL I ((i:Int)-1) st λq e s=>k (eW q e) s
 else if o.kind=6 then eV I ((i:Int)-1) (eI o.a) st λls e s=>k ⟨e==0,bH 0 e,ls⟩ s
 else k ⟨false,0,[]⟩ st
theorem held_bd (n:Int):-1<=eI n/\eI n<=2147483647:=by unfold eI;omega
theorem OutRow.base {D:OpsD}{w0 w1 w:World}{H:Nat->Prop}{v:Value}{ls:List Int}(h:OutRow D w1 H w v ls) (hb:w0.heap.size<=w1.heap.size):OutRow D w0 H w v ls:=⟨eD h.own hb,h.nh⟩
theorem OutRow.far {D:OpsD}{w0 w:World}{H:Nat->Prop}{v:Value}{ls:List Int}{b8:Nat}{cs:Array Value}(h:OutRow D w0 H w v ls) (hb:Blk w b8 48 cs) (i:Nat) (u:Value):OutRow D w0 H (w.setCell ⟨b8,i,none⟩ u) v ls:=
 ⟨bT h.own λb hb'=>Below.heap_setCell _ _ _ _ λe=>by
   obtain⟨_,cur,k⟩:=h.blk hb';have e:b=b8:=e;subst e;have:=k.symm.trans hb
   simp at this,h.nh⟩
theorem solo_doT {B:OpsB}{I:Ids}{good:OpI->Prop}{L:Lg Try.prog (Tree SSt SSt)}{Cap:(Nat->Prop)->World->Prop}{V:Value}(hk:iL Cap) (hS:dC (B.solo I good) L Cap 63 V) (hS2:dC (B.solo I good) L Cap 38 V) (H0:Nat->Prop) (w0:World) (s:SSt) (H:Nat->Prop) (w:World) (hn:Now (B.solo I good) Cap H0 w0 s H w) (hcut:∀ fr mid x,L.T .cut fr mid x) (i:Nat) (o:OpI) (hg:SG o) (k:Ans->SSt->Tree SSt SSt):Ccalls L 20 #[.pointer (some ⟨I.so,0,none⟩),V,.int .i64 i,o.val] (doS I i o s k) w λu t' w'=>∃ a s' H' lv,u=.agg #[.bool a.ok,.int .i64 a.n,lv]/\t'=k a s'/\Now (B.solo I good) Cap H0 w0 s' H' w'/\OutRow (B.solo I good) w0 H' w' lv a.ls:=by
 obtain⟨kd,oa,ob,oc⟩:=o;have hk64:=(show SAt I _ _ from hn.rep.at_).s.most;rw[show OpI.val ⟨kd,oa,ob,oc⟩=.agg #[.int .i64 kd,.int .i64 oa,.int .i64 ob,.int .i64 oc] from rfl];intro c mid hR;have HR:=qd hR;have HN:=qd hn;clear hR hn;rw[show Frame.enter Try.prog 20 #[.pointer (some ⟨I.so,0,none⟩),V,.int .i64 i,.agg #[.int .i64 kd,.int .i64 oa,.int .i64 ob,.int .i64 oc]] .normal=Frame.at { (default:Frame) with fn:=20,kind:=.normal } ⟨#[.pointer (some ⟨I.so,0,none⟩),V,.int .i64 i,.agg #[.int .i64 kd,.int .i64 oa,.int .i64 ob,.int .i64 oc]]++Array.replicate (Try.f20.ntmps-4) undef,[]⟩ [.code (Try.f20.body.getD .skip)] from by simp[Frame.enter,Frame.at,Try.func20];rfl];simp only[Try.f20,Option.getD_some,Nat.reduceSub,Array.replicate_succ,Array.replicate_zero,List.push_toArray,List.append_toArray,List.nil_append,List.cons_append]
 with_reducible refine Lg.aW _ ?_
 refine Lg.aM _ λK hK y τ n' hy=>?_;subst hy;replace HN:=qd (HN.out.re hk);go_wp2;refine hK _ _ (λ_=>rfl) ?_;clear hK K;have hb5:=(HN.out.own 46 #[.int .i64 kd,.int .i64 oa,.int .i64 ob,.int .i64 oc]).alloc (.cells #[.bool false,.int .i64 0,.slice none 0 0] 48);have hb6:=(HN.out.alloc (.cells #[.int .i64 kd,.int .i64 oa,.int .i64 ob,.int .i64 oc] 46)).own 48 #[.bool false,.int .i64 0,.slice none 0 0];have hn:=(HN.out.alloc (.cells #[.int .i64 kd,.int .i64 oa,.int .i64 ob,.int .i64 oc] 46)).alloc (.cells #[.bool false,.int .i64 0,.slice none 0 0] 48);rw[show (y.alloc (.cells #[.int .i64 kd,.int .i64 oa,.int .i64 ob,.int .i64 oc] 46)).heap.size=y.heap.size+1 from by simp] at hb6;clear HN;generalize (y.alloc (.cells #[.int .i64 kd,.int .i64 oa,.int .i64 ob,.int .i64 oc] 46)).alloc (.cells #[.bool false,.int .i64 0,.slice none 0 0] 48)=z at hn hb5 hb6 ⊢;have hne:y.heap.size≠y.heap.size+1:=by omega
 generalize y.heap.size+1=b6 at hb6 hne ⊢;generalize y.heap.size=b5 at hb5 hne ⊢;have HN:=qd hn;have HB5:=qd hb5;have HB6:=qd hb6;clear hn hb5 hb6
 by_cases q0:i=0
 ·subst q0
  rw[show doS I 0 ⟨kd,oa,ob,oc⟩ s k=kC I ⟨kd,oa,ob,oc⟩ s k from if_pos rfl]
  repeat (first
   | (with_reducible first | refine Lg.aW _ ?_ | refine Lg.aO _ ?_ | refine Lg.aL _ ?_ | refine Lg.aG _ ?_ | refine Lg.aN _ ?_)
   | ((with_reducible refine Lg.aI _ ?_ ?_);exact rfl)
   | ((with_reducible refine Lg.aJ _ ?_ ?_);exact rfl)
   | ((with_reducible apply Lg.aP);exact rfl)
   | (with_reducible refine Lg.aM _ ?_
      intro K hK y τ n' hy;subst hy;have hn:=HN.out.re hk;have hb5:=HB5.out.re;have hb6:=HB6.out.re;clear HN HB5 HB6;have o0:=hb5.blk.cell 0;have o1:=hb5.blk.cell 1;have o2:=hb5.blk.cell 2;simp only[zD] at o0 o1 o2;have HN:=qd hn;have HB5:=qd hb5;have HB6:=qd hb6;clear hn hb5 hb6;obtain⟨c0,c1,c2,c3,c4,c5,c6,HS⟩:=SAt.c7 (show SAt I _ y from HN.out.rep.at_)
      go_wp2_with (first |(go_at_call 45;refine(bY _ _).mono ?_;rintro e w' ⟨rfl,hw'⟩;subst hw') |(go_at_call 37;refine(aC _ _ _ HS.out).mono ?_;rintro e w' ⟨rfl,hw'⟩;subst hw'))
      refine hK _ _ (λ_=>rfl) ?_;clear hK K c0 c1 c2 c3 c4 c5 c6 HS
      try clear o0 o1 o2))
  with_reducible refine Lg.bJ _ ?_
  refine Lg.pre 0 3 2 (by simp) λK hK y τ n' hz=>?_;subst hz;have hn:=HN.out.re hk;have hb5:=HB5.out.re;have hb6:=HB6.out.re;clear HN HB5 HB6;have o0:=hb5.blk.cell 0;have o1:=hb5.blk.cell 1;have o2:=hb5.blk.cell 2;have o3:=hb5.blk.cell 3;simp only[zD] at o0 o1 o2 o3;have HN:=qd hn;have HB5:=qd hb5;have HB6:=qd hb6;clear hn hb5 hb6;simp only[zC];go_wp2;refine hK _ _ (λ_=>rfl) ?_;clear hK K o0 o1 o2 o3;refine Lg.call (i:=3) (rest:=[4]) (f:=43) (args:=#[.pointer (some ⟨I.so,0,none⟩),V,OpI.val ⟨kd,oa,ob,oc⟩]) rfl rfl (λy=>by go_simp;rfl) (solo_wopT hk hS hS2 H y s H _ (HN.out.here hk) ⟨kd,oa,ob,oc⟩ hg _) ?_;rintro vv t' w' ⟨a,s,H,lv,rfl,rfl,hn',hout'⟩;have hout:=hout'.base (w0:=w0) HN.out.held.size;clear hout';have HO:=qd hout;clear hout;have hb5:=HB5.out.held hn'.held;have hb6:=HB6.out.held hn'.held;have hn:=HN.out.on hn';clear HN HB5 HB6 hn';have HN:=qd hn;have HB5:=qd hb5;have HB6:=qd hb6;clear hn hb5 hb6;rw[Frame.finish_at];walk_nrm;refine(show L.T _ (Frame.at _ ⟨_,[]⟩ (.inRegion _ (List.range' 4 (1+0))::_)) (c::mid) w' from ?_);refine Lg.pre 4 1 0 (by simp) λK hK y τ n' hz=>?_;subst hz;have hn:=HN.out.re hk;have hb5:=HB5.out.re;have hb6:=HB6.out.re;clear HN HB5 HB6;have o0:=hb6.blk.cell 0;have o1:=hb6.blk.cell 1;have o2:=hb6.blk.cell 2;have z0:=hb6.blk.frozen 0;have z1:=hb6.blk.frozen 1;have z2:=hb6.blk.frozen 2;simp only[zD] at o0 o1 o2;have HN:=qd hn;have HB5:=qd hb5;have HB6:=qd hb6;clear hn hb5 hb6;replace HO:=qd HO.out.re;obtain⟨A,ca,hlv,-,-⟩:=HO.out.slice;subst hlv;simp only[zC];go_wp2;refine hK _ _ (λ_=>rfl) ?_;clear hK K o0 o1 o2 z0 z1 z2;have hn:=HN.out;have hb6:=HB6.out;have hout:=HO.out;clear HN HB5 HB6 HO;have hbb:=((hb6.set_ 0 (.bool (a.ok))).set_ 1 (.int .i64 (a.n))).set_ 2 (.slice A a.ls.length ca);have hnn:=((hn.set_ hb6 0 (.bool (a.ok))).set_ (hb6.set_ 0 (.bool (a.ok))) 1 (.int .i64 (a.n))).set_ ((hb6.set_ 0 (.bool (a.ok))).set_ 1 (.int .i64 (a.n))) 2 (.slice A a.ls.length ca);have hoo:OutRow (B.solo I good) w0 _ _ (.slice A a.ls.length ca) (a.ls):=(hout.far hb6.blk 0 (.bool (a.ok))).far (hb6.set_ 0 (.bool (a.ok))).blk 1 (.int .i64 (a.n)) |>.far ((hb6.set_ 0 (.bool (a.ok))).set_ 1 (.int .i64 (a.n))).blk 2 (.slice A a.ls.length ca)
  simp only[zA] at hbb;generalize World.setCell _ _ _=w6 at hbb hnn hoo ⊢;clear hn hb6 hout;refine Lg.aN _ ?_
  with_reducible refine Lg.bO _ ?_
  refine Lg.leave rfl Try.func20 rfl (v:=.agg #[.bool (a.ok),.int .i64 (a.n),.slice A a.ls.length ca]) (λy τ n hy=>?_) (HR.out _ _ _ ⟨⟨a.ok,a.n,a.ls⟩,_,H,_,rfl,rfl,hnn,hoo⟩);have c0:y.cell? ⟨b6,0,none⟩=some (.bool (a.ok)):=by have:=hbb.blk.cell 0;rw[hy] at this;exact this
  have c1:y.cell? ⟨b6,1,none⟩=some (.int .i64 (a.n)):=by have:=hbb.blk.cell 1;rw[hy] at this;exact this
  have c2:y.cell? ⟨b6,2,none⟩=some (.slice A a.ls.length ca):=by have:=hbb.blk.cell 2;rw[hy] at this;exact this
  simp[results,Try.f20,go_sem,c0,c1,c2]
 have q0b:((i:Int)==0)=false:=by simp only[beq_eq_false_iff_ne];omega
 by_cases q1:I.k<i
 ·have d1:decide (I.k<i)=true:=decide_eq_true q1
  rw[show doS I i ⟨kd,oa,ob,oc⟩ s k=k ⟨false,0,[]⟩ s from (if_neg q0).trans (if_pos q1)];clear q1
  repeat (first
   | (with_reducible first | refine Lg.aW _ ?_ | refine Lg.aO _ ?_ | refine Lg.aL _ ?_ | refine Lg.aG _ ?_ | refine Lg.aN _ ?_)
   | ((with_reducible refine Lg.aI _ ?_ ?_);exact rfl)
   | ((with_reducible refine Lg.aJ _ ?_ ?_);exact rfl)
   | ((with_reducible apply Lg.aP);exact rfl)
   | (with_reducible refine Lg.aM _ ?_
      intro K hK y τ n' hy;subst hy;have hn:=HN.out.re hk;have hb5:=HB5.out.re;have hb6:=HB6.out.re;clear HN HB5 HB6;have o0:=hb5.blk.cell 0;have o1:=hb5.blk.cell 1;have o2:=hb5.blk.cell 2;simp only[zD] at o0 o1 o2;have HN:=qd hn;have HB5:=qd hb5;have HB6:=qd hb6;clear hn hb5 hb6;obtain⟨c0,c1,c2,c3,c4,c5,c6,HS⟩:=SAt.c7 (show SAt I _ y from HN.out.rep.at_)
      go_wp2_with (first |(go_at_call 45;refine(bY _ _).mono ?_;rintro e w' ⟨rfl,hw'⟩;subst hw') |(go_at_call 37;refine(aC _ _ _ HS.out).mono ?_;rintro e w' ⟨rfl,hw'⟩;subst hw'))
      refine hK _ _ (λ_=>rfl) ?_;clear hK K c0 c1 c2 c3 c4 c5 c6 HS
      try clear o0 o1 o2))
  with_reducible refine Lg.aM _ ?_
  intro K hK y τ n' hy;subst hy;have hn:=HN.out.re hk;have hb5:=HB5.out.re;have hb6:=HB6.out.re;clear HN HB5 HB6;have o0:=hb6.blk.cell 0;have o1:=hb6.blk.cell 1;have o2:=hb6.blk.cell 2;have z0:=hb6.blk.frozen 0;have z1:=hb6.blk.frozen 1;have z2:=hb6.blk.frozen 2;simp only[zD] at o0 o1 o2;have HN:=qd hn;have HB5:=qd hb5;have HB6:=qd hb6;clear hn hb5 hb6;go_wp2;refine hK _ _ (λ_=>rfl) ?_;clear hK K o0 o1 o2 z0 z1 z2;have hn:=HN.out;have hb6:=HB6.out;clear HN HB5 HB6;have hbb:=((hb6.set_ 0 (.bool (false))).set_ 1 (.int .i64 (0))).set_ 2 (.slice none 0 0);have hnn:=((hn.set_ hb6 0 (.bool (false))).set_ (hb6.set_ 0 (.bool (false))) 1 (.int .i64 (0))).set_ ((hb6.set_ 0 (.bool (false))).set_ 1 (.int .i64 (0))) 2 (.slice none 0 0);simp only[zA] at hbb;generalize World.setCell _ _ _=w6 at hbb hnn ⊢;clear hn hb6
  with_reducible refine Lg.bO _ ?_
  refine Lg.leave rfl Try.func20 rfl (v:=.agg #[.bool (false),.int .i64 (0),.slice none 0 0]) (λy τ n hy=>?_) (HR.out _ _ _ ⟨⟨false,0,[]⟩,_,H,.slice none 0 0,rfl,rfl,hnn,OutRow.nil⟩);have c0:y.cell? ⟨b6,0,none⟩=some (.bool (false)):=by have:=hbb.blk.cell 0;rw[hy] at this;exact this
  have c1:y.cell? ⟨b6,1,none⟩=some (.int .i64 (0)):=by have:=hbb.blk.cell 1;rw[hy] at this;exact this
  have c2:y.cell? ⟨b6,2,none⟩=some (.slice none 0 0):=by have:=hbb.blk.cell 2;rw[hy] at this;exact this
  simp[results,Try.f20,go_sem,c0,c1,c2]
 have d1:decide (I.k<i)=false:=decide_eq_false q1
 by_cases q5:kd=5
 ·subst q5
  rw[show doS I i ⟨5,oa,ob,oc⟩ s k=kL I ((i:Int)-1) s λq e s=>k (eW q e) s from (if_neg q0).trans ((if_neg q1).trans (if_pos rfl))]
  repeat (first
   | (with_reducible first | refine Lg.aW _ ?_ | refine Lg.aO _ ?_ | refine Lg.aL _ ?_ | refine Lg.aG _ ?_ | refine Lg.aN _ ?_)
   | ((with_reducible refine Lg.aI _ ?_ ?_);exact rfl)
   | ((with_reducible refine Lg.aJ _ ?_ ?_);exact rfl)
   | ((with_reducible apply Lg.aP);exact rfl)
   | (with_reducible refine Lg.aM _ ?_
      intro K hK y τ n' hy;subst hy;have hn:=HN.out.re hk;have hb5:=HB5.out.re;have hb6:=HB6.out.re;clear HN HB5 HB6;have o0:=hb5.blk.cell 0;have o1:=hb5.blk.cell 1;have o2:=hb5.blk.cell 2;simp only[zD] at o0 o1 o2;have HN:=qd hn;have HB5:=qd hb5;have HB6:=qd hb6;clear hn hb5 hb6;obtain⟨c0,c1,c2,c3,c4,c5,c6,HS⟩:=SAt.c7 (show SAt I _ y from HN.out.rep.at_)
      go_wp2_with (first |(go_at_call 45;refine(bY _ _).mono ?_;rintro e w' ⟨rfl,hw'⟩;subst hw') |(go_at_call 37;refine(aC _ _ _ HS.out).mono ?_;rintro e w' ⟨rfl,hw'⟩;subst hw'))
      refine hK _ _ (λ_=>rfl) ?_;clear hK K c0 c1 c2 c3 c4 c5 c6 HS
      try clear o0 o1 o2))
  with_reducible refine Lg.bJ _ ?_
  refine Lg.pre 0 4 5 (by simp) λK hK y τ n' hz=>?_;subst hz;have hn:=HN.out.re hk;have hb5:=HB5.out.re;have hb6:=HB6.out.re;clear HN HB5 HB6;have o0:=hb5.blk.cell 0;have o1:=hb5.blk.cell 1;have o2:=hb5.blk.cell 2;simp only[zD] at o0 o1 o2;have HN:=qd hn;have HB5:=qd hb5;have HB6:=qd hb6;clear hn hb5 hb6;obtain⟨c0,c1,c2,c3,c4,c5,c6,HS⟩:=SAt.c7 (show SAt I _ y from HN.out.rep.at_);simp only[zC]
  go_wp2_with (go_at_call 45;refine(bY _ _).mono ?_;rintro e w' ⟨rfl,hw'⟩;subst hw')
  refine hK _ _ (λ_=>rfl) ?_;clear hK K c0 c1 c2 c3 c4 c5 c6 HS
  try clear o0 o1 o2
  refine Lg.call (i:=4) (rest:=[5,6,7,8]) (f:=14) (args:=#[.pointer (some ⟨I.so,0,none⟩),V,.int .i64 ((i:Int)-1)]) rfl rfl (λy=>by go_simp) (solo_readT hk hS hS2 H y s H _ (HN.out.here hk) hcut ((i:Int)-1) _) ?_;rintro vv t' w' ⟨q,e,s,H,rfl,rfl,hn'⟩;have hb5:=HB5.out.held hn'.held;have hb6:=HB6.out.held hn'.held;have hn:=HN.out.on hn';clear HN HB5 HB6 hn';have HN:=qd hn;have HB5:=qd hb5;have HB6:=qd hb6;clear hn hb5 hb6;rw[Frame.finish_at];walk_nrm;refine(show L.T _ (Frame.at _ ⟨_,[]⟩ (.inRegion _ (List.range' 5 (4+0))::_)) (c::mid) w' from ?_);refine Lg.pre 5 4 0 (by simp) λK hK y τ n' hz=>?_;subst hz;have hn:=HN.out.re hk;have hb5:=HB5.out.re;have hb6:=HB6.out.re;clear HN HB5 HB6;have HN:=qd hn;have HB5:=qd hb5;have HB6:=qd hb6;clear hn hb5 hb6;simp only[zC]
  go_wp2_with (go_at_call 44;refine(fS _ _ _).mono ?_;rintro e' w' ⟨rfl,hkept⟩;have hn:=HN.out.kept hkept;have hb6:=HB6.out.kept hkept;have z0:=hb6.blk.frozen 0;have z1:=hb6.blk.frozen 1;have z2:=hb6.blk.frozen 2;have o0:=hb6.blk.cell 0;have o1:=hb6.blk.cell 1;have o2:=hb6.blk.cell 2;simp at o0 o1 o2)
  refine hK _ _ (λ_=>rfl) ?_;clear hK K HN HB5 HB6 o0 o1 o2 z0 z1 z2;have hbb:=((hb6.set_ 0 (.bool (e==0))).set_ 1 (.int .i64 (bH q e))).set_ 2 (.slice none 0 0);have hnn:=((hn.set_ hb6 0 (.bool (e==0))).set_ (hb6.set_ 0 (.bool (e==0))) 1 (.int .i64 (bH q e))).set_ ((hb6.set_ 0 (.bool (e==0))).set_ 1 (.int .i64 (bH q e))) 2 (.slice none 0 0);simp only[zA] at hbb;generalize World.setCell _ _ _=w6 at hbb hnn ⊢;clear hn hb6;refine Lg.aN _ ?_
  with_reducible refine Lg.bO _ ?_
  refine Lg.leave rfl Try.func20 rfl (v:=.agg #[.bool (e==0),.int .i64 (bH q e),.slice none 0 0]) (λy τ n hy=>?_) (HR.out _ _ _ ⟨⟨e==0,bH q e,[]⟩,_,H,.slice none 0 0,rfl,rfl,hnn,OutRow.nil⟩);have c0:y.cell? ⟨b6,0,none⟩=some (.bool (e==0)):=by have:=hbb.blk.cell 0;rw[hy] at this;exact this
  have c1:y.cell? ⟨b6,1,none⟩=some (.int .i64 (bH q e)):=by have:=hbb.blk.cell 1;rw[hy] at this;exact this
  have c2:y.cell? ⟨b6,2,none⟩=some (.slice none 0 0):=by have:=hbb.blk.cell 2;rw[hy] at this;exact this
  simp[results,Try.f20,go_sem,c0,c1,c2]
 have q5b:(kd==5)=false:=by simpa using q5
 by_cases q6:kd=6
 ·subst q6
  rw[show doS I i ⟨6,oa,ob,oc⟩ s k=eV I ((i:Int)-1) (eI oa) s λls e s=>k ⟨e==0,bH 0 e,ls⟩ s from (if_neg q0).trans ((if_neg q1).trans ((if_neg (show ¬(6:Int)=5 by decide)).trans (if_pos rfl)))]
  repeat (first
   | (with_reducible first | refine Lg.aW _ ?_ | refine Lg.aO _ ?_ | refine Lg.aL _ ?_ | refine Lg.aG _ ?_ | refine Lg.aN _ ?_)
   | ((with_reducible refine Lg.aI _ ?_ ?_);exact rfl)
   | ((with_reducible refine Lg.aJ _ ?_ ?_);exact rfl)
   | ((with_reducible apply Lg.aP);exact rfl)
   | (with_reducible refine Lg.aM _ ?_
      intro K hK y τ n' hy;subst hy;have hn:=HN.out.re hk;have hb5:=HB5.out.re;have hb6:=HB6.out.re;clear HN HB5 HB6;have o0:=hb5.blk.cell 0;have o1:=hb5.blk.cell 1;have o2:=hb5.blk.cell 2;simp only[zD] at o0 o1 o2;have HN:=qd hn;have HB5:=qd hb5;have HB6:=qd hb6;clear hn hb5 hb6;obtain⟨c0,c1,c2,c3,c4,c5,c6,HS⟩:=SAt.c7 (show SAt I _ y from HN.out.rep.at_)
      go_wp2_with (first |(go_at_call 45;refine(bY _ _).mono ?_;rintro e w' ⟨rfl,hw'⟩;subst hw') |(go_at_call 37;refine(aC _ _ _ HS.out).mono ?_;rintro e w' ⟨rfl,hw'⟩;subst hw'))
      refine hK _ _ (λ_=>rfl) ?_;clear hK K c0 c1 c2 c3 c4 c5 c6 HS
      try clear o0 o1 o2))
  have hh1:=held_bd oa
  with_reducible refine Lg.bJ _ ?_
  refine Lg.pre 0 7 6 (by simp) λK hK y τ n' hz=>?_;subst hz;have hn:=HN.out.re hk;have hb5:=HB5.out.re;have hb6:=HB6.out.re;clear HN HB5 HB6;have o0:=hb5.blk.cell 0;have o1:=hb5.blk.cell 1;have o2:=hb5.blk.cell 2;simp only[zD] at o0 o1 o2;have HN:=qd hn;have HB5:=qd hb5;have HB6:=qd hb6;clear hn hb5 hb6;obtain⟨c0,c1,c2,c3,c4,c5,c6,HS⟩:=SAt.c7 (show SAt I _ y from HN.out.rep.at_);simp only[zC]
  go_wp2_with (go_at_call 45;refine(bY _ _).mono ?_;rintro e w' ⟨rfl,hw'⟩;subst hw')
  refine hK _ _ (λ_=>rfl) ?_;clear hK K c0 c1 c2 c3 c4 c5 c6 HS
  try clear o0 o1 o2
  refine Lg.call (i:=7) (rest:=[8,9,10,11,12]) (f:=15) (args:=#[.pointer (some ⟨I.so,0,none⟩),V,.int .i64 ((i:Int)-1),.int .i64 (eI oa)]) rfl rfl (λy=>by go_simp) (lV hk hS hS2 H y s H _ (HN.out.here hk) hcut ((i:Int)-1) (eI oa) (by omega) (by omega) _) ?_;rintro vv t' w' ⟨ls,v,e,s,H,rfl,rfl,hn',hout',-⟩;have hout:=hout'.base (w0:=w0) HN.out.held.size;clear hout';obtain⟨A,ca,rfl,-,-⟩:=hout.slice;have HO:=qd hout;clear hout;have hb5:=HB5.out.held hn'.held;have hb6:=HB6.out.held hn'.held;have hn:=HN.out.on hn';clear HN HB5 HB6 hn';have HN:=qd hn;have HB5:=qd hb5;have HB6:=qd hb6;clear hn hb5 hb6;rw[Frame.finish_at];walk_nrm;refine(show L.T _ (Frame.at _ ⟨_,[]⟩ (.inRegion _ (List.range' 8 (5+0))::_)) (c::mid) w' from ?_);refine Lg.pre 8 5 0 (by simp) λK hK y τ n' hz=>?_;subst hz;have hn:=HN.out.re hk;have hb5:=HB5.out.re;have hb6:=HB6.out.re;clear HN HB5 HB6;have o0:=hb5.blk.cell 0;have o1:=hb5.blk.cell 1;have o2:=hb5.blk.cell 2;simp only[zD] at o0 o1 o2;have HN:=qd hn;have HB5:=qd hb5;have HB6:=qd hb6;clear hn hb5 hb6;obtain⟨c0,c1,c2,c3,c4,c5,c6,HS⟩:=SAt.c7 (show SAt I _ y from HN.out.rep.at_)
  skip
  simp only[zC];go_wp2;refine hK _ _ (λ_=>rfl) ?_;clear hK K c0 c1 c2 c3 c4 c5 c6 HS
  try clear o0 o1 o2
  refine Lg.aN _ ?_;have hout:OutRow (B.solo I good) w0 H y (.slice A ls.length ca) ls:=HO.out.re;clear HO;have HO:=qd hout;clear hout
  with_reducible refine Lg.aW _ ?_
  with_reducible refine Lg.aM _ ?_
  intro K hK y τ n' hy;subst hy;have hn:=HN.out.re hk;have hb5:=HB5.out.re;have hb6:=HB6.out.re;clear HN HB5 HB6;have HN:=qd hn;have HB5:=qd hb5;have HB6:=qd hb6;clear hn hb5 hb6;replace HO:=qd HO.out.re
  go_wp2_with (go_at_call 44;refine(fS _ _ _).mono ?_;rintro e' w' ⟨rfl,hkept⟩;have HKP:=qd hkept;clear hkept)
  refine hK _ _ (λ_=>rfl) ?_;clear hK K;have hn1:=HN.out.kept HKP.out;have hb61:=HB6.out.kept HKP.out;have ho1:=HO.out.kept HKP.out;have hb11:=hn1.own 48 #[.bool (e==0),.int .i64 (bH 0 e),.slice none 0 0];have hn:=hn1.alloc (.cells #[.bool (e==0),.int .i64 (bH 0 e),.slice none 0 0] 48);have hb6:=hb61.alloc (.cells #[.bool (e==0),.int .i64 (bH 0 e),.slice none 0 0] 48);have hout:=ho1.kept (Kept.alloc w' (.cells #[.bool (e==0),.int .i64 (bH 0 e),.slice none 0 0] 48));have hne2:b6≠w'.heap.size:=by have:=hb61.blk.lt;omega
  clear hn1 hb61 ho1 HN HB5 HB6 HO HKP;generalize w'.alloc (.cells #[.bool (e==0),.int .i64 (bH 0 e),.slice none 0 0] 48)=z3 at hn hb6 hb11 hout ⊢;generalize w'.heap.size=b11 at hb11 hne2 ⊢;have HN:=qd hn;have HB6:=qd hb6;have HB11:=qd hb11;have HO:=qd hout;clear hn hb6 hb11 hout
  with_reducible refine Lg.aW _ ?_
  with_reducible refine Lg.aM _ ?_
  intro K hK y τ n' hy;subst hy;have hn:=HN.out.re hk;have hb6:=HB6.out.re;have hb11:=HB11.out.re;have hout:=HO.out.re;clear HN HB6 HB11 HO;have o2:=hb11.blk.cell 2;have z2:=hb11.blk.frozen 2;simp only[zD] at o2;have HN:=qd hn;have HB6:=qd hb6;have HB11:=qd hb11;have HO:=qd hout;clear hn hb6 hb11 hout;go_wp2;refine hK _ _ (λ_=>rfl) ?_;clear hK K o2 z2;have hn:=HN.out.set_ HB11.out 2 (.slice A ls.length ca);have hb6:=HB6.out.far hne2 2 (.slice A ls.length ca);have hout:=HO.out.far HB11.out.blk 2 (.slice A ls.length ca);have hb11:=HB11.out.set_ 2 (.slice A ls.length ca);simp only[zA] at hb11;clear HN HB6 HO HB11;generalize World.setCell _ _ _=z4 at hn hb6 hb11 hout ⊢;have HN:=qd hn;have HB6:=qd hb6;have HB11:=qd hb11;have HO:=qd hout;clear hn hb6 hb11 hout
  with_reducible refine Lg.aW _ ?_
  with_reducible refine Lg.aM _ ?_
  intro K hK y τ n' hy;subst hy;have hn:=HN.out.re hk;have hb6:=HB6.out.re;have hb11:=HB11.out.re;have hout:=HO.out.re;clear HN HB6 HB11 HO;have o0:=hb6.blk.cell 0;have o1:=hb6.blk.cell 1;have o2:=hb6.blk.cell 2;have z0:=hb6.blk.frozen 0;have z1:=hb6.blk.frozen 1;have z2:=hb6.blk.frozen 2;simp only[zD] at o0 o1 o2;have p0:=hb11.blk.cell 0;have p1:=hb11.blk.cell 1;have p2:=hb11.blk.cell 2;simp only[zD] at p0 p1 p2;have HN:=qd hn;have HB6:=qd hb6;have HB11:=qd hb11;have HO:=qd hout;clear hn hb6 hb11 hout;go_wp2;refine hK _ _ (λ_=>rfl) ?_;clear hK K o0 o1 o2 z0 z1 z2 p0 p1 p2;have hn:=HN.out;have hb6:=HB6.out;have hout:=HO.out;clear HN HB6 HB11 HO;have hbb:=((hb6.set_ 0 (.bool (e==0))).set_ 1 (.int .i64 (bH 0 e))).set_ 2 (.slice A ls.length ca);have hnn:=((hn.set_ hb6 0 (.bool (e==0))).set_ (hb6.set_ 0 (.bool (e==0))) 1 (.int .i64 (bH 0 e))).set_ ((hb6.set_ 0 (.bool (e==0))).set_ 1 (.int .i64 (bH 0 e))) 2 (.slice A ls.length ca);have hoo:OutRow (B.solo I good) w0 _ _ (.slice A ls.length ca) (ls):=(hout.far hb6.blk 0 (.bool (e==0))).far (hb6.set_ 0 (.bool (e==0))).blk 1 (.int .i64 (bH 0 e)) |>.far ((hb6.set_ 0 (.bool (e==0))).set_ 1 (.int .i64 (bH 0 e))).blk 2 (.slice A ls.length ca)
  simp only[zA] at hbb;generalize World.setCell _ _ _=w6 at hbb hnn hoo ⊢;clear hn hb6 hout
  skip
  with_reducible refine Lg.bO _ ?_
  refine Lg.leave rfl Try.func20 rfl (v:=.agg #[.bool (e==0),.int .i64 (bH 0 e),.slice A ls.length ca]) (λy τ n hy=>?_) (HR.out _ _ _ ⟨⟨e==0,bH 0 e,ls⟩,_,H,_,rfl,rfl,hnn,hoo⟩);have c0:y.cell? ⟨b6,0,none⟩=some (.bool (e==0)):=by have:=hbb.blk.cell 0;rw[hy] at this;exact this
  have c1:y.cell? ⟨b6,1,none⟩=some (.int .i64 (bH 0 e)):=by have:=hbb.blk.cell 1;rw[hy] at this;exact this
  have c2:y.cell? ⟨b6,2,none⟩=some (.slice A ls.length ca):=by have:=hbb.blk.cell 2;rw[hy] at this;exact this
  simp[results,Try.f20,go_sem,c0,c1,c2]
 have q6b:(kd==6)=false:=by simpa using q6
 rw[show doS I i ⟨kd,oa,ob,oc⟩ s k=k ⟨false,0,[]⟩ s from (if_neg q0).trans ((if_neg q1).trans ((if_neg q5).trans (if_neg q6)))];clear q0 q1 q5 q6
 repeat (first
  | (with_reducible first | refine Lg.aW _ ?_ | refine Lg.aO _ ?_ | refine Lg.aL _ ?_ | refine Lg.aG _ ?_ | refine Lg.aN _ ?_)
  | ((with_reducible refine Lg.aI _ ?_ ?_);exact rfl)
  | ((with_reducible refine Lg.aJ _ ?_ ?_);exact rfl)
  | ((with_reducible apply Lg.aP);exact rfl)
  | (with_reducible refine Lg.aM _ ?_
     intro K hK y τ n' hy;subst hy;have hn:=HN.out.re hk;have hb5:=HB5.out.re;have hb6:=HB6.out.re;clear HN HB5 HB6;have o0:=hb5.blk.cell 0;have o1:=hb5.blk.cell 1;have o2:=hb5.blk.cell 2;simp only[zD] at o0 o1 o2;have HN:=qd hn;have HB5:=qd hb5;have HB6:=qd hb6;clear hn hb5 hb6;obtain⟨c0,c1,c2,c3,c4,c5,c6,HS⟩:=SAt.c7 (show SAt I _ y from HN.out.rep.at_)
     go_wp2_with (first |(go_at_call 45;refine(bY _ _).mono ?_;rintro e w' ⟨rfl,hw'⟩;subst hw') |(go_at_call 37;refine(aC _ _ _ HS.out).mono ?_;rintro e w' ⟨rfl,hw'⟩;subst hw'))
     refine hK _ _ (λ_=>rfl) ?_;clear hK K c0 c1 c2 c3 c4 c5 c6 HS
     try clear o0 o1 o2))
 with_reducible refine Lg.aM _ ?_
 intro K hK y τ n' hy;subst hy;have hn:=HN.out.re hk;have hb5:=HB5.out.re;have hb6:=HB6.out.re;clear HN HB5 HB6;have o0:=hb6.blk.cell 0;have o1:=hb6.blk.cell 1;have o2:=hb6.blk.cell 2;have z0:=hb6.blk.frozen 0;have z1:=hb6.blk.frozen 1;have z2:=hb6.blk.frozen 2;simp only[zD] at o0 o1 o2;have HN:=qd hn;have HB5:=qd hb5;have HB6:=qd hb6;clear hn hb5 hb6;go_wp2;refine hK _ _ (λ_=>rfl) ?_;clear hK K o0 o1 o2 z0 z1 z2;have hn:=HN.out;have hb6:=HB6.out;clear HN HB5 HB6;have hbb:=((hb6.set_ 0 (.bool (false))).set_ 1 (.int .i64 (0))).set_ 2 (.slice none 0 0);have hnn:=((hn.set_ hb6 0 (.bool (false))).set_ (hb6.set_ 0 (.bool (false))) 1 (.int .i64 (0))).set_ ((hb6.set_ 0 (.bool (false))).set_ 1 (.int .i64 (0))) 2 (.slice none 0 0);simp only[zA] at hbb;generalize World.setCell _ _ _=w6 at hbb hnn ⊢;clear hn hb6
 with_reducible refine Lg.bO _ ?_
 refine Lg.leave rfl Try.func20 rfl (v:=.agg #[.bool (false),.int .i64 (0),.slice none 0 0]) (λy τ n hy=>?_) (HR.out _ _ _ ⟨⟨false,0,[]⟩,_,H,.slice none 0 0,rfl,rfl,hnn,OutRow.nil⟩);have c0:y.cell? ⟨b6,0,none⟩=some (.bool (false)):=by have:=hbb.blk.cell 0;rw[hy] at this;exact this
 have c1:y.cell? ⟨b6,1,none⟩=some (.int .i64 (0)):=by have:=hbb.blk.cell 1;rw[hy] at this;exact this
 have c2:y.cell? ⟨b6,2,none⟩=some (.slice none 0 0):=by have:=hbb.blk.cell 2;rw[hy] at this;exact this
 simp[results,Try.f20,go_sem,c0,c1,c2]
end Go.Proofs.Ytlcplealnbekeaa
