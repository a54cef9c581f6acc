/- DERIVED. Sizes that can't be: slots.New, solo.New refuse them, the document's Power says no; the nil Solo and the zero one refuse every call. -/
import Derived.Test.YtlcplealnbekeaaGh
import Derived.Lib.SmallJoins
import Derived.Laws.AppendOwnNone
set_option linter.unusedVariables false
set_option maxHeartbeats 4000000
set_option maxRecDepth 100000
namespace Go.Proofs.Ytlcplealnbekeaa
open Go.RowKit
structure Ids where
 so:Nat
 rb:Nat
 gb:Nat
 nb:Nat
 pb:Nat
 n:Nat
 k:Nat
structure SoloSt where
 next:Int
 cached:Int
 published:Int
 cursor:Int
 num:Nat->Int
 place:Nat->Int
 st:Nat->Int
 va:Nat->Int
def aT (I:Ids) (S:SoloSt):Array Value:=
 #[.pointer (some ⟨I.rb,0,none⟩),.int .i64 S.cursor,.slice (some ⟨I.nb,0,none⟩) I.k I.k,.int .i64 S.next,.int .i64 S.cached,.int .i64 S.published,.slice (some ⟨I.pb,0,none⟩) I.k I.k]
structure NumsAt (w:World) (b k:Nat) (f:Nat->Int):Prop where
 cell:∀ i,i<k->w.cell? ⟨b,i,none⟩=some (.int .i64 (f i))
 free:∀ i,w.frozen? ⟨b,i,none⟩=false
 lt:b<w.heap.size
structure SoloAt (w:World) (I:Ids) (S:SoloSt):Prop where
 solo:Blk w I.so 93 (aT I S)
 ring:RingAt w I.rb I.gb I.n S.st S.va
 nums:NumsAt w I.nb I.k S.num
 places:NumsAt w I.pb I.k S.place
 most:I.k<=64
 d1:I.so≠I.rb/\I.so≠I.gb/\I.so≠I.nb/\I.so≠I.pb
 d2:I.rb≠I.gb/\I.rb≠I.nb/\I.rb≠I.pb
 d3:I.gb≠I.nb/\I.gb≠I.pb/\I.nb≠I.pb
section
variable {w w':World}{b k:Nat}{f:Nat->Int}{I:Ids}{S:SoloSt}
theorem NumsAt.set (H:NumsAt w b k f) {i:Nat}(hi:i<k) (x:Int):NumsAt (w.setCell ⟨b,i,none⟩ (.int .i64 x)) b k (uI f i x) where
 cell:=fun j hj=>by
  unfold uI
  by_cases e:j=i
  ·subst e;rw[if_pos rfl];exact World.cell?_setCell_same _ _ _ (H.cell j hj)
  ·rw [if_neg e];exact(World.cell?_setCell_other _ _ _ _ (by simp <;> omega)).trans (H.cell j hj)
 free:=λj=>by rw[World.frozen?_setCell];exact H.free j
 lt:=by simpa using H.lt
theorem NumsAt.far (H:NumsAt w b k f) {p:Addr}(hp:b≠p.block) (u:Value):NumsAt (w.setCell p u) b k f where
 cell:=λj hj=>(World.cell?_setCell_other _ _ _ _ (by intro e;exact hp (by rw[e]))).trans (H.cell j hj)
 free:=λj=>by rw[World.frozen?_setCell];exact H.free j
 lt:=by simpa using H.lt
theorem NumsAt.drewN (H:NumsAt w b k f) (n:Nat):NumsAt (w.drewN n) b k f:=⟨H.cell,H.free,H.lt⟩
theorem NumsAt.kept {Z:Nat->Prop}(H:NumsAt w b k f) (hk:Kept Z w w') (h1:¬Z b):NumsAt w' b k f where
 cell:=λi hi=>(World.cell?_of_block (w:=w) (a:=⟨b,i,none⟩) (hk.block b H.lt h1)).trans (H.cell i hi)
 free:=λi=>(World.frozen?_of_block (w:=w) (a:=⟨b,i,none⟩) (hk.block b H.lt h1)).trans (H.free i)
 lt:=Nat.lt_of_lt_of_le H.lt hk.size
theorem RingAt.far {rb sb n:Nat}{st va:Nat->Int}(H:RingAt w rb sb n st va) {p:Addr}(h1:rb≠p.block) (h2:sb≠p.block) (u:Value):RingAt (w.setCell p u) rb sb n st va where
 ring:=(World.cell?_setCell_other _ _ _ _ (by intro e;exact h1 (by rw[e]))).trans H.ring
 stamp:=λj hj=>(World.cell?_setCell_other _ _ _ _ (by intro e;exact h2 (by rw[e]))).trans (H.stamp j hj)
 value:=λj hj=>(World.cell?_setCell_other _ _ _ _ (by intro e;exact h2 (by rw[e]))).trans (H.value j hj)
 free:=λj=>by rw[World.frozen?_setCell];exact H.free j
 pos:=H.pos
 most:=H.most
 ne:=H.ne
 rlt:=by simpa using H.rlt
 glt:=by simpa using H.glt
theorem SoloAt.drewN (H:SoloAt w I S) (n:Nat):SoloAt (w.drewN n) I S:=⟨H.solo.drewN n,H.ring.drewN n,H.nums.drewN n,H.places.drewN n,H.most,H.d1,H.d2,H.d3⟩
theorem SoloAt.drew (H:SoloAt w I S):SoloAt w.drew I S:=H.drewN 1
theorem SoloAt.kept {Z:Nat->Prop}(H:SoloAt w I S) (hk:Kept Z w w') (h1:¬Z I.so) (h2:¬Z I.rb) (h3:¬Z I.gb) (h4:¬Z I.nb) (h5:¬Z I.pb):SoloAt w' I S:=
 ⟨H.solo.kept hk h1,H.ring.kept hk h2 h3,H.nums.kept hk h4,H.places.kept hk h5,H.most,H.d1,H.d2,H.d3⟩
theorem SoloAt.own (H:SoloAt w I S) {i:Nat}{u:Value}{S':SoloSt}(h:(aT I S).setIfInBounds i u=aT I S') (e1:S'.num=S.num) (e2:S'.place=S.place) (e3:S'.st=S.st) (e4:S'.va=S.va) :
  SoloAt (w.setCell ⟨I.so,i,none⟩ u) I S':=by
 refine⟨by rw[<-h];exact H.solo.set_ i u,?_,?_,?_,H.most,H.d1,H.d2,H.d3⟩
 ·rw [e3,e4];exact H.ring.far (λe=>H.d1.1 e.symm) (λe=>H.d1.2.1 e.symm) u
 ·rw [e1];exact H.nums.far (λe=>H.d1.2.2.1 e.symm) u
 ·rw [e2];exact H.places.far (λe=>H.d1.2.2.2 e.symm) u
end
theorem aH (w:World) (I:Ids) (S:SoloSt) (H:SoloAt w I S):Calls Try.prog 55 #[.pointer (some ⟨I.so,0,none⟩)] w λe w'=>e=.returned (.int .i64 I.n)/\w=w':=by
 have hc:=H.solo.cell 0;have hr:=H.ring.ring;simp only[aT] at hc;clear H
 go_enter Try.func55,Try.ntmps55
 go_wp2_with (go_at_call 69;refine(lH _ _ _ _ _ hr).mono ?_;rintro e w' ⟨rfl,rfl⟩)
 go_ret;exact⟨rfl,rfl⟩
theorem aC (w:World) (I:Ids) (S:SoloSt) (H:SoloAt w I S):Calls Try.prog 37 #[.pointer (some ⟨I.so,0,none⟩)] w λe w'=>e=.returned (.int .i64 I.k)/\w=w':=by
 have hc:=H.solo.cell 2;simp only[aT] at hc;clear H
 go_enter Try.func37,Try.ntmps37
 go_wp2;go_ret;exact⟨rfl,rfl⟩
def eH (f:Nat->Int):Nat->Int
 | 0=>4611686018427387904
 | i+1=>if f i<eH f i then f i else eH f i
structure Walks (X:Stepper) (I:Ids):Prop where
 s1:X.Steps Try.prog 63
 s2:X.Steps Try.prog 38
 so:¬X.own I.so
 rb:¬X.own I.rb
 gb:¬X.own I.gb
 nb:¬X.own I.nb
 pb:¬X.own I.pb
theorem SoloAt.stepped {w w':World}{I:Ids}{S:SoloSt}{X:Stepper}(H:SoloAt w I S) (W:Walks X I) (hk:Kept X.own w w'):SoloAt w' I S:=H.kept hk W.so W.rb W.gb W.nb W.pb
theorem nH (X:Stepper) (t:Nat) (w:World) (I:Ids) (S:SoloSt) (W:Walks X I) (H:SoloAt w I S) (A:X.at_ t w):Calls Try.prog 56 #[.pointer (some ⟨I.so,0,none⟩),X.v] w λe w'=>e=.returned (.int .i64 (eH S.num I.k))/\Kept X.own w w'/\w'.heap.size=w.heap.size/\X.at_ (t+I.k) w':=by
 have hc:=H.solo.cell 2;have hm:=H.most;have HH:=qd H;have HA:=qd A;simp only[aT] at hc;clear H A
 go_enter Try.func56,Try.ntmps56
 go_wp2
 go_loopw [5,12] (λn i wr=>∃ j:Nat,j<=I.k/\i=.int .i64 j/\n=.int .i64 (eH S.num j)/\Kept X.own w wr/\wr.heap.size=w.heap.size/\X.at_ (t+j) wr) (λ_ i _=>I.k-(intOf i).toNat)
 case atStart=>exact⟨0,Nat.zero_le _,rfl,rfl,Kept.refl _ _,rfl,HA.out⟩
 case round =>
  obtain⟨j,hj,rfl,rfl,hk,hz,ha⟩:=hrel;have HZ:=qd hz;clear hz hc
  by_cases hlt:j<I.k
  ·go_wp2_with fail
   refine(W.s2 _ _ ha).mono ?_;rintro e w1 ⟨rfl,a1,k1,z1⟩;have H1:=HH.out.stepped W (hk.trans k1);have c2:=H1.solo.cell 2;simp only[aT] at c2
   go_wp2_with fail
   refine(aD _ _ _ (H1.nums.cell j hlt)).mono ?_;rintro e w' ⟨rfl,rfl⟩;have ZZ:=qd z1;have AA:=qd a1;clear z1 a1 H1 c2;go_wp2;go_roundw
   case rel=>exact⟨j+1,by omega,by go_num,rfl,hk.trans k1,ZZ.out.trans HZ.out,AA.out⟩
   case measure=>simp[intOf];omega
  ·go_wp2
   go_ret;obtain rfl:j=I.k:=by omega
   exact⟨rfl,hk,HZ.out,ha⟩
theorem kG (w:World) (I:Ids) (S:SoloSt) (H:SoloAt w I S) (q:Int) (h0:0<=q) (h1:q<S.next) (h2:S.published<q) :
  Calls Try.prog 57 #[.pointer (some ⟨I.so,0,none⟩),.int .i64 q] w λe w'=>e=.returned (.bool true)/\w=w':=by
 have hc3:=H.solo.cell 3;have hc5:=H.solo.cell 5;have hn:=H.ring.pos;simp only[aT] at hc3 hc5;have HH:=qd H;clear H
 go_enter Try.func57,Try.ntmps57
 go_wp2_with (go_at_call 55;refine(aH _ _ _ HH.out).mono ?_;rintro e w' ⟨rfl,rfl⟩)
 go_ret;exact⟨by simp,rfl⟩
def putS (I:Ids) (S:SoloSt) (q v:Int):SoloSt:={ S with st:=uI S.st (q%I.n).toNat (2*(q / I.n)),va:=uI S.va (q%I.n).toNat v }
theorem solo_put (X:Stepper) (t:Nat) (w:World) (I:Ids) (S:SoloSt) (W:Walks X I) (H:SoloAt w I S) (A:X.at_ t w) (q v:Int) (h0:0<=q) (h1:q<S.next) (h2:S.published<q) (h3:S.next<=4611686018427387904) :
  Calls Try.prog 35 #[.pointer (some ⟨I.so,0,none⟩),X.v,.int .i64 q,.int .i64 v] w λe w'=>e=.returned (.int .i64 0)/\SoloAt w' I (putS I S q v)/\Kept (λb=>b=I.gb\/X.own b) w w'/\w'.heap.size=w.heap.size/\X.at_ (t+3) w':=by
 have hc0:=H.solo.cell 0;simp only[aT] at hc0;have HH:=qd H;have HA:=qd A;clear H A
 go_enter Try.func35,Try.ntmps35
 go_wp2_with (go_at_call 57;refine(kG _ _ _ HH.out _ h0 h1 h2).mono ?_;rintro e w' ⟨rfl,rfl⟩)
 refine(put_x X W.s1 t _ _ _ _ _ _ _ _ HH.out.ring h0 (by omega) HA.out W.rb W.gb).mono ?_;rintro e w' ⟨rfl,hr,hk,hz,ha⟩;have HR:=qd (And.intro hr (And.intro hz ha));clear hr hz ha;go_wp2;go_ret;have K:∀ b,¬X.own b->b≠I.gb->¬(b=I.gb\/X.own b):=λb h h' e=>e.elim h' h;refine⟨rfl,⟨HH.out.solo.kept hk (K _ W.so HH.out.d1.2.1),HR.out.1,HH.out.nums.kept hk (K _ W.nb (λe=>HH.out.d3.1 e.symm)),HH.out.places.kept hk (K _ W.pb (λe=>HH.out.d3.2.1 e.symm)),HH.out.most,HH.out.d1,HH.out.d2,HH.out.d3⟩,hk,HR.out.2.1,HR.out.2.2⟩
theorem rC (X:Stepper) (t:Nat) (w:World) (I:Ids) (S:SoloSt) (W:Walks X I) (H:SoloAt w I S) (A:X.at_ t w) (q:Int) (h0:0<=q) (h1:q<S.next) (h2:S.published<q) :
  Calls Try.prog 36 #[.pointer (some ⟨I.so,0,none⟩),X.v,.int .i64 q] w λe w'=>e=.returned (.int .i64 0)/\SoloAt w' I { S with cursor:=q,published:=q }/\Kept (λb=>b=I.so\/X.own b) w w'/\w'.heap.size=w.heap.size/\X.at_ (t+1) w':=by
 have HH:=qd H;have HA:=qd A;clear H A
 go_enter Try.func36,Try.ntmps36
 go_wp2_with (go_at_call 57;refine(kG _ _ _ HH.out _ h0 h1 h2).mono ?_;rintro e w' ⟨rfl,rfl⟩)
 refine(W.s2 _ _ HA.out).mono ?_;rintro e w1 ⟨rfl,a1,k1,z1⟩;have H1:=HH.out.stepped W k1;have hc1:=H1.solo.cell 1;have hf:=H1.solo.frozen 1;simp only[aT] at hc1
 go_wp2_with fail
 refine(aZ _ _ _ _ hc1 hf).mono ?_;rintro e w' ⟨rfl,rfl⟩;have H2:SoloAt (w1.setCell ⟨I.so,1,none⟩ (.int .i64 q)) I { S with cursor:=q }:=H1.own (by simp[aT]) rfl rfl rfl rfl;have hc5:=H2.solo.cell 5;have hf5:=H2.solo.frozen 5;simp only[aT] at hc5;have HK:=qd (And.intro H2 (And.intro z1 a1));clear H2 H1 z1 a1 hc1 hf;go_wp2;go_ret;refine⟨rfl,HK.out.1.own (by simp[aT]) rfl rfl rfl rfl,?_,by simpa using HK.out.2.1,?_⟩
 ·exact (k1.mono (λ_ _ e=>.inr e)).trans ((Kept.setCell _ (.inl rfl) _).trans (Kept.setCell _ (.inl rfl) _))
 ·exact X.keep HK.out.2.2 ((Kept.setCell (S:=(·=I.so)) _ rfl _).trans (Kept.setCell (S:=(·=I.so)) _ rfl _)) (λb h e=>W.so (e▸h))
def lO (I:Ids) (S:SoloSt) (c:Nat):Int:=if S.cached<S.next+c-1-I.n then eH S.num I.k else S.cached
def mA (I:Ids) (S:SoloSt) (c:Nat):Nat:=if S.cached<S.next+c-1-I.n then I.k else 0
def bZ (I:Ids) (S:SoloSt) (c:Nat):SoloSt:={ S with cached:=lO I S c }
def ClaimPost (X:Stepper) (t:Nat) (w:World) (I:Ids) (S:SoloSt) (c:Nat) (e:Ending) (w':World):Prop:=
 (lO I S c<S.next+c-1-I.n/\e=.returned (.tuple #[.int .i64 0,.int .i64 3])/\SoloAt w' I (bZ I S c) \/
  ¬lO I S c<S.next+c-1-I.n/\e=.returned (.tuple #[.int .i64 S.next,.int .i64 0])/\SoloAt w' I { bZ I S c with next:=S.next+c }) /\
 Kept (λb=>b=I.so\/X.own b) w w'/\w'.heap.size=w.heap.size/\X.at_ (t+mA I S c) w'
theorem solo_claim (X:Stepper) (t:Nat) (w:World) (I:Ids) (S:SoloSt) (W:Walks X I) (H:SoloAt w I S) (A:X.at_ t w) (c:Nat) (h1:0<c) (h2:c<=I.n) (h3:0<=S.next) (h4:S.next+c<=4611686018427387904) :
  Calls Try.prog 34 #[.pointer (some ⟨I.so,0,none⟩),X.v,.int .i64 c] w (ClaimPost X t w I S c):=by
 have hn2:=H.ring.most;have hsz:(1:Int)<=c:=by omega
 have hsz':(c:Int)<=I.n:=by omega
 have gc3:=H.solo.cell 3;have gc4:=H.solo.cell 4;have gf:=H.solo.frozen;simp only[aT] at gc3 gc4;have HH:=qd H;have HA:=qd A
 by_cases t1:S.cached<S.next+c-1-I.n
 ·have EC:=qd (show lO I S c=eH S.num I.k from if_pos t1)
  have EL:=qd (show mA I S c=I.k from if_pos t1);clear H A
  by_cases t2:eH S.num I.k<S.next+c-1-I.n
  ·go_enter Try.func34,Try.ntmps34
   go_wp2_with (go_at_call 55;refine(aH _ _ _ HH.out).mono ?_;rintro e w' ⟨rfl,rfl⟩)
   refine(nH X t _ _ _ W HH.out HA.out).mono ?_;rintro e w1 ⟨rfl,k1,z1,a1⟩;have H1:=HH.out.stepped W k1;have hc3:=H1.solo.cell 3;have hc4:=H1.solo.cell 4;have hf:=H1.solo.frozen;simp only[aT] at hc3 hc4;have HC:SoloAt (w1.setCell ⟨I.so,4,none⟩ (.int .i64 (eH S.num I.k))) I (bZ I S c):=H1.own (by simp[aT,bZ,EC.out]) rfl rfl rfl rfl;have hd3:=HC.solo.cell 3;have hd4:=HC.solo.cell 4;have hf':=HC.solo.frozen;simp only[aT,bZ,EC.out] at hd3 hd4;have HCC:=qd HC;have HX:=qd (And.intro z1 a1);clear H1 HC z1 a1;go_wp2
   go_ret2
   refine⟨.inl ⟨by rw[EC.out];omega,rfl,HCC.out⟩,(k1.mono (λ_ _ e=>.inr e)).trans (Kept.setCell _ (.inl rfl) _),by simpa using HX.out.1,?_⟩;rw[EL.out];exact X.keep HX.out.2 (Kept.setCell (S:=(·=I.so)) _ rfl _) (λb h e=>W.so (e▸h))
  ·go_enter Try.func34,Try.ntmps34
   go_wp2_with (go_at_call 55;refine(aH _ _ _ HH.out).mono ?_;rintro e w' ⟨rfl,rfl⟩)
   refine(nH X t _ _ _ W HH.out HA.out).mono ?_;rintro e w1 ⟨rfl,k1,z1,a1⟩;have H1:=HH.out.stepped W k1;have hc3:=H1.solo.cell 3;have hc4:=H1.solo.cell 4;have hf:=H1.solo.frozen;simp only[aT] at hc3 hc4;have HC:SoloAt (w1.setCell ⟨I.so,4,none⟩ (.int .i64 (eH S.num I.k))) I (bZ I S c):=H1.own (by simp[aT,bZ,EC.out]) rfl rfl rfl rfl;have hd3:=HC.solo.cell 3;have hd4:=HC.solo.cell 4;have hf':=HC.solo.frozen;simp only[aT,bZ,EC.out] at hd3 hd4;have HCC:=qd HC;have HX:=qd (And.intro z1 a1);clear H1 HC z1 a1;go_wp2
   go_ret2
   refine⟨.inr ⟨by rw[EC.out];omega,rfl,HCC.out.own (by simp[aT,bZ]) rfl rfl rfl rfl⟩,(k1.mono (λ_ _ e=>.inr e)).trans ((Kept.setCell _ (.inl rfl) _).trans (Kept.setCell _ (.inl rfl) _)),by simpa using HX.out.1,?_⟩;rw[EL.out];exact X.keep HX.out.2 ((Kept.setCell (S:=(·=I.so)) _ rfl _).trans (Kept.setCell (S:=(·=I.so)) _ rfl _)) (λb h e=>W.so (e▸h))
 ·have ec:lO I S c=S.cached:=if_neg t1
  have HC:SoloAt w I (bZ I S c):=by
   have:bZ I S c=S:=by unfold bZ;rw[ec]
   rw[this];exact H
  have HD:SoloAt (w.setCell ⟨I.so,3,none⟩ (.int .i64 (S.next+c))) I { bZ I S c with next:=S.next+c }:=HC.own (by simp[aT,bZ]) rfl rfl rfl rfl;have HDD:=qd HD;have EC:=qd ec;have EL:=qd (show mA I S c=0 from if_neg t1);clear H HC HD ec A
  go_enter Try.func34,Try.ntmps34
  go_wp2_with (go_at_call 55;refine(aH _ _ _ HH.out).mono ?_;rintro e w' ⟨rfl,rfl⟩)
  go_ret2
  refine⟨.inr ⟨by rw[EC.out];omega,rfl,HDD.out⟩,Kept.setCell _ (.inl rfl) _,by simp,?_⟩;rw[EL.out];exact X.keep HA.out (Kept.setCell (S:=(·=I.so)) _ rfl _) (λb h e=>W.so (e▸h))
def eS (I:Ids) (S:SoloSt) (q:Int) (v:Nat->Int):Nat->SoloSt
 | 0=>S
 | j+1=>putS I (eS I S q v j) (q+j) (v j)
theorem lJ (I:Ids) (S:SoloSt) (q:Int) (v:Nat->Int) (j:Nat):(eS I S q v j).next=S.next/\(eS I S q v j).published=S.published/\(eS I S q v j).cached=S.cached/\(eS I S q v j).cursor=S.cursor/\(eS I S q v j).num=S.num/\(eS I S q v j).place=S.place:=by
 induction j with
 | zero=>exact⟨rfl,rfl,rfl,rfl,rfl,rfl⟩
 | succ j ih=>exact ih
def writeS (I:Ids) (S:SoloSt) (v:Nat->Int) (c:Nat):SoloSt:=
 { eS I { bZ I S c with next:=S.next+c } S.next v c with cursor:=S.next+c-1,published:=S.next+c-1 }
def WritePost (X:Stepper) (t:Nat) (w:World) (I:Ids) (S:SoloSt) (v:Nat->Int) (c:Nat) (e:Ending) (w':World):Prop:=
 (lO I S c<S.next+c-1-I.n/\e=.returned (.tuple #[.int .i64 0,.int .i64 3])/\SoloAt w' I (bZ I S c)/\X.at_ (t+mA I S c) w' \/
  ¬lO I S c<S.next+c-1-I.n/\e=.returned (.tuple #[.int .i64 S.next,.int .i64 0])/\SoloAt w' I (writeS I S v c)/\X.at_ (t+mA I S c+3*c+1) w') /\
 Kept (λb=>b=I.so\/b=I.gb\/X.own b) w w'/\w'.heap.size=w.heap.size
theorem solo_write (X:Stepper) (t:Nat) (w:World) (I:Ids) (S:SoloSt) (W:Walks X I) (H:SoloAt w I S) (A:X.at_ t w) (vb vo cap c:Nat) (v:Nat->Int) (h1:0<c) (h2:c<=I.n) (h3:0<=S.next) (h4:S.next+c<=4611686018427387904) (h5:S.published<S.next)
  (hv:∀ i,i<c->w.cell? ⟨vb,vo+i,none⟩=some (.int .i64 (v i))) (d1:vb≠I.so) (d2:vb≠I.gb) (d3:¬X.own vb) (hlt:vb<w.heap.size) :
  Calls Try.prog 13 #[.pointer (some ⟨I.so,0,none⟩),X.v,.slice (some ⟨vb,vo,none⟩) c cap] w (WritePost X t w I S v c):=by
 have hn2:=H.ring.most;have HH:=qd H;have HV:=qd hv;have HA:=qd A;have HD3:=qd d3;clear hv H A d3
 go_enter Try.func13,Try.ntmps13
 go_wp2_with fail
 refine(solo_claim X t _ _ _ W HH.out HA.out c h1 h2 h3 h4).mono ?_;rintro e w1 ⟨⟨t0,rfl,H1⟩ | ⟨t0,rfl,H1⟩,hk1,hz1,ha1⟩
 ·have HH1:=qd H1
  have T:=qd t0;have HZ:=qd (And.intro hz1 ha1);clear H1 t0 hz1 ha1;go_wp2
  go_ret2
  exact⟨.inl ⟨T.out,rfl,HH1.out,HZ.out.2⟩,hk1.mono (λ_ _ e=>e.elim .inl (λe=>.inr (.inr e))),HZ.out.1⟩
 ·have HH1:=qd H1
  have T:=qd t0;have HZ:=qd (And.intro hz1 ha1);clear H1 t0 hz1 ha1
  go_wp2_with fail
  go_loopw [25] (λi wr=>∃ j:Nat,j<=c/\i=.int .i64 j/\SoloAt wr I (eS I { bZ I S c with next:=S.next+c } S.next v j)/\Kept (λb=>b=I.so\/b=I.gb\/X.own b) w wr/\wr.heap.size=w.heap.size/\X.at_ (t+mA I S c+3*j) wr) (λi _=>c-(intOf i).toNat)
  case atStart=>exact⟨0,Nat.zero_le _,rfl,HH1.out,hk1.mono (λ_ _ e=>e.elim .inl (λe=>.inr (.inr e))),HZ.out.1,HZ.out.2⟩
  case round =>
   obtain⟨j,hj,rfl,Hr,hk,hz,ha⟩:=hrel;have HR:=qd Hr;have HZR:=qd (And.intro hz ha);clear Hr hz ha;have hcell:j<c->wr.cell? ⟨vb,vo+j,none⟩=some (.int .i64 (v j)):=λh=>(World.cell?_of_block (w:=w) (a:=⟨vb,vo+j,none⟩) (hk.block vb hlt (λe=>e.elim d1 (λe=>e.elim d2 HD3.out)))).trans (HV.out j h)
   by_cases hjc:j<c
   ·have hc:=hcell hjc
    clear hcell;have pn:=lJ I { bZ I S c with next:=S.next+c } S.next v j;have q1:S.next+j<(eS I { bZ I S c with next:=S.next+c } S.next v j).next:=by rw[pn.1];show _<S.next+c;omega
    have q2:(eS I { bZ I S c with next:=S.next+c } S.next v j).published<S.next+j:=by rw[pn.2.1];show S.published<_;omega
    have q3:(eS I { bZ I S c with next:=S.next+c } S.next v j).next<=4611686018427387904:=by rw[pn.1];exact h4
    have Q1:=qd q1;have Q2:=qd q2;have Q3:=qd q3;clear pn q1 q2 q3
    go_wp2_with fail
    refine(solo_put X _ _ _ _ W HR.out HZR.out.2 _ _ (by omega) Q1.out Q2.out Q3.out).mono ?_;rintro e w2 ⟨rfl,H2,hk2,hz2,ha2⟩;have HH2:=qd H2;have HZ2:=qd (And.intro hz2 ha2);clear H2 hz2 ha2;go_wp2;go_roundw
    case rel=>exact⟨j+1,by omega,by go_num,HH2.out,hk.trans (hk2.mono (λ_ _ e=>.inr e)),HZ2.out.1.trans HZR.out.1,HZ2.out.2⟩
    case measure=>simp[intOf];omega
   ·obtain rfl:j=c:=by omega
    clear hcell;have pn:=lJ I { bZ I S j with next:=S.next+j } S.next v j;have q1:S.next+j-1<(eS I { bZ I S j with next:=S.next+j } S.next v j).next:=by rw[pn.1];show _<S.next+j;omega
    have q2:(eS I { bZ I S j with next:=S.next+j } S.next v j).published<S.next+j-1:=by rw[pn.2.1];show S.published<_;omega
    have Q1:=qd q1;have Q2:=qd q2;clear pn q1 q2
    go_wp2_with fail
    refine(rC X _ _ _ _ W HR.out HZR.out.2 _ (by omega) Q1.out Q2.out).mono ?_;rintro e w2 ⟨rfl,H2,hk2,hz2,ha2⟩;have HH2:=qd H2;have HZ2:=qd (And.intro hz2 ha2);clear H2 hz2 ha2;go_wp2
    go_ret2
    exact⟨.inr ⟨by have:=T.out;omega,rfl,HH2.out,HZ2.out.2⟩,hk.trans (hk2.mono (λ_ _ e=>e.elim .inl (λe=>.inr (.inr e)))),HZ2.out.1.trans HZR.out.1⟩
end Go.Proofs.Ytlcplealnbekeaa
namespace Go.Proofs.Ytlcplealnbekeaa
open Go.RowKit
theorem Try.intInfo:(Try.prog.info? 2).map (λi=>(i.zero,i.size,i.bytes))=some (some (.int .i64 0),1,8):=by kernel_rfl
def eM (S:SoloSt) (n:Nat) (p:Int) (m:Nat):List Value:=(List.range m).map λ(i:Nat)=>.int .i64 (S.va ((p+1+(i:Int))%(n:Int)).toNat)
theorem mX (S:SoloSt) (n:Nat) (p:Int) (m:Nat):eM S n p (m+1)=eM S n p m++[.int .i64 (S.va ((p+1+(m:Int))%(n:Int)).toNat)]:=by
 simp[eM,List.range_succ]
def readS (S:SoloSt) (j m:Nat):SoloSt:={ S with num:=uI S.num j (S.place j+m),place:=uI S.place j (S.place j+m) }
theorem SoloAt.setNum {w:World}{I:Ids}{S:SoloSt}(H:SoloAt w I S) (j:Nat) (hj:j<I.k) (x:Int):SoloAt (w.setCell ⟨I.nb,j,none⟩ (.int .i64 x)) I { S with num:=uI S.num j x }:=
 ⟨H.solo.far H.d1.2.2.1 _,H.ring.far H.d2.2.1 H.d3.1 _,H.nums.set hj x,H.places.far (λe=>H.d3.2.2 e.symm) _,H.most,H.d1,H.d2,H.d3⟩
theorem SoloAt.setPlace {w:World}{I:Ids}{S:SoloSt}(H:SoloAt w I S) (j:Nat) (hj:j<I.k) (x:Int):SoloAt (w.setCell ⟨I.pb,j,none⟩ (.int .i64 x)) I { S with place:=uI S.place j x }:=
 ⟨H.solo.far H.d1.2.2.2 _,H.ring.far H.d2.2.2 H.d3.2.1 _,H.nums.far H.d3.2.2 _,H.places.set hj x,H.most,H.d1,H.d2,H.d3⟩
def BatchPost (X:Stepper) (t:Nat) (w:World) (I:Ids) (S:SoloSt) (j m:Nat) (e:Ending) (w':World):Prop:=
 ∃ v,e=.returned (.tuple #[v,.int .i64 0])/\w'.ownsRow w.heap.size 2 1 v m (eM S I.n (S.place j) m)/\SoloAt w' I (readS S j m)/\Kept (λb=>b=I.nb\/b=I.pb\/X.own b) w w'/\X.at_ (t+3*m+2) w'
theorem solo_batch (X:Stepper) (t:Nat) (w:World) (I:Ids) (S:SoloSt) (W:Walks X I) (H:SoloAt w I S) (A:X.at_ t w) (j m:Nat) (mo:Int) (hj:j<I.k) (hm:0<m) (h1:-1<=S.place j) (h2:S.place j+m<=S.cursor) (h3:S.cursor<4611686018427387904) (h4:(m:Int)<=I.n)
  (hmo:m<=max mo 1) (hend:S.place j+m=S.cursor\/max mo 1=m) (hst:∀ i,i<m->S.st ((S.place j+1+i)%I.n).toNat=2*((S.place j+1+i) / I.n)) :
  Calls Try.prog 15 #[.pointer (some ⟨I.so,0,none⟩),X.v,.int .i64 j,.int .i64 mo] w (BatchPost X t w I S j m):=by
 have hk:=H.most;have hn:=H.ring.most;have hc6:=H.solo.cell 6;have hp:=H.places.cell j hj;simp only[aT] at hc6;have hj':(j:Int)<I.k:=by omega
 have HOLD:=qd (λ(b:Nat) (h:X.own b)=>X.old A h);have HH:=qd H;have HA:=qd A;have HST:=qd hst;have HE:=qd hend;have HM:=qd hmo;obtain⟨i0,hi0,hz0,hz1,hz2'⟩:=info_parts Try.intInfo;clear H hst hend hmo A
 by_cases hmo1:mo<1
 ·go_enter Try.func15,Try.ntmps15
  go_wp2_with (go_at_call 37;refine(aC _ _ _ HH.out).mono ?_;rintro e w' ⟨rfl,rfl⟩)
  refine(W.s2 _ _ HA.out).mono ?_;rintro e w1 ⟨rfl,a1,k1,z1⟩;have H1:=HH.out.stepped W k1;have hc1:=H1.solo.cell 1;simp only[aT] at hc1
  go_wp2_with fail
  refine(aD _ _ _ hc1).mono ?_;rintro e w' ⟨rfl,rfl⟩;have ZA:=qd (And.intro k1 (And.intro z1 a1));clear z1 a1 k1 H1 hc1 hp hc6
  go_wp2_with fail
  go_loopw [12,13] (λo q wr=>∃ i:Nat,i<=m/\q=.int .i64 (S.place j+1+i)/\wr.ownsRow w.heap.size 2 1 o i (eM S I.n (S.place j) i)/\Kept X.own w wr/\X.at_ (t+1+3*i) wr) (λ_ q _=>(S.place j+1+m-intOf q).toNat)
  case atStart=>exact⟨0,Nat.zero_le _,by simp,⟨by simp[eM],.inl ⟨rfl,rfl⟩⟩,ZA.out.1,ZA.out.2.2⟩
  case round =>
   obtain⟨i,hi,rfl,hown,hkr,har⟩:=hrel;obtain⟨A,cap,rfl⟩:=aQ hown;have HO:=qd hown;have HR:=qd (HH.out.stepped W hkr);have hsz:=hkr.size;have HKR:=qd hkr;have HAR:=qd har;have hi63:i<=65536:=by omega
   clear hown hkr har;have hr0:wr.cell? ⟨I.so,0,none⟩=some (.pointer (some ⟨I.rb,0,none⟩)):=HR.out.solo.cell 0
   by_cases hlt:i<m
   ·have hx:S.place j+1+i<=S.cursor:=by omega
    have hx0:0<=S.place j+1+i:=by omega
    have hx1:(i:Int)<1\/(i:Int)<mo:=by have:=HM.out;omega
    have hx2:(i:Int)<1:=by omega
    clear hx1
    go_wp2_with fail
    refine(get_ok X W.s1 _ _ _ _ _ _ _ _ HR.out.ring hx0 (by omega) (HST.out i hlt) HAR.out W.rb W.gb).mono ?_;rintro e w2 ⟨rfl,k2,z2,a2⟩;have HO1:w2.ownsRow w.heap.size 2 1 (.slice A i cap) i (eM S I.n (S.place j) i):=dI HO.out k2 (λb hb hx=>by have:=HOLD.out b hx;omega);have hk2:=HKR.out.trans k2;have hz2:=hk2.size;have HA2:=qd a2;have HK2:=qd hk2;clear k2 z2 a2 hk2
    go_wp2_with (at_builtin;refine wpList_append_own _ rfl _ _ 29 rfl w.heap.size 2 i0 (.int .i64 0) 1 8 Try.underlying29 hi0 hz0 hz1 hz2' rfl (by decide) _ _ _ rfl (HO1.alloc _) ⟨w2.heap.size,0,none⟩ 1 1 [.int .i64 (S.va ((S.place j+1+i)%(I.n:Int)).toNat)] rfl rfl ?c1 ?c2 ?c3 ?c4 ?c5 ?_)
    case c1=>exact cell_one_new _ _ _
    case c2=>simp[Value.oneCell']
    case c3=>unfold maxLen;omega
    case c4=>omega
    case c5=>simp;omega
    intro v' w3 hown1 hg1 _;have ho1:w3.ownsRow w.heap.size 2 1 v' (i+1) (eM S I.n (S.place j) (i+1)):=by rw[mX];exact hown1
    have hk3:Kept (λb=>w.heap.size<=b) w2 w3:=(Kept.alloc _ _).trans (Kept.grown hg1 (λk hk=>(HO1.lt k hk).1));have HO2:=qd (And.intro ho1 (And.intro (X.keep HA2.out hk3 (λb hb hx=>by have:=HOLD.out b hb;omega)) (HK2.out.later hk3 (λb hb=>hb))));clear hown1 hg1 ho1 hk3;go_wp2;go_roundw
    case rel=>exact⟨i+1,by omega,by congr 1;omega,HO2.out.1,HO2.out.2.2,HO2.out.2.1⟩
    case measure=>simp[intOf];omega
   ·obtain rfl:i=m:=by omega
    have hq:=HE.out
    by_cases hx:S.place j+1+i<=S.cursor
    all_goals
     have hx1:S.place j+1+i<=S.cursor->¬(i:Int)<1:=λh=>by omega
     clear hq
     try replace hx1:=hx1 hx
     go_wp2_with fail
     refine(W.s2 _ _ HAR.out).mono ?_;rintro e w2 ⟨rfl,a2,k2,z2⟩;have HR2:=qd (HR.out.stepped W k2);have hr2:w2.cell? ⟨I.so,2,none⟩=some (.slice (some ⟨I.nb,0,none⟩) I.k I.k):=HR2.out.solo.cell 2;have HO1:w2.ownsRow w.heap.size 2 1 (.slice A i cap) i (eM S I.n (S.place j) i):=dI HO.out k2 (λb hb hx=>by have:=HOLD.out b hx;omega);have HOO:=qd HO1;have HA2:=qd a2;have HK2:=qd (HKR.out.trans k2);clear a2 k2 z2 HO1 hr0
     go_wp2_with fail
     refine(aZ _ _ _ _ (HR2.out.nums.cell j hj) (HR2.out.nums.free _)).mono ?_;rintro e w' ⟨rfl,rfl⟩;have H1:=HR2.out.setNum j hj (S.place j+i);have H2:=H1.setPlace j hj (S.place j+i);have hr6:(w2.setCell ⟨I.nb,j,none⟩ (.int .i64 (S.place j+i))).cell? ⟨I.so,6,none⟩=some (.slice (some ⟨I.pb,0,none⟩) I.k I.k):=H1.solo.cell 6;have hpj:=H1.places.cell j hj;have hpf:=H1.places.free j;have HX:=qd H2;clear H1 H2 hr2;go_wp2
     go_ret2
     refine⟨_,rfl,?_,HX.out,?_,?_⟩
     ·refine ownsRow_setCell_below (ownsRow_setCell_below HOO.out ?_ _) ?_ _
      ·exact HH.out.nums.lt
      ·exact HH.out.places.lt
     ·exact (HK2.out.mono (λ_ _ e=>.inr (.inr e))).trans ((Kept.setCell _ (.inl rfl) _).trans (Kept.setCell _ (.inr (.inl rfl)) _))
     ·have e:t+3*i+2=t+1+3*i+1:=by omega
      rw[e];exact X.keep HA2.out ((Kept.setCell (S:=λb=>b=I.nb\/b=I.pb) _ (.inl rfl) _).trans (Kept.setCell (S:=λb=>b=I.nb\/b=I.pb) _ (.inr rfl) _)) (λb h e=>e.elim (λe=>W.nb (e▸h)) (λe=>W.pb (e▸h)))
 ·go_enter Try.func15,Try.ntmps15
  go_wp2_with (go_at_call 37;refine(aC _ _ _ HH.out).mono ?_;rintro e w' ⟨rfl,rfl⟩)
  refine(W.s2 _ _ HA.out).mono ?_;rintro e w1 ⟨rfl,a1,k1,z1⟩;have H1:=HH.out.stepped W k1;have hc1:=H1.solo.cell 1;simp only[aT] at hc1
  go_wp2_with fail
  refine(aD _ _ _ hc1).mono ?_;rintro e w' ⟨rfl,rfl⟩;have ZA:=qd (And.intro k1 (And.intro z1 a1));clear z1 a1 k1 H1 hc1 hp hc6
  go_wp2_with fail
  go_loopw [12,13] (λo q wr=>∃ i:Nat,i<=m/\q=.int .i64 (S.place j+1+i)/\wr.ownsRow w.heap.size 2 1 o i (eM S I.n (S.place j) i)/\Kept X.own w wr/\X.at_ (t+1+3*i) wr) (λ_ q _=>(S.place j+1+m-intOf q).toNat)
  case atStart=>exact⟨0,Nat.zero_le _,by simp,⟨by simp[eM],.inl ⟨rfl,rfl⟩⟩,ZA.out.1,ZA.out.2.2⟩
  case round =>
   obtain⟨i,hi,rfl,hown,hkr,har⟩:=hrel;obtain⟨A,cap,rfl⟩:=aQ hown;have HO:=qd hown;have HR:=qd (HH.out.stepped W hkr);have hsz:=hkr.size;have HKR:=qd hkr;have HAR:=qd har;have hi63:i<=65536:=by omega
   clear hown hkr har;have hr0:wr.cell? ⟨I.so,0,none⟩=some (.pointer (some ⟨I.rb,0,none⟩)):=HR.out.solo.cell 0
   by_cases hlt:i<m
   ·have hx:S.place j+1+i<=S.cursor:=by omega
    have hx0:0<=S.place j+1+i:=by omega
    have hx1:(i:Int)<1\/(i:Int)<mo:=by have:=HM.out;omega
    have hx2:(i:Int)<mo:=by omega
    clear hx1
    go_wp2_with fail
    refine(get_ok X W.s1 _ _ _ _ _ _ _ _ HR.out.ring hx0 (by omega) (HST.out i hlt) HAR.out W.rb W.gb).mono ?_;rintro e w2 ⟨rfl,k2,z2,a2⟩;have HO1:w2.ownsRow w.heap.size 2 1 (.slice A i cap) i (eM S I.n (S.place j) i):=dI HO.out k2 (λb hb hx=>by have:=HOLD.out b hx;omega);have hk2:=HKR.out.trans k2;have hz2:=hk2.size;have HA2:=qd a2;have HK2:=qd hk2;clear k2 z2 a2 hk2
    go_wp2_with (at_builtin;refine wpList_append_own _ rfl _ _ 29 rfl w.heap.size 2 i0 (.int .i64 0) 1 8 Try.underlying29 hi0 hz0 hz1 hz2' rfl (by decide) _ _ _ rfl (HO1.alloc _) ⟨w2.heap.size,0,none⟩ 1 1 [.int .i64 (S.va ((S.place j+1+i)%(I.n:Int)).toNat)] rfl rfl ?c1 ?c2 ?c3 ?c4 ?c5 ?_)
    case c1=>exact cell_one_new _ _ _
    case c2=>simp[Value.oneCell']
    case c3=>unfold maxLen;omega
    case c4=>omega
    case c5=>simp;omega
    intro v' w3 hown1 hg1 _;have ho1:w3.ownsRow w.heap.size 2 1 v' (i+1) (eM S I.n (S.place j) (i+1)):=by rw[mX];exact hown1
    have hk3:Kept (λb=>w.heap.size<=b) w2 w3:=(Kept.alloc _ _).trans (Kept.grown hg1 (λk hk=>(HO1.lt k hk).1));have HO2:=qd (And.intro ho1 (And.intro (X.keep HA2.out hk3 (λb hb hx=>by have:=HOLD.out b hb;omega)) (HK2.out.later hk3 (λb hb=>hb))));clear hown1 hg1 ho1 hk3;go_wp2;go_roundw
    case rel=>exact⟨i+1,by omega,by congr 1;omega,HO2.out.1,HO2.out.2.2,HO2.out.2.1⟩
    case measure=>simp[intOf];omega
   ·obtain rfl:i=m:=by omega
    have hq:=HE.out
    by_cases hx:S.place j+1+i<=S.cursor
    all_goals
     have hx1:S.place j+1+i<=S.cursor->¬(i:Int)<mo:=λh=>by omega
     clear hq
     try replace hx1:=hx1 hx
     go_wp2_with fail
     refine(W.s2 _ _ HAR.out).mono ?_;rintro e w2 ⟨rfl,a2,k2,z2⟩;have HR2:=qd (HR.out.stepped W k2);have hr2:w2.cell? ⟨I.so,2,none⟩=some (.slice (some ⟨I.nb,0,none⟩) I.k I.k):=HR2.out.solo.cell 2;have HO1:w2.ownsRow w.heap.size 2 1 (.slice A i cap) i (eM S I.n (S.place j) i):=dI HO.out k2 (λb hb hx=>by have:=HOLD.out b hx;omega);have HOO:=qd HO1;have HA2:=qd a2;have HK2:=qd (HKR.out.trans k2);clear a2 k2 z2 HO1 hr0
     go_wp2_with fail
     refine(aZ _ _ _ _ (HR2.out.nums.cell j hj) (HR2.out.nums.free _)).mono ?_;rintro e w' ⟨rfl,rfl⟩;have H1:=HR2.out.setNum j hj (S.place j+i);have H2:=H1.setPlace j hj (S.place j+i);have hr6:(w2.setCell ⟨I.nb,j,none⟩ (.int .i64 (S.place j+i))).cell? ⟨I.so,6,none⟩=some (.slice (some ⟨I.pb,0,none⟩) I.k I.k):=H1.solo.cell 6;have hpj:=H1.places.cell j hj;have hpf:=H1.places.free j;have HX:=qd H2;clear H1 H2 hr2;go_wp2
     go_ret2
     refine⟨_,rfl,?_,HX.out,?_,?_⟩
     ·refine ownsRow_setCell_below (ownsRow_setCell_below HOO.out ?_ _) ?_ _
      ·exact HH.out.nums.lt
      ·exact HH.out.places.lt
     ·exact (HK2.out.mono (λ_ _ e=>.inr (.inr e))).trans ((Kept.setCell _ (.inl rfl) _).trans (Kept.setCell _ (.inr (.inl rfl)) _))
     ·have e:t+3*i+2=t+1+3*i+1:=by omega
      rw[e];exact X.keep HA2.out ((Kept.setCell (S:=λb=>b=I.nb\/b=I.pb) _ (.inl rfl) _).trans (Kept.setCell (S:=λb=>b=I.nb\/b=I.pb) _ (.inr rfl) _)) (λb h e=>e.elim (λe=>W.nb (e▸h)) (λe=>W.pb (e▸h)))
end Go.Proofs.Ytlcplealnbekeaa
namespace Go.Proofs.Ytlcplealnbekeaa
open Go.RowKit
theorem Try.atomInfo:(Try.prog.info? 91).map (λi=>(i.zero,i.size,i.bytes))=some (some (.agg #[.int .i64 0]),1,8):=by kernel_rfl
def soloZero:SoloSt:={ next:=0,cached:=-1,published:=-1,cursor:=-1,num:=λ_=>-1,place:=λ_=>-1,st:=λ_=>-2,va:=λ_=>0 }
theorem made_one (k j:Nat) (h:j<k):(madeCells #[.int .i64 0] k)[j]?=some (.int .i64 0):=by
 unfold madeCells;rw[Array.getElem?_map,Array.getElem?_range,if_pos h]
 simp[Nat.mod_one]
def dP (c:Int) (j:Nat):SoloSt:={ soloZero with cursor:=c,num:=λi=>if i<j then -1 else 0,place:=λi=>if i<j then -1 else 0 }
theorem jK {w w':World}{b k:Nat}{t:TypeId}(H:Blk w b t (madeCells #[.int .i64 0] k)) (hk:Kept (λ_=>False) w w'):NumsAt w' b k (λi=>if i<0 then -1 else 0) where
 cell:=fun i hi=>by
  have:=(H.kept hk id).cell i;rw[made_one k i hi] at this
  simpa using this
 free:=λi=>(H.kept hk id).frozen i
 lt:=(H.kept hk id).lt
def nZ (w1:World) (rb k:Nat):World:=(((w1.alloc (.cells (madeCells #[.int .i64 0] k) 91)).alloc (.cells (madeCells #[.int .i64 0] k) 2)).alloc
    (.cells #[.pointer (some ⟨rb,0,none⟩),.int .i64 0,.slice (some ⟨w1.heap.size,0,none⟩) k k,.int .i64 0,.int .i64 (-1),.int .i64 (-1),.slice (some ⟨w1.heap.size+1,0,none⟩) k k] 93)).drew
theorem solo_made1 {w1:World}{rb gb n k:Nat}(H:RingAt w1 rb gb n (λ_=>-2) (λ_=>0)) (hk:k<=64):SoloAt (nZ w1 rb k)
  ⟨w1.heap.size+1+1,rb,gb,w1.heap.size,w1.heap.size+1,n,k⟩ (dP 0 0):=by
 have b1:=Blk.new w1 91 (madeCells #[.int .i64 0] k);have b2:=Blk.new (w1.alloc (.cells (madeCells #[.int .i64 0] k) 91)) 2 (madeCells #[.int .i64 0] k);have b3:=Blk.new ((w1.alloc (.cells (madeCells #[.int .i64 0] k) 91)).alloc (.cells (madeCells #[.int .i64 0] k) 2)) 93 #[.pointer (some ⟨rb,0,none⟩),.int .i64 0,.slice (some ⟨w1.heap.size,0,none⟩) k k,.int .i64 0,.int .i64 (-1),.int .i64 (-1),.slice (some ⟨w1.heap.size+1,0,none⟩) k k];simp only[World.size_alloc] at b2 b3;have h1:=H.rlt;have h2:=H.glt;exact { solo:=b3.drew,ring:=H.kept (S:=λ_=>False) ((((Kept.alloc _ _).trans (Kept.alloc _ _)).trans (Kept.alloc _ _)).trans (Kept.drew _)) id id,nums:=jK b1 (((Kept.alloc _ _).trans (Kept.alloc _ _)).trans (Kept.drew _)),places:=jK b2 ((Kept.alloc _ _).trans (Kept.drew _)),most:=hk,d1:=⟨(by dsimp only;omega),(by dsimp only;omega),(by dsimp only;omega),(by dsimp only;omega)⟩,d2:=⟨H.ne,(by dsimp only;omega),(by dsimp only;omega)⟩,d3:=⟨(by dsimp only;omega),(by dsimp only;omega),(by dsimp only;omega)⟩ }
def nY (w1:World) (rb k:Nat):World:=(((w1.alloc (.cells (madeCells #[.int .i64 0] k) 2)).alloc (.cells (madeCells #[.int .i64 0] k) 91)).alloc
    (.cells #[.pointer (some ⟨rb,0,none⟩),.int .i64 0,.slice (some ⟨w1.heap.size+1,0,none⟩) k k,.int .i64 0,.int .i64 (-1),.int .i64 (-1),.slice (some ⟨w1.heap.size,0,none⟩) k k] 93)).drew
theorem solo_made2 {w1:World}{rb gb n k:Nat}(H:RingAt w1 rb gb n (λ_=>-2) (λ_=>0)) (hk:k<=64):SoloAt (nY w1 rb k)
  ⟨w1.heap.size+1+1,rb,gb,w1.heap.size+1,w1.heap.size,n,k⟩ (dP 0 0):=by
 have b1:=Blk.new w1 2 (madeCells #[.int .i64 0] k);have b2:=Blk.new (w1.alloc (.cells (madeCells #[.int .i64 0] k) 2)) 91 (madeCells #[.int .i64 0] k);have b3:=Blk.new ((w1.alloc (.cells (madeCells #[.int .i64 0] k) 2)).alloc (.cells (madeCells #[.int .i64 0] k) 91)) 93 #[.pointer (some ⟨rb,0,none⟩),.int .i64 0,.slice (some ⟨w1.heap.size+1,0,none⟩) k k,.int .i64 0,.int .i64 (-1),.int .i64 (-1),.slice (some ⟨w1.heap.size,0,none⟩) k k];simp only[World.size_alloc] at b2 b3;have h1:=H.rlt;have h2:=H.glt;exact { solo:=b3.drew,ring:=H.kept (S:=λ_=>False) ((((Kept.alloc _ _).trans (Kept.alloc _ _)).trans (Kept.alloc _ _)).trans (Kept.drew _)) id id,nums:=jK b2 ((Kept.alloc _ _).trans (Kept.drew _)),places:=jK b1 (((Kept.alloc _ _).trans (Kept.alloc _ _)).trans (Kept.drew _)),most:=hk,d1:=⟨(by dsimp only;omega),(by dsimp only;omega),(by dsimp only;omega),(by dsimp only;omega)⟩,d2:=⟨H.ne,(by dsimp only;omega),(by dsimp only;omega)⟩,d3:=⟨(by dsimp only;omega),(by dsimp only;omega),(by dsimp only;omega)⟩ }
def NewPost (w:World) (n k:Nat) (e:Ending) (w':World):Prop:=
 ∃ I:Ids,I.n=n/\I.k=k/\w.heap.size<=I.so/\w.heap.size<=I.rb/\w.heap.size<=I.gb/\w.heap.size<=I.nb/\w.heap.size<=I.pb /\
   e=.returned (.tuple #[.pointer (some ⟨I.so,0,none⟩),.int .i64 0])/\SoloAt w' I soloZero/\Below w.heap.size w w'
def NearS (w:World) (lo:Nat):Prop:=∀ b,lo<=b->b<lo+5->NearB w b
theorem NearS.set_ {w:World}{lo d i:Nat}{v:Value}(h:NearS w lo):NearS (w.setCell ⟨d,i,none⟩ v) lo:=λb h1 h2=>(h b h1 h2).set_
theorem NearB.alloc {w:World}{b:Nat}(h:NearB w b) (o:Obj):NearB (w.alloc o) b:=by
 obtain⟨c,t,e⟩:=h
 exact ⟨c,t,(Below.heap_alloc w o b (by
  rcases Nat.lt_or_ge b w.heap.size with hlt | hge
  ·exact hlt
  ·rw [Array.getElem?_eq_none hge] at e;cases e)).trans e⟩
theorem nX {w1:World}{lo:Nat}(h1:NearB w1 lo) (h2:NearB w1 (lo+1)) (hs:w1.heap.size=lo+2) (c1 c2 c3:Array Value) (t1 t2 t3:TypeId):NearS (((w1.alloc (.cells c1 t1)).alloc (.cells c2 t2)).alloc (.cells c3 t3)).drew lo:=by
 intro b hb1 hb2
 show NearB (((w1.alloc (.cells c1 t1)).alloc (.cells c2 t2)).alloc (.cells c3 t3)) b
 have n1:NearB (w1.alloc (.cells c1 t1)) (lo+2):=hs▸⟨c1,t1,Blk.new w1 t1 c1⟩
 have n2:NearB ((w1.alloc (.cells c1 t1)).alloc (.cells c2 t2)) (lo+3):=by
  have:=Blk.new (w1.alloc (.cells c1 t1)) t2 c2;rw[World.size_alloc,hs] at this;exact⟨c2,t2,this⟩
 have n3:NearB (((w1.alloc (.cells c1 t1)).alloc (.cells c2 t2)).alloc (.cells c3 t3)) (lo+4):=by
  have:=Blk.new ((w1.alloc (.cells c1 t1)).alloc (.cells c2 t2)) t3 c3;rw[World.size_alloc,World.size_alloc,hs] at this;exact⟨c3,t3,this⟩
 rcases(show b=lo\/b=lo+1\/b=lo+2\/b=lo+3\/b=lo+4 by omega) with rfl | rfl | rfl | rfl | rfl
 ·exact ((h1.alloc _).alloc _).alloc _
 ·exact ((h2.alloc _).alloc _).alloc _
 ·exact (n1.alloc _).alloc _
 ·exact n2.alloc _
 ·exact n3
def NewPostN (w:World) (n k:Nat) (e:Ending) (w':World):Prop:=
 ∃ I:Ids,I.n=n/\I.k=k/\w.heap.size<=I.so/\w.heap.size<=I.rb/\w.heap.size<=I.gb/\w.heap.size<=I.nb/\w.heap.size<=I.pb /\
   e=.returned (.tuple #[.pointer (some ⟨I.so,0,none⟩),.int .i64 0])/\SoloAt w' I soloZero/\Below w.heap.size w w'/\∀ b,b=I.so\/b=I.rb\/b=I.gb\/b=I.nb\/b=I.pb->NearB w' b
theorem pO (n k:Nat) (w:World) (hn:0<n) (h2:n<=65536) (hk:k<=64) (hb:(bits BinOp.and IntKind.i64 (n:Int) ((n:Int)-1) !=0)=false):Calls Try.prog 12 #[.int .i64 n,.int .i64 k] w (NewPostN w n k):=by
 obtain⟨i0,hi,hz0,hz1,hz2⟩:=info_parts Try.intInfo;obtain⟨i1,hj,hy0,hy1,hy2⟩:=info_parts Try.atomInfo;have hmk0:=λwx=>run_make (P:=Try.prog) wx 29 2 i0 _ Try.underlying29 hi hz0 .i64 .i64 k k (by omega) (by omega) (by rw[hz2];omega) (by omega);have hmk1:=λwx=>run_make (P:=Try.prog) wx 86 91 i1 _ Try.underlying86 hj hy0 .i64 .i64 k k (by omega) (by omega) (by rw[hy2];omega) (by omega);simp only[Int.toNat_natCast,hz1,hy1,Value.cells,Nat.mul_one] at hmk0 hmk1;have hk':(k:Int)<=64:=by omega
 clear hi hz0 hz1 hz2 hj hy0 hy1 hy2
 go_enter Try.func12,Try.ntmps12
 go_wp2_with fail
 refine(new_near n w hn h2 hb).mono ?_;rintro e w1 ⟨rfl,HR,hbel,hsz,hn1,hn2⟩;have HN1:=qd (And.intro hn1 hn2);clear hn1 hn2;have HH:=qd (And.intro HR (And.intro hbel hsz));clear HR hbel hsz
 go_wp2_with fail
 have hz2:w.heap.size+2<=w1.heap.size:=Nat.le_of_eq HH.out.2.2.symm;have HB0:Below w.heap.size w (nZ w1 (w.heap.size+1) k):=(((HH.out.2.1.alloc HH.out.2.1.size _).alloc (by simp;omega) _).alloc (by simp;omega) _).drew;have HB2:Below w.heap.size w (nY w1 (w.heap.size+1) k):=(((HH.out.2.1.alloc HH.out.2.1.size _).alloc (by simp;omega) _).alloc (by simp;omega) _).drew;have HB1:=qd HB0;have HB3:=qd HB2;clear HB0 HB2
 go_region
 ·go_wp2_with fail
  have HM:=qd (solo_made1 HH.out.1 hk);have HB:=HB1;have HNS:Hid (NearS (nZ w1 (w.heap.size+1) k) w.heap.size):=qd (nX HN1.out.1 HN1.out.2 HH.out.2.2 _ _ _ _ _ _)
  show Calls Try.prog 33 _ (nZ w1 (w.heap.size+1) k) _
  generalize nZ w1 (w.heap.size+1) k=w2 at HM HB HNS ⊢;clear HB1 HB3;have hc:=HM.out.solo.cell 1;have hf:=HM.out.solo.frozen 1;refine(aZ _ _ _ _ hc hf).mono ?_;rintro e w' ⟨rfl,rfl⟩;have H1:=qd (show SoloAt _ _ (dP (-1) 0) from HM.out.own (i:=1) (u:=.int .i64 (-1)) (by simp[aT,dP,soloZero]) rfl rfl rfl rfl);have HB1:=qd (HB.out.setCell (p:=⟨w1.heap.size+1+1,1,none⟩) (by show w.heap.size<=w1.heap.size+1+1;omega) (.int .i64 (-1)))
  go_wp2_with fail
  go_loopw [37] (λi wr=>∃ j:Nat,j<=k/\i=.int .i64 j/\SoloAt wr ⟨w1.heap.size+1+1,w.heap.size+1,w.heap.size,w1.heap.size,w1.heap.size+1,n,k⟩ (dP (-1) j)/\Below w.heap.size w wr/\NearS wr w.heap.size) (λi _=>k-(intOf i).toNat)
  case atStart=>exact⟨0,Nat.zero_le _,rfl,H1.out,HB1.out,HNS.out.set_⟩
  case round =>
   obtain⟨j,hj,rfl,Hr,hb,hns⟩:=hrel;have HNR:=qd hns;clear hns;have c2:=Hr.solo.cell 2;have HR:=qd Hr;have HBR:=qd hb;simp only[aT] at c2;clear Hr hb hc hf
   by_cases hlt:j<k
   ·go_wp2_with fail
    refine(aZ _ _ _ _ (HR.out.nums.cell j hlt) (HR.out.nums.free _)).mono ?_;rintro e w' ⟨rfl,rfl⟩;have H3:=HR.out.setNum j hlt (-1);have H4:=H3.setPlace j hlt (-1);have c6:=H3.solo.cell 6;have cp:=H3.places.cell j hlt;have fp:=H3.places.free j;simp only[aT] at c6;have HX:=qd H4;clear H3 H4 c2;go_wp2;go_roundw
    case rel =>
     refine⟨j+1,by omega,by go_num,?_,(HBR.out.setCell (by dsimp only;omega) _).setCell (by dsimp only;omega) _,HNR.out.set_.set_⟩;have e:dP (-1) (j+1)={ dP (-1) j with num:=uI (dP (-1) j).num j (-1),place:=uI (dP (-1) j).place j (-1) }:=by simp only[dP,lL]
     rw[e];exact HX.out
    case measure=>simp[intOf];omega
   ·go_wp2
    go_ret2
    obtain rfl:k=j:=by omega
    refine⟨⟨w1.heap.size+1+1,w.heap.size+1,w.heap.size,w1.heap.size,w1.heap.size+1,n,k⟩,rfl,rfl,(by dsimp only;omega),(by dsimp only;omega),(by dsimp only;omega),(by dsimp only;omega),(by dsimp only;omega),rfl,?_,HBR.out,λb hb=>HNR.out b (by have:=HH.out.2.2;dsimp only at hb;omega) (by have:=HH.out.2.2;dsimp only at hb;omega)⟩;exact⟨HR.out.solo,HR.out.ring,⟨λi hi=>by rw[HR.out.nums.cell i hi];simp[dP,soloZero];omega,HR.out.nums.free,HR.out.nums.lt⟩,⟨λi hi=>by rw[HR.out.places.cell i hi];simp[dP,soloZero];omega,HR.out.places.free,HR.out.places.lt⟩,HR.out.most,HR.out.d1,HR.out.d2,HR.out.d3⟩
 ·go_wp2_with fail
  have HM:=qd (solo_made2 HH.out.1 hk);have HB:=HB3;have HNS:Hid (NearS (nY w1 (w.heap.size+1) k) w.heap.size):=qd (nX HN1.out.1 HN1.out.2 HH.out.2.2 _ _ _ _ _ _)
  show Calls Try.prog 33 _ (nY w1 (w.heap.size+1) k) _
  generalize nY w1 (w.heap.size+1) k=w2 at HM HB HNS ⊢;clear HB1 HB3;have hc:=HM.out.solo.cell 1;have hf:=HM.out.solo.frozen 1;refine(aZ _ _ _ _ hc hf).mono ?_;rintro e w' ⟨rfl,rfl⟩;have H1:=qd (show SoloAt _ _ (dP (-1) 0) from HM.out.own (i:=1) (u:=.int .i64 (-1)) (by simp[aT,dP,soloZero]) rfl rfl rfl rfl);have HB1:=qd (HB.out.setCell (p:=⟨w1.heap.size+1+1,1,none⟩) (by show w.heap.size<=w1.heap.size+1+1;omega) (.int .i64 (-1)))
  go_wp2_with fail
  go_loopw [37] (λi wr=>∃ j:Nat,j<=k/\i=.int .i64 j/\SoloAt wr ⟨w1.heap.size+1+1,w.heap.size+1,w.heap.size,w1.heap.size+1,w1.heap.size,n,k⟩ (dP (-1) j)/\Below w.heap.size w wr/\NearS wr w.heap.size) (λi _=>k-(intOf i).toNat)
  case atStart=>exact⟨0,Nat.zero_le _,rfl,H1.out,HB1.out,HNS.out.set_⟩
  case round =>
   obtain⟨j,hj,rfl,Hr,hb,hns⟩:=hrel;have HNR:=qd hns;clear hns;have c2:=Hr.solo.cell 2;have HR:=qd Hr;have HBR:=qd hb;simp only[aT] at c2;clear Hr hb hc hf
   by_cases hlt:j<k
   ·go_wp2_with fail
    refine(aZ _ _ _ _ (HR.out.nums.cell j hlt) (HR.out.nums.free _)).mono ?_;rintro e w' ⟨rfl,rfl⟩;have H3:=HR.out.setNum j hlt (-1);have H4:=H3.setPlace j hlt (-1);have c6:=H3.solo.cell 6;have cp:=H3.places.cell j hlt;have fp:=H3.places.free j;simp only[aT] at c6;have HX:=qd H4;clear H3 H4 c2;go_wp2;go_roundw
    case rel =>
     refine⟨j+1,by omega,by go_num,?_,(HBR.out.setCell (by dsimp only;omega) _).setCell (by dsimp only;omega) _,HNR.out.set_.set_⟩;have e:dP (-1) (j+1)={ dP (-1) j with num:=uI (dP (-1) j).num j (-1),place:=uI (dP (-1) j).place j (-1) }:=by simp only[dP,lL]
     rw[e];exact HX.out
    case measure=>simp[intOf];omega
   ·go_wp2
    go_ret2
    obtain rfl:k=j:=by omega
    refine⟨⟨w1.heap.size+1+1,w.heap.size+1,w.heap.size,w1.heap.size+1,w1.heap.size,n,k⟩,rfl,rfl,(by dsimp only;omega),(by dsimp only;omega),(by dsimp only;omega),(by dsimp only;omega),(by dsimp only;omega),rfl,?_,HBR.out,λb hb=>HNR.out b (by have:=HH.out.2.2;dsimp only at hb;omega) (by have:=HH.out.2.2;dsimp only at hb;omega)⟩;exact⟨HR.out.solo,HR.out.ring,⟨λi hi=>by rw[HR.out.nums.cell i hi];simp[dP,soloZero];omega,HR.out.nums.free,HR.out.nums.lt⟩,⟨λi hi=>by rw[HR.out.places.cell i hi];simp[dP,soloZero];omega,HR.out.places.free,HR.out.places.lt⟩,HR.out.most,HR.out.d1,HR.out.d2,HR.out.d3⟩
theorem solo_new (n k:Nat) (w:World) (hn:0<n) (h2:n<=65536) (hk:k<=64) (hb:(bits BinOp.and IntKind.i64 (n:Int) ((n:Int)-1) !=0)=false):Calls Try.prog 12 #[.int .i64 n,.int .i64 k] w (NewPost w n k):=
 (pO n k w hn h2 hk hb).mono λe w' ⟨I,a1,a2,a3,a4,a5,a6,a7,a8,a9,a10,_⟩=>⟨I,a1,a2,a3,a4,a5,a6,a7,a8,a9,a10⟩
theorem rI {xs ys:List Int}(hl:xs.length=ys.length) (h:∀ i,i<xs.length->xs.getD i 0=ys.getD i 0):xs=ys:=by
 apply List.ext_getElem hl;intro i h1 h2;have:=h i h1
 simpa [List.getD_eq_getElem?_getD,h1,h2] using this
theorem kI (a b:Value) (xs ys:List Int) (w:World) (ha:IntsAt w a xs) (hb:IntsAt w b ys) (hx:xs.length<=maxLen):Calls Try.prog 17 #[a,b] w λe w'=>e=.returned (.bool (decide (xs=ys)))/\∃ k,w.drewN k=w':=by
 obtain⟨A,c,rfl,hA⟩:=ha;obtain⟨B,d,rfl,hB⟩:=hb;unfold maxLen at hx
 by_cases hl:xs.length=ys.length
 ·have HL:=qd hl
  have hne:((xs.length:Int) !=(ys.length:Int))=false:=by simp[hl]
  have HA:=qd hA;have HB:=qd hB;clear hl hA hB
  go_enter Try.func17,Try.ntmps17
  go_wp2
  go_loopw [5] (λi wr=>∃ j:Nat,j<=xs.length/\i=.int .i64 j/\(∀ i,i<j->xs.getD i 0=ys.getD i 0)/\∃ k,w.drewN k=wr) (λi _=>xs.length-(intOf i).toNat)
  case atStart=>exact⟨0,Nat.zero_le _,rfl,λi hi=>absurd hi (by omega),0,rfl⟩
  case round =>
   obtain⟨j,hj,rfl,hs,k,rfl⟩:=hrel;have HS:=qd hs;clear hs
   by_cases hlt:j<xs.length
   ·obtain ⟨b1,o1,rfl,_,e1⟩:=HA.out j hlt
    obtain⟨b2,o2,rfl,_,e2⟩:=HB.out j (by rw[<-HL.out];exact hlt);have hlt':j<ys.length:=by rw[<-HL.out];exact hlt
    obtain⟨x,hx'⟩:∃ x,x=xs.getD j 0:=⟨_,rfl⟩;obtain⟨y,hy'⟩:∃ y,y=ys.getD j 0:=⟨_,rfl⟩;rw[<-hx'] at e1;rw[<-hy'] at e2;have HX:=qd hx';have HY:=qd hy';have b0:(0:Int)<=j:=by omega
    have b1':(j:Int)<xs.length:=by omega
    have b2':(j:Int)<ys.length:=by omega
    clear hx' hy'
    go_wp2_with fail
    by_cases hxy:x=y
    ·subst hxy
     go_quiet (fail)
     go_wp2;go_roundw
     case rel => 
      refine⟨j+1,by omega,by go_num,λi hi=>?_,_,rfl⟩
      by_cases h:i=j
      ·subst h;rw[<-HX.out,<-HY.out]
      ·exact HS.out i (by omega)
     case measure=>simp[intOf];omega
    ·have hne':(x !=y)=true:=by rw[bne_iff_ne];exact hxy
     go_quiet (fail)
     go_wp2;go_ret;refine⟨?_,_,(World.drewN_drewN ..).symm⟩;have:¬xs=ys:=λe=>hxy (by rw[HX.out,HY.out,e])
     simp[this]
   ·go_wp2
    go_ret;refine⟨?_,_,rfl⟩;have:xs=ys:=rI HL.out (λi hi=>HS.out i (by omega))
    simp[this]
 ·have hne:((xs.length:Int) !=(ys.length:Int))=true:=by rw[bne_iff_ne];omega
  go_enter Try.func17,Try.ntmps17
  go_wp2;go_ret;exact⟨by simp;intro e;exact hl (by rw[e]),0,rfl⟩
def dN (f:Nat->Int) (k:Nat):List Int:=(List.range k).map f
theorem listN_succ (f:Nat->Int) (k:Nat):dN f (k+1)=dN f k++[f k]:=by simp[dN,List.range_succ]
def StatePost (w:World) (I:Ids) (S:SoloSt) (e:Ending) (w':World):Prop:=
 ∃ v,e=.returned (.tuple #[.int .i64 S.next,.int .i64 S.cursor,v])/\w'.ownsRow w.heap.size 2 1 v I.k ((dN S.num I.k).map (Value.int .i64))/\Below w.heap.size w w'
theorem nF (w:World) (I:Ids) (S:SoloSt) (H:SoloAt w I S):Calls Try.prog 16 #[.pointer (some ⟨I.so,0,none⟩)] w (StatePost w I S):=by
 have hk:=H.most;have c2:=H.solo.cell 2;simp only[aT] at c2;have HH:=qd H;obtain⟨i0,hi0,hz0,hz1,hz2⟩:=info_parts Try.intInfo;clear H
 go_enter Try.func16,Try.ntmps16
 go_wp2
 go_loopw [4,13] (λo i wr=>∃ j:Nat,j<=I.k/\i=.int .i64 j/\wr.ownsRow w.heap.size 2 1 o j ((dN S.num j).map (Value.int .i64))/\Below w.heap.size w wr) (λ_ i _=>I.k-(intOf i).toNat)
 case atStart=>exact⟨0,Nat.zero_le _,rfl,⟨by simp[dN],.inl ⟨rfl,rfl⟩⟩,Below.refl _ _⟩
 case round =>
  obtain⟨j,hj,rfl,hown,hb⟩:=hrel;obtain⟨A,cap,rfl⟩:=aQ hown;have HO:=qd hown;have HR:=qd (HH.out.kept (Kept.of_below (S:=λ_=>False) hb) id id id id id);have d2:wr.cell? ⟨I.so,2,none⟩=some (.slice (some ⟨I.nb,0,none⟩) I.k I.k):=HR.out.solo.cell 2;clear hown c2
  by_cases hlt:j<I.k
  ·have hcell:=HR.out.nums.cell j hlt
   have hb1:w.heap.size<=wr.heap.size:=hb.size
   go_wp2_with (first
    | (go_at_call 39;refine(aD _ _ _ hcell).mono ?_;rintro e w' ⟨rfl,rfl⟩)
    | (at_builtin;refine wpList_append_own _ rfl _ _ 29 rfl w.heap.size 2 i0 (.int .i64 0) 1 8 Try.underlying29 hi0 hz0 hz1 hz2 rfl (by decide) _ _ _ rfl (HO.out.alloc _) ⟨wr.heap.size,0,none⟩ 1 1 [.int .i64 (S.num j)] rfl rfl ?c1 ?c2 ?c3 ?c4 ?c5 ?_))
   case c1=>exact cell_one_new _ _ _
   case c2=>simp[Value.oneCell']
   case c3=>unfold maxLen;omega
   case c4=>omega
   case c5=>simp;omega
   intro v' w3 hown1 hg1 _;have ho1:w3.ownsRow w.heap.size 2 1 v' (j+1) ((dN S.num (j+1)).map (Value.int .i64)):=by rw[listN_succ,List.map_append];exact hown1
   have hb3:Below w.heap.size w w3:=(hb.alloc hb.size _).grown hg1 (by simp;omega) (λk hk=>(HO.out.lt k hk).1);have HO2:=qd (And.intro ho1 hb3);clear hown1 hg1 ho1 hb3;go_wp2;go_roundw
   case rel=>exact⟨j+1,by omega,by go_num,HO2.out.1,HO2.out.2⟩
   case measure=>simp[intOf];omega
  ·have d1:wr.cell? ⟨I.so,1,none⟩=some (.int .i64 S.cursor):=HR.out.solo.cell 1
   have d3:wr.cell? ⟨I.so,3,none⟩=some (.int .i64 S.next):=HR.out.solo.cell 3;go_wp2
   go_quiet ((go_at_call 39;exact dQ (aD _ _ _ d1)))
   go_wp2
   go_ret3
   have ej:j=I.k:=by omega
   exact⟨_,rfl,by rw[<-ej];exact HO.out,Below.drewN hb nq⟩
end Go.Proofs.Ytlcplealnbekeaa
namespace Go.Proofs.Ytlcplealnbekeaa
open Go.RowKit
theorem qG (f:Nat->Int) (k:Nat) {j:Nat}(h:j<k):eH f k<=f j:=by
 induction k with
 | zero=>omega
 | succ k ih =>
   simp only[eH]
   by_cases e:j=k
   ·subst e;split <;> omega
   ·have:=ih (by omega);split <;> omega
theorem qH (f:Nat->Int) (k:Nat):eH f k=4611686018427387904\/∃ j,j<k/\eH f k=f j:=by
 induction k with
 | zero=>exact .inl rfl
 | succ k ih =>
   simp only[eH]
   split
   ·exact .inr ⟨k,by omega,rfl⟩
   ·rcases ih with h | ⟨j,hj,h⟩
    ·exact .inl h
    ·exact .inr ⟨j,by omega,h⟩
structure Inv (I:Ids) (S:SoloSt) (all:List Int) (rd:Nat->Nat):Prop where
 pos:0<I.n
 low:-1<=S.cached
 next:S.next=all.length
 pub:S.published=(all.length:Int)-1
 cur:S.cursor=(all.length:Int)-1
 num:∀ j,j<I.k->S.num j=(rd j:Int)-1
 place:∀ j,j<I.k->S.place j=(rd j:Int)-1
 le:∀ j,j<I.k->rd j<=all.length
 win:∀ j,j<I.k->all.length<=rd j+I.n
 cached:∀ j,j<I.k->S.cached<=(rd j:Int)-1
 slot:∀ q,q<all.length->all.length<=q+I.n->S.st (q%I.n)=2*((q / I.n:Nat):Int)/\S.va (q%I.n)=all.getD q 0
def fullB (I:Ids) (all:List Int) (rd:Nat->Nat) (c:Nat):Prop:=∃ j,j<I.k/\rd j+I.n<all.length+c
theorem inv_zero {I:Ids}(h:0<I.n):Inv I soloZero [] (λ_=>0):=by
 refine⟨h,Int.le_refl _,rfl,rfl,rfl,λ_ _=>rfl,λ_ _=>rfl,λ_ _=>Nat.le_refl _,λ_ _=>Nat.zero_le _,λ_ _=>Int.le_refl _,λq hq=>?_⟩
 simp at hq
theorem Inv.full {I:Ids}{S:SoloSt}{all:List Int}{rd:Nat->Nat}(H:Inv I S all rd) {c:Nat}(h4:(all.length:Int)+c<=4611686018427387904) :
  (lO I S c<S.next+c-1-I.n ↔ fullB I all rd c):=by
 have hn:=H.next;have hpos:=H.pos;unfold lO fullB
 constructor
 ·intro h
  split at h
  ·rcases qH S.num I.k with e | ⟨j,hj,e⟩
   ·omega
   ·exact ⟨j,hj,by have:=H.num j hj;omega⟩
  ·omega
 ·rintro ⟨j,hj,h⟩
  have h1:=H.cached j hj;have h2:=H.num j hj;have h3:=qG S.num I.k hj
  split <;> omega
theorem Inv.claimed {I:Ids}{S:SoloSt}{all:List Int}{rd:Nat->Nat}(H:Inv I S all rd) (c:Nat):Inv I (bZ I S c) all rd:=by
 refine⟨H.pos,?_,H.next,H.pub,H.cur,H.num,H.place,H.le,H.win,λj hj=>?_,H.slot⟩
 ·show -1<=lO I S c
  unfold lO
  split
  ·rcases qH S.num I.k with e | ⟨j,hj,e⟩
   ·omega
   ·have:=H.num j hj;omega
  ·exact H.low
 show lO I S c<=_
 unfold lO
 split
 ·have:=qG S.num I.k hj;have:=H.num j hj;omega
 ·exact H.cached j hj
theorem putN_slot (I:Ids) (S:SoloSt) (q:Nat) (v:Nat->Int) (c:Nat) (hc:c<=I.n) :
  (∀ i,i<c->(eS I S q v c).st ((q+i)%I.n)=2*(((q+i) / I.n:Nat):Int)/\(eS I S q v c).va ((q+i)%I.n)=v i) /\
  (∀ s,(∀ i,i<c->s≠(q+i)%I.n)->(eS I S q v c).st s=S.st s/\(eS I S q v c).va s=S.va s):=by
 induction c with
 | zero=>exact⟨λi hi=>by omega,λs _=>⟨rfl,rfl⟩⟩
 | succ c ih =>
   obtain⟨h1,h2⟩:=ih (by omega)
   have em:(((q:Int)+(c:Nat))%(I.n:Int)).toNat=(q+c)%I.n:=by
    rw[show (q:Int)+(c:Nat)=((q+c:Nat):Int) from by omega,<-Int.natCast_emod];rfl
   have ed:((q:Int)+(c:Nat)) / (I.n:Int)=(((q+c) / I.n:Nat):Int):=by
    rw[show (q:Int)+(c:Nat)=((q+c:Nat):Int) from by omega,<-Int.natCast_ediv]
   constructor
   ·intro i hi
    simp only[eS,putS,em,ed]
    by_cases e:i=c
    ·subst e;rw[uS,uS];exact⟨rfl,rfl⟩
    ·have hne:(q+i)%I.n≠(q+c)%I.n:=by
      intro e';have h1:=Nat.div_add_mod (q+i) I.n;have h2:=Nat.div_add_mod (q+c) I.n;rw[e'] at h1;have h3:I.n*((q+c) / I.n)-I.n*((q+i) / I.n)=c-i:=by omega
      have h4:I.n*((q+c) / I.n-(q+i) / I.n)=c-i:=by rw[Nat.mul_sub];exact h3
      rcases Nat.eq_zero_or_pos ((q+c) / I.n-(q+i) / I.n) with h5 | h5
      ·rw [h5] at h4;omega
      ·have:=Nat.mul_le_mul_left I.n h5;omega
     rw[uN _ _ hne,uN _ _ hne];exact h1 i (by omega)
   ·intro s hs
    simp only[eS,putS,em,ed];rw[uN _ _ (hs c (by omega)),uN _ _ (hs c (by omega))];exact h2 s (λi hi=>hs i (by omega))
theorem mod_ne {n a b:Nat}(h1:a<b) (h2:b<a+n):a%n≠b%n:=by
 intro e;have h3:=Nat.div_add_mod a n;have h4:=Nat.div_add_mod b n;rw[e] at h3;have h5:n*(b / n-a / n)=b-a:=by rw[Nat.mul_sub];omega
 rcases Nat.eq_zero_or_pos (b / n-a / n) with h6 | h6
 ·rw [h6] at h5;omega
 ·have:=Nat.mul_le_mul_left n h6;omega
theorem Inv.written {I:Ids}{S:SoloSt}{all vs:List Int}{rd:Nat->Nat}(H:Inv I S all rd) {v:Nat->Int}(hv:∀ i,i<vs.length->v i=vs.getD i 0) (h1:0<vs.length) (h2:vs.length<=I.n) (hf:¬fullB I all rd vs.length):Inv I (writeS I S v vs.length) (all++vs) rd:=by
 have hpos:=H.pos;have hn:=H.next;have hcl:=(H.claimed vs.length).cached;have pn:=lJ I { bZ I S vs.length with next:=S.next+vs.length } S.next v vs.length;have ps:=putN_slot I { bZ I S vs.length with next:=S.next+vs.length } all.length v vs.length h2;rw[<-hn] at ps
 have hw:∀ j,j<I.k->all.length+vs.length<=rd j+I.n:=λj hj=>by
  rcases Nat.lt_or_ge (rd j+I.n) (all.length+vs.length) with h | h
  ·exact absurd ⟨j,hj,h⟩ hf
  ·exact h
 refine⟨hpos,?_,?_,?_,?_,λj hj=>?_,λj hj=>?_,λj hj=>?_,λj hj=>?_,λj hj=>?_,λq hq hq2=>?_⟩
 ·show -1<=(eS I _ S.next v vs.length).cached
  rw[pn.2.2.1];exact(H.claimed vs.length).low
 ·show (eS I _ S.next v vs.length).next=_
  rw[pn.1,List.length_append]
  show S.next+(vs.length:Int)=_
  omega
 ·show S.next+(vs.length:Int)-1=_
  rw[List.length_append];omega
 ·show S.next+(vs.length:Int)-1=_
  rw[List.length_append];omega
 ·show (eS I _ S.next v vs.length).num j=_
  rw[pn.2.2.2.2.1];exact H.num j hj
 ·show (eS I _ S.next v vs.length).place j=_
  rw[pn.2.2.2.2.2];exact H.place j hj
 ·have:=H.le j hj;rw[List.length_append];omega
 ·have:=hw j hj;rw[List.length_append];omega
 ·show (eS I _ S.next v vs.length).cached<=_
  rw[pn.2.2.1];exact hcl j hj
 ·rw [List.length_append] at hq hq2
  show (eS I _ S.next v vs.length).st _=_/\(eS I _ S.next v vs.length).va _=_
  by_cases hlt:q<all.length
  ·have:=ps.2 (q%I.n) (λi hi=>by
    exact mod_ne (by omega) (by omega))
   rw[this.1,this.2];have h3:=H.slot q hlt (by omega);rw[List.getD_eq_getElem?_getD,List.getElem?_append_left hlt,<-List.getD_eq_getElem?_getD];exact h3
  ·obtain ⟨i,rfl⟩:∃ i,q=all.length+i:=⟨q-all.length,by omega⟩
   have h3:=ps.1 i (by omega);rw[h3.1,h3.2,hv i (by omega)];refine⟨rfl,?_⟩;rw[List.getD_eq_getElem?_getD,List.getD_eq_getElem?_getD,List.getElem?_append_right (by omega)]
   congr 2;omega
def lP (rd:Nat->Nat) (j m:Nat):Nat->Nat:=λi=>if i=j then rd j+m else rd i
theorem Inv.read {I:Ids}{S:SoloSt}{all:List Int}{rd:Nat->Nat}(H:Inv I S all rd) {j m:Nat}(hj:j<I.k) (hm:rd j+m<=all.length):Inv I (readS S j m) all (lP rd j m):=by
 have hp:=H.place j hj;refine⟨H.pos,H.low,H.next,H.pub,H.cur,λi hi=>?_,λi hi=>?_,λi hi=>?_,λi hi=>?_,λi hi=>?_,H.slot⟩
 ·show uI S.num j (S.place j+m) i=_
  unfold uI lP
  split
  ·omega
  ·exact H.num i hi
 ·show uI S.place j (S.place j+m) i=_
  unfold uI lP
  split
  ·omega
  ·exact H.place i hi
 ·have:=H.le i hi;unfold lP;split <;> omega
 ·have:=H.win i hi;have:=H.win j hj;unfold lP;split <;> omega
 ·have:=H.cached i hi;have:=H.cached j hj;show S.cached<=_;unfold lP;split <;> omega
theorem Inv.vals {I:Ids}{S:SoloSt}{all:List Int}{rd:Nat->Nat}(H:Inv I S all rd) {j m:Nat}(hj:j<I.k) (hm:rd j+m<=all.length) :
  (∀ i,i<m->S.st ((S.place j+1+i)%I.n).toNat=2*((S.place j+1+i) / I.n))/\eM S I.n (S.place j) m=(((all.drop (rd j)).take m).map (Value.int .i64)):=by
 have hp:=H.place j hj;have hw:=H.win j hj
 have em:∀ i:Nat,((S.place j+1+i)%(I.n:Int)).toNat=(rd j+i)%I.n:=λi=>by
  rw[show S.place j+1+(i:Int)=((rd j+i:Nat):Int) from by omega,<-Int.natCast_emod];rfl
 have ed:∀ i:Nat,(S.place j+1+(i:Int)) / (I.n:Int)=(((rd j+i) / I.n:Nat):Int):=λi=>by
  rw[show S.place j+1+(i:Int)=((rd j+i:Nat):Int) from by omega,<-Int.natCast_ediv]
 refine⟨λi hi=>?_,?_⟩
 ·rw [em,ed];exact(H.slot (rd j+i) (by omega) (by omega)).1
 ·apply List.ext_getElem
  ·simp [eM];omega
  ·intro i h1 h2
   simp[eM] at h1
   simp only[eM,List.getElem_map,List.getElem_range,List.getElem_take,List.getElem_drop,em];rw[(H.slot (rd j+i) (by omega) (by omega)).2,List.getD_eq_getElem?_getD,List.getElem?_eq_getElem (by omega)]
   rfl
def SoloIs (w:World) (I:Ids) (all:List Int) (rd:Nat->Nat):Prop:=∃ S,SoloAt w I S/\Inv I S all rd
theorem SoloIs.kept {w w':World}{I:Ids}{all:List Int}{rd:Nat->Nat}{Z:Nat->Prop}(H:SoloIs w I all rd) (hk:Kept Z w w') (h1:¬Z I.so) (h2:¬Z I.rb) (h3:¬Z I.gb) (h4:¬Z I.nb) (h5:¬Z I.pb):SoloIs w' I all rd:=
 let ⟨S,a,b⟩:=H;⟨S,a.kept hk h1 h2 h3 h4 h5,b⟩
def WriteIs (X:Stepper) (t:Nat) (w:World) (I:Ids) (all vs:List Int) (rd:Nat->Nat) (e:Ending) (w':World):Prop:=
 (fullB I all rd vs.length/\e=.returned (.tuple #[.int .i64 0,.int .i64 3])/\SoloIs w' I all rd/\(∃ l,l<=I.k/\X.at_ (t+l) w') \/
  ¬fullB I all rd vs.length/\e=.returned (.tuple #[.int .i64 (all.length:Int),.int .i64 0])/\SoloIs w' I (all++vs) rd/\(∃ l,l<=I.k/\(all.length+vs.length<=I.n->l=0)/\X.at_ (t+l+3*vs.length+1) w')) /\
 Kept (λb=>b=I.so\/b=I.gb\/X.own b) w w'/\w'.heap.size=w.heap.size
theorem mU (X:Stepper) (t:Nat) (w:World) (I:Ids) (W:Walks X I) (all vs:List Int) (rd:Nat->Nat) (H:SoloIs w I all rd) (A:X.at_ t w) (v:Value) (hv:IntsAt w v vs) (h1:0<vs.length) (h2:vs.length<=I.n) (h4:(all.length:Int)+vs.length<=4611686018427387904)
  (hd:∀ a n c,v=.slice (some a) n c->a.block≠I.so/\a.block≠I.gb/\¬X.own a.block) :
  Calls Try.prog 13 #[.pointer (some ⟨I.so,0,none⟩),X.v,v] w (WriteIs X t w I all vs rd):=by
 obtain⟨S,HS,HI⟩:=H;obtain⟨A',c,rfl,hcell⟩:=hv;obtain⟨b,o,rfl,hb,_⟩:=hcell 0 h1;obtain⟨d1,d2,d3⟩:=hd _ _ _ rfl;have hn:=HI.next;have hp:=HI.pub;refine(solo_write X t w I S W HS A b o c vs.length (λi=>vs.getD i 0) h1 h2 (by omega) (by omega) (by omega) (λi hi=>?_) d1 d2 d3 hb).mono ?_
 ·obtain ⟨b',o',e,_,h⟩:=hcell i hi
  injection e with e;injection e with e1 e2;subst e1;subst e2
  exact h
 ·have HF:=HI.full h4
  have hl:mA I S vs.length<=I.k:=by unfold mA;split <;> omega
  have hl0:all.length+vs.length<=I.n->S.cached<S.next+vs.length-1-I.n->False:=λh h'=>by have:=HI.low;omega
  rintro e w' ⟨⟨t1,rfl,H1,a1⟩ | ⟨t1,rfl,H1,a1⟩,hk,hz⟩
  ·exact ⟨.inl ⟨HF.1 t1,rfl,⟨_,H1,HI.claimed _⟩,⟨_,hl,a1⟩⟩,hk,hz⟩
  ·refine ⟨.inr ⟨λh=>t1 (HF.2 h),by rw[hn],⟨_,H1,HI.written (λ_ _=>rfl) h1 h2 (λh=>t1 (HF.2 h))⟩,⟨_,hl,?_,a1⟩⟩,hk,hz⟩
   intro h;exact if_neg (λh'=>hl0 h h')
def BatchIs (X:Stepper) (t:Nat) (w:World) (I:Ids) (all:List Int) (rd:Nat->Nat) (j m:Nat) (e:Ending) (w':World):Prop:=
 ∃ v,e=.returned (.tuple #[v,.int .i64 0])/\w'.ownsRow w.heap.size 2 1 v m (((all.drop (rd j)).take m).map (Value.int .i64))/\SoloIs w' I all (lP rd j m)/\Kept (λb=>b=I.nb\/b=I.pb\/X.own b) w w'/\X.at_ (t+3*m+2) w'
theorem batch_is (X:Stepper) (t:Nat) (w:World) (I:Ids) (W:Walks X I) (all:List Int) (rd:Nat->Nat) (H:SoloIs w I all rd) (A:X.at_ t w) (j m:Nat) (mo:Int) (hj:j<I.k) (hm:0<m) (h2:rd j+m<=all.length) (h3:(all.length:Int)<=4611686018427387904)
  (hmo:m<=max mo 1) (hend:rd j+m=all.length\/max mo 1=m) :
  Calls Try.prog 15 #[.pointer (some ⟨I.so,0,none⟩),X.v,.int .i64 j,.int .i64 mo] w (BatchIs X t w I all rd j m):=by
 obtain⟨S,HS,HI⟩:=H;have hp:=HI.place j hj;have hc:=HI.cur;have hw:=HI.win j hj;have hv:=HI.vals hj h2;refine(solo_batch X t w I S W HS A j m mo hj hm (by omega) (by omega) (by omega) (by omega) hmo (hend.elim (λe=>.inl (by omega)) .inr) hv.1).mono ?_;rintro e w' ⟨v,rfl,ho,hs,hk,ha⟩;exact⟨v,rfl,by rw[<-hv.2];exact ho,⟨_,hs,HI.read hj h2⟩,hk,ha⟩
def StateIs (w:World) (I:Ids) (all:List Int) (rd:Nat->Nat) (e:Ending) (w':World):Prop:=
 ∃ v,e=.returned (.tuple #[.int .i64 (all.length:Int),.int .i64 ((all.length:Int)-1),v])/\w'.ownsRow w.heap.size 2 1 v I.k ((dN (λj=>(rd j:Int)-1) I.k).map (Value.int .i64))/\Below w.heap.size w w'
theorem state_is (w:World) (I:Ids) (all:List Int) (rd:Nat->Nat) (H:SoloIs w I all rd):Calls Try.prog 16 #[.pointer (some ⟨I.so,0,none⟩)] w (StateIs w I all rd):=by
 obtain⟨S,HS,HI⟩:=H;refine(nF w I S HS).mono ?_;rintro e w' ⟨v,rfl,ho,hb⟩;refine⟨v,by rw[HI.next,HI.cur],?_,hb⟩
 have : dN S.num I.k=dN (λj=>(rd j:Int)-1) I.k:=by
  apply List.map_congr_left;intro j hj;exact HI.num j (by simpa using hj)
 rw[<-this];exact ho
theorem read_is (X:Stepper) (t:Nat) (w:World) (I:Ids) (W:Walks X I) (all:List Int) (rd:Nat->Nat) (H:SoloIs w I all rd) (A:X.at_ t w) (j:Nat) (hj:j<I.k) (h2:rd j+1<=all.length) (h3:(all.length:Int)<=4611686018427387904) :
  Calls Try.prog 14 #[.pointer (some ⟨I.so,0,none⟩),X.v,.int .i64 j] w λe w'=>e=.returned (.tuple #[.int .i64 (all.getD (rd j) 0),.int .i64 0])/\SoloIs w' I all (lP rd j 1)/\Kept (λb=>b=I.nb\/b=I.pb\/X.own b) w w'/\X.at_ (t+5) w':=by
 have HH:=qd H;have HA:=qd A;clear H A
 go_enter Try.func14,Try.ntmps14
 go_wp2_with fail
 refine(batch_is X t w I W all rd HH.out HA.out j 1 1 hj (by omega) h2 h3 (by simp) (.inr (by simp))).mono ?_;rintro e w' ⟨v,rfl,ho,hs,hk,ha⟩
 have he:(all.drop (rd j)).take 1=[all.getD (rd j) 0]:=by
  rw[List.drop_eq_getElem_cons (by omega),List.take_succ_cons,List.take_zero,List.getD_eq_getElem?_getD,List.getElem?_eq_getElem (by omega)]
  rfl
 rw[he] at ho;obtain⟨g,cap,rfl⟩:=Joins.ownsRow_form ho (by omega);have hc:=ho.cellAt 0 (by omega);have HX:=qd (And.intro hs (And.intro hk ha));simp only[List.map_cons,List.map_nil,List.getElem?_cons_zero] at hc;clear ho he hs hk ha;go_wp2
 go_ret2
 exact⟨rfl,HX.out.1,HX.out.2.1,HX.out.2.2⟩
end Go.Proofs.Ytlcplealnbekeaa
namespace Go.Proofs.Ytlcplealnbekeaa
open Go.RowKit
theorem wrap_succ (k:Nat):IntKind.wrap .i64 (IntKind.wrap .i64 (k:Int)+1)=IntKind.wrap .i64 ((k+1:Nat):Int):=by
 simp only[IntKind.wrap_i64];omega
def cO (c:Nat):Stepper where
 v:=.iface 54 (.pointer (some ⟨c,0,none⟩))
 own:=λb=>b=c
 at_:=λk w=>Blk w c 56 #[.int .i64 (IntKind.wrap .i64 k)]
 keep:=λh hk hz=>h.kept hk (hz _ rfl)
 old:=λh e=>e▸h.lt
theorem step_one (c k:Nat) (w:World) (h:Blk w c 56 #[.int .i64 (IntKind.wrap .i64 k)]):Calls Try.prog 91 #[.pointer (some ⟨c,0,none⟩)] w λe w'=>e=.returned (.tuple #[])/\w.setCell ⟨c,0,none⟩ (.int .i64 (IntKind.wrap .i64 ((k+1:Nat):Int)))=w':=by
 have hc:=h.cell 0;have hf:=h.frozen 0;rw[<-wrap_succ];simp only[List.getElem?_toArray,List.getElem?_cons_zero] at hc;generalize IntKind.wrap .i64 (k:Int)=x at *;clear h
 go_enter Try.func91,Try.ntmps91
 go_wp2
 go_end0
 exact⟨rfl,by rw[IntWalk.i64_left]⟩
theorem lZ (n:Nat) (a:Addr) (w:World):(method (n+1) 54 (.pointer (some a)) "Step").run Try.prog w=.ok (91,.pointer (some a)) w:=by kernel_rfl
theorem pD (c:Nat):(cO c).Steps Try.prog 63:=by
 intro k w h;have h':Blk w c 56 #[.int .i64 (IntKind.wrap .i64 k)]:=h;have HH:=qd h';have hm:=λwx=>lZ 269 ⟨c,0,none⟩ wx;clear h h'
 show Calls _ _ #[.iface 54 (.pointer (some ⟨c,0,none⟩))] _ _
 go_enter Try.func63,Try.ntmps63
 go_wp2_with (go_at_call 91;refine(step_one _ _ _ HH.out).mono ?_;rintro e w' ⟨rfl,rfl⟩)
 go_end0
 exact⟨rfl,HH.out.set_ 0 _,Kept.setCell _ (by rfl) _,by simp⟩
theorem rW (c:Nat):(cO c).Steps Try.prog 38:=by
 intro k w h;have h':Blk w c 56 #[.int .i64 (IntKind.wrap .i64 k)]:=h;have HH:=qd h';have hm:=λwx=>lZ 269 ⟨c,0,none⟩ wx;clear h h'
 show Calls _ _ #[.iface 54 (.pointer (some ⟨c,0,none⟩))] _ _
 go_enter Try.func38,Try.ntmps38
 go_wp2_with (go_at_call 91;refine(step_one _ _ _ HH.out).mono ?_;rintro e w' ⟨rfl,rfl⟩)
 go_end0
 exact⟨rfl,HH.out.set_ 0 _,Kept.setCell _ (by rfl) _,by simp⟩
theorem oZ {I:Ids}{c:Nat}(h:c≠I.so/\c≠I.rb/\c≠I.gb/\c≠I.nb/\c≠I.pb):Walks (cO c) I:=
 ⟨pD c,rW c,λe=>h.1 e.symm,λe=>h.2.1 e.symm,λe=>h.2.2.1 e.symm,λe=>h.2.2.2.1 e.symm,λe=>h.2.2.2.2 e.symm⟩
theorem SoloAt.lts {w:World}{I:Ids}{S:SoloSt}(H:SoloAt w I S):I.so<w.heap.size/\I.rb<w.heap.size/\I.gb<w.heap.size/\I.nb<w.heap.size/\I.pb<w.heap.size:=⟨H.solo.lt,H.ring.rlt,H.ring.glt,H.nums.lt,H.places.lt⟩
theorem SoloIs.lts {w:World}{I:Ids}{all:List Int}{rd:Nat->Nat}(H:SoloIs w I all rd):I.so<w.heap.size/\I.rb<w.heap.size/\I.gb<w.heap.size/\I.nb<w.heap.size/\I.pb<w.heap.size:=H.elim λ_ h=>h.1.lts
theorem SoloIs.alloc {w:World}{I:Ids}{all:List Int}{rd:Nat->Nat}(H:SoloIs w I all rd) (o:Obj):SoloIs (w.alloc o) I all rd:=H.kept (Z:=λ_=>False) (Kept.alloc _ _) id id id id id
theorem SoloIs.later {w w':World}{I:Ids}{all:List Int}{rd:Nat->Nat}{B:Nat}(H:SoloIs w I all rd) (hk:Kept (λb=>B<=b) w w') (hB:w.heap.size<=B):SoloIs w' I all rd:=
 have l:=H.lts
 H.kept hk (by omega) (by omega) (by omega) (by omega) (by omega)
theorem iX (w:World) (xs:List Int) (n:Nat) (h:xs.length=n) (t:TypeId):IntsAt (w.alloc (.cells (xs.map (Value.int .i64)).toArray t)) (.slice (some ⟨w.heap.size,0,none⟩) n n) xs:=by
 subst h;refine⟨_,_,rfl,λi hi=>⟨_,_,rfl,by simp,?_⟩⟩;have b:=(Blk.new w t (xs.map (Value.int .i64)).toArray).cell (0+i);rw[b,Nat.zero_add]
 simp[List.getD_eq_getElem?_getD,List.getElem?_eq_getElem hi]
def TrueBelow (w:World) (e:Ending) (w':World):Prop:=e=.returned (.bool true)/\Below w.heap.size w w'
theorem writes_true (w:World):Calls Try.prog 6 #[] w (TrueBelow w):=by
 go_enter Try.func6,Try.ntmps6
 go_wp2_with fail
 refine(solo_new 2 1 w (by omega) (by omega) (by omega) (by decide)).mono ?_;rintro e w1 ⟨I,en,ek,l1,l2,l3,l4,l5,rfl,HS,hb⟩;have HI:SoloIs w1 I [] (λ_=>0):=⟨_,HS,inv_zero (by omega)⟩;have lt1:=HI.lts;have HN:=qd (And.intro en ek);have H1:=qd HI;have hw1:w.heap.size<=w1.heap.size:=hb.size;have HB:=qd hb;have W:=oZ (I:=I) (c:=w1.heap.size) (by omega);clear en ek HS HI hb
 go_wp2_with fail
 have wrote:∀ b,(b=I.so\/b=I.gb\/(cO w1.heap.size).own b)->w.heap.size<=b:=λb hb=>by rcases hb with h | h | h <;> first | omega |(simp only[cO] at h;omega)
 have reads:∀ b,(b=I.nb\/b=I.pb\/(cO w1.heap.size).own b)->w.heap.size<=b:=λb hb=>by rcases hb with h | h | h <;> first | omega |(simp only[cO] at h;omega)
-- Write(s,7,8)
 have a0:(cO w1.heap.size).at_ 0 ((w1.alloc (.cells #[.int .i64 0] 56)).alloc (.cells #[.int .i64 7,.int .i64 8] 2)):=(Blk.new w1 56 #[.int .i64 0]).alloc _;have v0:=iX (w1.alloc (.cells #[.int .i64 0] 56)) [7,8] 2 rfl 2;rw[World.size_alloc] at v0;refine(mU (cO w1.heap.size) 0 _ I W [] [7,8] (λ_=>0) ((H1.out.alloc _).alloc _) a0 _ v0 (by simp) (by have:=HN.out;simp;omega) (by simp) (λa n c e=>by cases e;exact⟨by dsimp only;omega,by dsimp only;omega,λe=>by simp[cO] at e⟩)).mono ?_;rintro e w2 ⟨⟨hf,_⟩ | ⟨hf,rfl,H2,l,hl,hl0,a2⟩,k2,z2⟩
 ·exfalso; obtain⟨j,hj,h⟩:=hf;have:=HN.out;simp at h;omega
 have e0:l=0:=hl0 (by have:=HN.out;simp;omega);subst e0;have c2:w2.cell? ⟨w1.heap.size,0,none⟩=some (.int .i64 7):=Blk.cell a2 0;have Z2:w1.heap.size+2<=w2.heap.size:=by rw[z2];simp
 have B2:=qd (HB.out.trans (((Kept.alloc (S:=λb=>b=I.so\/b=I.gb\/(cO w1.heap.size).own b) w1 (.cells #[.int .i64 0] 56)).trans ((Kept.alloc _ (.cells #[.int .i64 7,.int .i64 8] 2)).trans k2)).to_below (B:=w.heap.size) wrote hw1));have HH2:=qd H2;have A2:=qd a2;clear a0 v0 hf hl hl0 z2 k2 a2 H2;have wrote':=qd wrote;have reads':=qd reads;clear wrote reads
 go_wp2_with fail
-- Write(s,9): full
 have v0:=iX w2 [9] 1 rfl 2;refine(mU (cO w1.heap.size) 7 _ I W [7,8] [9] (λ_=>0) (HH2.out.alloc _) (Blk.alloc A2.out _) _ v0 (by simp) (by have:=HN.out;simp;omega) (by simp) (λa n c e=>by cases e;exact⟨by dsimp only;omega,by dsimp only;omega,λe=>by simp[cO] at e;omega⟩)).mono ?_;rintro e w3 ⟨⟨hf,rfl,H3,l,hl,a3⟩ | ⟨hf,_⟩,k3,z3⟩
 rotate_left
 ·exfalso; apply hf;refine⟨0,?_,?_⟩
  ·have:=HN.out; omega
  ·have:=HN.out; simp;omega
 have B3:=qd (B2.out.trans (((Kept.alloc _ (.cells #[.int .i64 9] 2)).trans k3).to_below wrote'.out (by omega)));have Z3:w2.heap.size+1<=w3.heap.size:=by rw[z3];simp
 have HH3:=qd H3;have A3:=qd a3;clear v0 hf hl z3 k3 a3 H3 c2
 go_wp2_with fail
-- Read(s,0)
 refine(read_is (cO w1.heap.size) _ _ I W [7,8] (λ_=>0) HH3.out A3.out 0 (by have:=HN.out;omega) (by simp) (by simp)).mono ?_;rintro e w4 ⟨rfl,H4,k4,a4⟩;have B4:=qd (B3.out.trans (k4.to_below reads'.out (by omega)));have Z4:w3.heap.size<=w4.heap.size:=k4.size;have HH4:=qd H4;have A4:=qd a4;clear k4 a4 H4
 go_wp2_with fail
-- Write(s,9)
 have v0:=iX w4 [9] 1 rfl 2;refine(mU (cO w1.heap.size) _ _ I W [7,8] [9] _ (HH4.out.alloc _) (Blk.alloc A4.out _) _ v0 (by simp) (by have:=HN.out;simp;omega) (by simp) (λa n c e=>by cases e;exact⟨by dsimp only;omega,by dsimp only;omega,λe=>by simp[cO] at e;omega⟩)).mono ?_;rintro e w5 ⟨⟨hf,_⟩ | ⟨hf,rfl,H5,l',hl,hl0,a5⟩,k5,z5⟩
 ·exfalso; obtain⟨j,hj,h⟩:=hf;have:=HN.out;have e:j=0:=by omega
  subst e;simp[lP] at h;omega
 have B5:=qd (B4.out.trans (((Kept.alloc _ (.cells #[.int .i64 9] 2)).trans k5).to_below wrote'.out (by omega)));have Z5:w4.heap.size+1<=w5.heap.size:=by rw[z5];simp
 have HH5:=qd H5;have A5:=qd a5;clear v0 hf hl hl0 z5 k5 a5 H5
 go_wp2_with fail
-- Batch(s,0,9)
 refine(batch_is (cO w1.heap.size) _ _ I W _ _ HH5.out A5.out 0 2 9 (by have:=HN.out;omega) (by omega) (by simp[lP]) (by simp) (by decide) (.inl (by simp[lP]))).mono ?_;rintro e w6 ⟨v6,rfl,o6,H6,k6,a6⟩;have B6:=qd (B5.out.trans (k6.to_below reads'.out (by omega)));have Z6:w5.heap.size<=w6.heap.size:=k6.size;have V6:=qd (show IntsAt w6 v6 [8,9] from IntsAt.of_own o6);have O6:=qd o6;have HH6:=qd H6;clear k6 a6 H6 o6
 go_wp2_with fail
 refine(state_is _ I _ _ HH6.out).mono ?_;rintro e w7 ⟨v7,rfl,o7,b7⟩;have B7:=qd (B6.out.trans (b7.mono (by omega)))
 have V7:=qd (show IntsAt w7 v7 [2] from by
  have e:dN (λj=>((lP (lP (λ_=>0) 0 1) 0 2 j:Nat):Int)-1) I.k=[2]:=by rw[HN.out.2];rfl
  rw[e] at o7;exact IntsAt.of_own o7)
 have Z7:w6.heap.size<=w7.heap.size:=b7.size;have V6':=qd (V6.out.kept (Kept.of_below (S:=λ_=>False) b7) (λ_ _ _ _ h=>h));clear o7 b7
 go_wp2_with fail
 have v0:=iX w7 [8,9] 2 rfl 2;refine(kI _ _ _ _ _ (V6'.out.kept (Kept.alloc (S:=λ_=>False) _ _) (λ_ _ _ _ h=>h)) v0 (by unfold maxLen;simp)).mono ?_;rintro e w8 ⟨rfl,k8,h8⟩;have V8:=qd (show IntsAt w8 v7 [2] from h8▸V7.out.kept ((Kept.alloc (S:=λ_=>False) _ _).trans (Kept.drewN _ _ _)) (λ_ _ _ _ h=>h));have B8:=qd (show Below w.heap.size w w8 from h8▸Below.drewN (B7.out.alloc (by omega) _) k8);have Z8:w7.heap.size+1<=w8.heap.size:=by rw[<-h8];simp
 clear v0 h8;have ed:decide (([8,9]:List Int)=[8,9])=true:=rfl;rw[ed];clear ed
 go_wp2_with fail
 have v0:=iX w8 [2] 1 rfl 2;refine(kI _ _ _ _ _ (V8.out.kept (Kept.alloc (S:=λ_=>False) _ _) (λ_ _ _ _ h=>h)) v0 (by unfold maxLen;simp)).mono ?_;rintro e w9 ⟨rfl,k9,h9⟩;have B9:=qd (show Below w.heap.size w w9 from h9▸Below.drewN (B8.out.alloc (by omega) _) k9);clear h9;have ed:decide (([2]:List Int)=[2])=true:=rfl;rw[ed];clear ed v0;go_wp2;go_ret;exact⟨rfl,B9.out⟩
end Go.Proofs.Ytlcplealnbekeaa
namespace Go.Proofs.Ytlcplealnbekeaa
open Go.RowKit
def fE (I:Ids) (S:SoloSt):List Int:=[S.next,S.cursor]++dN S.num I.k++fL S.st I.n++fL S.va I.n
theorem own_two (w:World) (a b:Int) (base:Nat) (hb:base<=w.heap.size):(w.alloc (.cells #[.int .i64 a,.int .i64 b] 2)).ownsRow base 2 1 (.slice (some ⟨w.heap.size,0,none⟩) 2 2) 2 [.int .i64 a,.int .i64 b]:=
 ⟨rfl,.inr ⟨w.heap.size,2,#[.int .i64 a,.int .i64 b],rfl,hb,Blk.new w _ _,by omega,by unfold maxLen;omega,rfl,rfl⟩⟩
theorem solo_stateR (w:World) (I:Ids) (S:SoloSt) (H:SoloAt w I S):Calls Try.prog 21 #[.pointer (some ⟨I.so,0,none⟩)] w (sE w (2+I.k+I.n+I.n) (fE I S)):=by
 have hk:=H.most;have hn:=H.ring.pos;have h2:=H.ring.most;have HH:=qd H;obtain⟨i0,hi0,hz0,hz1,hz2⟩:=info_parts Try.intInfo;clear H
 go_enter Try.func21,Try.ntmps21
 go_wp2_with fail
 refine(nF w I S HH.out).mono ?_;rintro e w1 ⟨nv,rfl,on,bn⟩;obtain⟨An,cn,rfl⟩:=aQ on;have HO:=qd (And.intro on bn);clear on bn;have o2:=own_two w1 S.next S.cursor w.heap.size HO.out.2.size;have b2:Below w.heap.size w (w1.alloc (.cells #[.int .i64 S.next,.int .i64 S.cursor] 2)):=HO.out.2.alloc HO.out.2.size _;have ok:(w1.alloc (.cells #[.int .i64 S.next,.int .i64 S.cursor] 2)).ownsRow w.heap.size 2 1 (.slice An I.k cn) I.k ((dN S.num I.k).map (Value.int .i64)):=dI HO.out.1 (Kept.alloc (S:=λ_=>False) w1 _) (λ_ _ h=>h);have hz:=b2.size
 rcases HO.out.1.2 with⟨e,hk0⟩ | ⟨g2,cap,cur,e,hg2,hh2,hc2,_⟩
 ·rw [hk0] at e
  simp only[Value.slice.injEq] at e;obtain⟨rfl,-,rfl⟩:=e;have HX:=qd (And.intro o2 b2);have e0:(Value.slice none I.k 0)=.slice none 0 0:=by rw[hk0]
  have ez:2+I.k+I.n+I.n=2+I.n+I.n:=by omega
  have hl0:dN S.num I.k=[]:=by rw[hk0];rfl
  clear o2 ok b2 HO hz
  go_wp2_with (at_builtin;refine wpList_append_own_none rfl _ _ 29 rfl w.heap.size 2 i0 1 Try.underlying29 hi0 _ _ _ rfl HX.out.1 (by exact e0) ?_)
  have k4:(w1.alloc (.cells #[.int .i64 S.next,.int .i64 S.cursor] 2)).ownsRow w.heap.size 2 1 (.slice (some ⟨w1.heap.size,0,none⟩) 2 2) 2 (([S.next,S.cursor]++dN S.num I.k).map (Value.int .i64)):=by rw[hl0];exact HX.out.1
  have hb3:=HX.out.2;have HO:=qd (And.intro k4 hb3);clear k4 hb3 HX hl0 hk0 e0;generalize w1.alloc (.cells #[.int .i64 S.next,.int .i64 S.cursor] 2)=w3 at HO ⊢;generalize w1.heap.size=g3 at HO ⊢;rename_i K0 hK0;refine strictL ?_;refine wp_region_held (S:=Below w.heap.size w) (by kernel_rfl) ?_;simp only[List.size_toArray,List.length_cons,List.length_nil,Nat.reduceAdd];have kd:(({ w3 with drawn:=w3.drawn+1 }:World)).ownsRow w.heap.size 2 1 (.slice (some ⟨g3,0,none⟩) (2) 2) (2) (([S.next,S.cursor]++dN S.num I.k).map (Value.int .i64)):=HO.out.1;have bd:Below w.heap.size w ({ w3 with drawn:=w3.drawn+1 }:World):=Below.drewN HO.out.2 1;generalize ({ w3 with drawn:=w3.drawn+1 }:World)=wd at kd bd ⊢;have HD:=qd (And.intro kd bd);clear kd bd HO
  iterate 9
   first
   | refine rdL 0 13 18 ?_
   | refine rdL 1 12 19 ?_
   | refine rdL 2 11 20 ?_
   | refine rdL 3 10 21 ?_
   | refine rdL 4 9 22 ?_
   | refine rdL 7 8 25 ?_
   | refine rdL 8 7 26 ?_
   | refine rdL 9 6 27 ?_
   | refine rdL 10 5 28 ?_
   refine⟨_,rfl,rfl,by kernel_rfl,by kernel_rfl,by kernel_rfl,(λc a w h=>by cases h.1),rfl,HD.out.2,?_⟩;apply Exists.intro;refine⟨λwq hw=>?_,?_⟩
   ·have c0:=(HH.out.solo.kept (Kept.of_below (S:=λ_=>False) hw) id).cell 0
    simp only[aT,List.getElem?_toArray,List.getElem?_cons_zero] at c0;go_simp
    rfl
   simp only[Act.put,zA]
  refine cW (i:=5) (fuel:=4) (by kernel_rfl) rfl rfl λK' hK'=>?_;unfold Oper.wp;go_simp;refine(pL wd I.rb I.gb I.n S.st S.va (HH.out.ring.kept (Kept.of_below (S:=λ_=>False) HD.out.2) id id)).mono ?_;rintro e w4 ⟨v4,rfl,o4,b4⟩;dsimp only;obtain⟨A4,c4,rfl⟩:=aQ o4;obtain⟨g4,rfl,hg4,hl4⟩:=kJ o4 hn;have hc4:=mL o4;have z4:=HD.out.2.size;have z5:=b4.size;have o3':=dI HD.out.1 (Kept.of_below (S:=λ_=>False) b4) (λ_ _ h=>h);have B4:=HD.out.2.trans (b4.mono z4);refine hK' _ _ B4 ?_;clear hK' K';have H4:=qd (And.intro o3' (And.intro o4 B4));clear o3' o4 B4 b4 HD
  try simp only[Act.put,zA]
  refine cW (i:=6) (fuel:=3) (by kernel_rfl) rfl rfl λK' hK'=>?_;refine wp_append_own w4 _ _ 29 rfl w.heap.size 2 i0 (.int .i64 0) 1 8 Try.underlying29 hi0 hz0 hz1 hz2 rfl (by decide) _ _ _ rfl H4.out.1 ⟨g4,0,none⟩ I.n c4 ((fL S.st I.n).map (Value.int .i64)) rfl (by simp[fL]) (dJ H4.out.2.1) (by simp[Value.oneCell']) (by unfold maxLen;omega) (by omega) (by omega) ?_;intro v5 w5 hown hgrow hl5;have k5:w5.ownsRow w.heap.size 2 1 v5 (2+I.n) (([S.next,S.cursor]++dN S.num I.k++fL S.st I.n).map (Value.int .i64)):=by rw[List.map_append];exact hown
  have B5:=(H4.out.2.2).grown hgrow (by omega) (λk hk=>(H4.out.1.lt k hk).1);refine hK' _ _ B5 ?_;clear hK' K' hown hgrow hl5;obtain⟨A5,c5,rfl⟩:=aQ k5;have H5:=qd (And.intro k5 B5);clear k5 B5 H4 hg4 hl4 hc4 z4 z5
  try simp only[Act.put,zA]
  refine cW (i:=11) (fuel:=2) (by kernel_rfl) rfl rfl λK' hK'=>?_;unfold Oper.wp;go_simp;refine(pI w5 I.rb I.gb I.n S.st S.va (HH.out.ring.kept (Kept.of_below (S:=λ_=>False) H5.out.2) id id)).mono ?_;rintro e w6 ⟨v6,rfl,o6,b6⟩;dsimp only;obtain⟨A6,c6,rfl⟩:=aQ o6;obtain⟨g6,rfl,hg6,hl6⟩:=kJ o6 hn;have hc6:=mL o6;have z4:=H5.out.2.size;have z5:=b6.size;have o5':=dI H5.out.1 (Kept.of_below (S:=λ_=>False) b6) (λ_ _ h=>h);have B6:=H5.out.2.trans (b6.mono z4);refine hK' _ _ B6 ?_;clear hK' K';have H6:=qd (And.intro o5' (And.intro o6 B6));clear o5' o6 B6 b6 H5
  try simp only[Act.put,zA]
  refine cW (i:=12) (fuel:=1) (by kernel_rfl) rfl rfl λK' hK'=>?_;refine wp_append_own w6 _ _ 29 rfl w.heap.size 2 i0 (.int .i64 0) 1 8 Try.underlying29 hi0 hz0 hz1 hz2 rfl (by decide) _ _ _ rfl H6.out.1 ⟨g6,0,none⟩ I.n c6 ((fL S.va I.n).map (Value.int .i64)) rfl (by simp[fL]) (dJ H6.out.2.1) (by simp[Value.oneCell']) (by unfold maxLen;omega) (by omega) (by omega) ?_;intro v7 w7 hown hgrow hl7;have k7:w7.ownsRow w.heap.size 2 1 v7 (2+I.n+I.n) ((fE I S).map (Value.int .i64)):=by unfold fE;rw[List.map_append];exact hown
  have B7:=(H6.out.2.2).grown hgrow (by omega) (λk hk=>(H6.out.1.lt k hk).1);refine hK' _ _ B7 ?_;clear hK' K' hown hgrow hl7;obtain⟨A7,c7,rfl⟩:=aQ k7;have H7:=qd (And.intro k7 B7);clear k7 B7 H6 hg6 hl6 hc6 z4 z5
  try simp only[Act.put,zA]
  refine cW (i:=13) (fuel:=0) (by kernel_rfl) rfl rfl λK' hK'=>?_;unfold Oper.wp;go_simp;refine hK' _ _ H7.out.2 ?_;clear hK' K';refine wpAnyH_done (by kernel_rfl) ⟨rfl,?_⟩ _;refine hK0 _ _ ?_;go_wp2;go_ret;exact⟨_,rfl,by rw[ez];exact H7.out.1,H7.out.2⟩
 ·simp only [Value.slice.injEq] at e
  obtain⟨rfl,-,rfl⟩:=e;have HX:=qd (And.intro o2 (And.intro ok b2));clear o2 ok b2 HO
  go_wp2_with (at_builtin;refine wpList_append_own _ rfl _ _ 29 rfl w.heap.size 2 i0 (.int .i64 0) 1 8 Try.underlying29 hi0 hz0 hz1 hz2 rfl (by decide) _ _ _ rfl HX.out.1 ⟨g2,0,none⟩ I.k cn ((dN S.num I.k).map (Value.int .i64)) rfl (by simp[dN]) ?c1 ?c2 ?c3 ?c4 ?c5 ?_)
  case c1=>exact dJ HX.out.2.1
  case c2=>simp[Value.oneCell']
  case c3=>unfold maxLen;omega
  case c4=>omega
  case c5=>exact hz
  intro v3 w3 hown hgrow hl3;have k4:w3.ownsRow w.heap.size 2 1 v3 (2+I.k) (([S.next,S.cursor]++dN S.num I.k).map (Value.int .i64)):=by rw[List.map_append];exact hown
  have hb3:=(HX.out.2.2).grown hgrow hz (λk hk=>(HX.out.1.lt k hk).1);clear hown hgrow hl3;obtain⟨A3,c3,rfl⟩:=aQ k4;have HO:=qd (And.intro k4 hb3);clear k4 hb3 HX hz hg2 hh2 hc2
  go_wp2_with fail
  rename_i K0 hK0;refine strictL ?_;refine wp_region_held (S:=Below w.heap.size w) (by kernel_rfl) ?_;simp only[List.size_toArray,List.length_cons,List.length_nil,Nat.reduceAdd];have kd:(({ w3 with drawn:=w3.drawn+1 }:World)).ownsRow w.heap.size 2 1 (.slice A3 (2+I.k) c3) (2+I.k) (([S.next,S.cursor]++dN S.num I.k).map (Value.int .i64)):=HO.out.1;have bd:Below w.heap.size w ({ w3 with drawn:=w3.drawn+1 }:World):=Below.drewN HO.out.2 1;generalize ({ w3 with drawn:=w3.drawn+1 }:World)=wd at kd bd ⊢;have HD:=qd (And.intro kd bd);clear kd bd HO
  iterate 9
   first
   | refine rdL 0 13 18 ?_
   | refine rdL 1 12 19 ?_
   | refine rdL 2 11 20 ?_
   | refine rdL 3 10 21 ?_
   | refine rdL 4 9 22 ?_
   | refine rdL 7 8 25 ?_
   | refine rdL 8 7 26 ?_
   | refine rdL 9 6 27 ?_
   | refine rdL 10 5 28 ?_
   refine⟨_,rfl,rfl,by kernel_rfl,by kernel_rfl,by kernel_rfl,(λc a w h=>by cases h.1),rfl,HD.out.2,?_⟩;apply Exists.intro;refine⟨λwq hw=>?_,?_⟩
   ·have c0:=(HH.out.solo.kept (Kept.of_below (S:=λ_=>False) hw) id).cell 0
    simp only[aT,List.getElem?_toArray,List.getElem?_cons_zero] at c0;go_simp
    rfl
   simp only[Act.put,zA]
  refine cW (i:=5) (fuel:=4) (by kernel_rfl) rfl rfl λK' hK'=>?_;unfold Oper.wp;go_simp;refine(pL wd I.rb I.gb I.n S.st S.va (HH.out.ring.kept (Kept.of_below (S:=λ_=>False) HD.out.2) id id)).mono ?_;rintro e w4 ⟨v4,rfl,o4,b4⟩;dsimp only;obtain⟨A4,c4,rfl⟩:=aQ o4;obtain⟨g4,rfl,hg4,hl4⟩:=kJ o4 hn;have hc4:=mL o4;have z4:=HD.out.2.size;have z5:=b4.size;have o3':=dI HD.out.1 (Kept.of_below (S:=λ_=>False) b4) (λ_ _ h=>h);have B4:=HD.out.2.trans (b4.mono z4);refine hK' _ _ B4 ?_;clear hK' K';have H4:=qd (And.intro o3' (And.intro o4 B4));clear o3' o4 B4 b4 HD
  try simp only[Act.put,zA]
  refine cW (i:=6) (fuel:=3) (by kernel_rfl) rfl rfl λK' hK'=>?_;refine wp_append_own w4 _ _ 29 rfl w.heap.size 2 i0 (.int .i64 0) 1 8 Try.underlying29 hi0 hz0 hz1 hz2 rfl (by decide) _ _ _ rfl H4.out.1 ⟨g4,0,none⟩ I.n c4 ((fL S.st I.n).map (Value.int .i64)) rfl (by simp[fL]) (dJ H4.out.2.1) (by simp[Value.oneCell']) (by unfold maxLen;omega) (by omega) (by omega) ?_;intro v5 w5 hown hgrow hl5;have k5:w5.ownsRow w.heap.size 2 1 v5 (2+I.k+I.n) (([S.next,S.cursor]++dN S.num I.k++fL S.st I.n).map (Value.int .i64)):=by rw[List.map_append];exact hown
  have B5:=(H4.out.2.2).grown hgrow (by omega) (λk hk=>(H4.out.1.lt k hk).1);refine hK' _ _ B5 ?_;clear hK' K' hown hgrow hl5;obtain⟨A5,c5,rfl⟩:=aQ k5;have H5:=qd (And.intro k5 B5);clear k5 B5 H4 hg4 hl4 hc4 z4 z5
  try simp only[Act.put,zA]
  refine cW (i:=11) (fuel:=2) (by kernel_rfl) rfl rfl λK' hK'=>?_;unfold Oper.wp;go_simp;refine(pI w5 I.rb I.gb I.n S.st S.va (HH.out.ring.kept (Kept.of_below (S:=λ_=>False) H5.out.2) id id)).mono ?_;rintro e w6 ⟨v6,rfl,o6,b6⟩;dsimp only;obtain⟨A6,c6,rfl⟩:=aQ o6;obtain⟨g6,rfl,hg6,hl6⟩:=kJ o6 hn;have hc6:=mL o6;have z4:=H5.out.2.size;have z5:=b6.size;have o5':=dI H5.out.1 (Kept.of_below (S:=λ_=>False) b6) (λ_ _ h=>h);have B6:=H5.out.2.trans (b6.mono z4);refine hK' _ _ B6 ?_;clear hK' K';have H6:=qd (And.intro o5' (And.intro o6 B6));clear o5' o6 B6 b6 H5
  try simp only[Act.put,zA]
  refine cW (i:=12) (fuel:=1) (by kernel_rfl) rfl rfl λK' hK'=>?_;refine wp_append_own w6 _ _ 29 rfl w.heap.size 2 i0 (.int .i64 0) 1 8 Try.underlying29 hi0 hz0 hz1 hz2 rfl (by decide) _ _ _ rfl H6.out.1 ⟨g6,0,none⟩ I.n c6 ((fL S.va I.n).map (Value.int .i64)) rfl (by simp[fL]) (dJ H6.out.2.1) (by simp[Value.oneCell']) (by unfold maxLen;omega) (by omega) (by omega) ?_;intro v7 w7 hown hgrow hl7;have k7:w7.ownsRow w.heap.size 2 1 v7 (2+I.k+I.n+I.n) ((fE I S).map (Value.int .i64)):=by unfold fE;rw[List.map_append];exact hown
  have B7:=(H6.out.2.2).grown hgrow (by omega) (λk hk=>(H6.out.1.lt k hk).1);refine hK' _ _ B7 ?_;clear hK' K' hown hgrow hl7;obtain⟨A7,c7,rfl⟩:=aQ k7;have H7:=qd (And.intro k7 B7);clear k7 B7 H6 hg6 hl6 hc6 z4 z5
  try simp only[Act.put,zA]
  refine cW (i:=13) (fuel:=0) (by kernel_rfl) rfl rfl λK' hK'=>?_;unfold Oper.wp;go_simp;refine hK' _ _ H7.out.2 ?_;clear hK' K';refine wpAnyH_done (by kernel_rfl) ⟨rfl,?_⟩ _;refine hK0 _ _ ?_;go_wp2;go_ret;exact⟨_,rfl,H7.out.1,H7.out.2⟩
end Go.Proofs.Ytlcplealnbekeaa
namespace Go.Proofs.Ytlcplealnbekeaa
open Go.RowKit
theorem and_pred (s:Nat) (h:0<s):s &&& (s-1)=0 ↔ ∃ k,s=2 ^ k:=by
 induction s using Nat.strongRecOn with
 | _ s ih =>
   have hd:(s &&& (s-1)) / 2=s / 2 &&& (s-1) / 2:=Nat.and_div_two
   have hm:(s &&& (s-1))%2=0:=by
    rw[show (2:Nat)=2 ^ 1 from rfl,Nat.and_mod_two_pow]
    rcases Nat.mod_two_eq_zero_or_one s with e | e
    ·simp [e]
    ·have : (s-1)%2=0:=by omega
     simp[this]
   rcases Nat.mod_two_eq_zero_or_one s with e | e
   ·have h2:(s-1) / 2=s / 2-1:=by omega
    rw[h2] at hd;have:=ih (s / 2) (by omega) (by omega)
    constructor
    ·intro h0
     rw[h0] at hd;obtain⟨k,hk⟩:=this.1 hd.symm;exact⟨k+1,by rw[Nat.pow_succ];omega⟩
    ·rintro ⟨k,hk⟩
     cases k with
     | zero=>omega
     | succ k =>
       have:=this.2 ⟨k,by rw[Nat.pow_succ] at hk;omega⟩
       omega
   ·have h2:(s-1) / 2=s / 2:=by omega
    rw[h2,Nat.and_self] at hd
    constructor
    ·intro h0
     exact⟨0,by rw[h0] at hd;simp;omega⟩
    ·rintro ⟨k,hk⟩
     cases k with
     | zero=>simp at hk;subst hk;rfl
     | succ k=>rw[Nat.pow_succ] at hk;omega
theorem i64_and_nat (a b:Nat) (ha:a<9223372036854775808) (hb:b<9223372036854775808):bits .and .i64 (a:Int) (b:Int)=((a &&& b:Nat):Int):=by
 have hx:a &&& b<2 ^ 63:=Nat.and_lt_two_pow _ (by omega)
 have h1:(BitVec.ofInt 64 (a:Int)).toNat=a:=by
  rw[BitVec.ofInt_natCast,BitVec.toNat_ofNat];exact Nat.mod_eq_of_lt (by omega)
 have h2:(BitVec.ofInt 64 (b:Int)).toNat=b:=by
  rw[BitVec.ofInt_natCast,BitVec.toNat_ofNat];exact Nat.mod_eq_of_lt (by omega)
 show IntKind.i64.wrap ((BitVec.ofInt 64 (a:Int) &&& BitVec.ofInt 64 (b:Int)).toNat:Int)=_
 rw[BitVec.toNat_and,h1,h2,IntKind.wrap_i64]
 omega
theorem pow_bits (s:Nat) (h:0<s) (h2:s<=65536):(bits BinOp.and IntKind.i64 (s:Int) ((s:Int)-1) !=0)=false ↔ ∃ k,s=2 ^ k:=by
 rw[show (s:Int)-1=((s-1:Nat):Int) from by omega,i64_and_nat _ _ (by omega) (by omega),<-and_pred s h]
 simp
def fits (s:Int):Prop:=1<=s/\s<=65536/\∃ k:Nat,s=2 ^ k
theorem fits_nat {s:Nat}(h:fits s):0<s/\s<=65536/\(bits BinOp.and IntKind.i64 (s:Int) ((s:Int)-1) !=0)=false:=by
 obtain⟨h1,h2,k,hk⟩:=h;exact⟨by omega,by omega,(pow_bits s (by omega) (by omega)).2 ⟨k,by exact_mod_cast hk⟩⟩
theorem new_bad (s:Int) (w:World) (h:¬fits s):Calls Try.prog 32 #[.int .i64 s] w λe w'=>e=.returned (.tuple #[.pointer none,.int .i64 1])/\w=w':=by
 by_cases h1:s<1
 ·clear h
  go_enter Try.func32,Try.ntmps32
  go_wp2
  go_ret2
  exact⟨rfl,rfl⟩
 ·by_cases h2:65536<s
  ·clear h
   go_enter Try.func32,Try.ntmps32
   go_wp2
   go_ret2
   exact⟨rfl,rfl⟩
  ·have hb:(bits BinOp.and IntKind.i64 s (s-1) !=0)=true:=by
    obtain⟨m,rfl⟩:=Int.eq_ofNat_of_zero_le (show 0<=s by omega)
    rcases Bool.eq_false_or_eq_true (bits BinOp.and IntKind.i64 (m:Int) ((m:Int)-1) !=0) with e | e
    ·exact e
    ·exfalso
     obtain⟨k,hk⟩:=(pow_bits m (by omega) (by omega)).1 e;exact h ⟨by omega,by omega,k,by exact_mod_cast hk⟩
   clear h
   go_enter Try.func32,Try.ntmps32
   go_wp2
   all_goals go_ret2
   all_goals exact⟨rfl,rfl⟩
theorem rD (s r:Int) (w:World) (h:¬fits s\/r<0\/64<r):Calls Try.prog 12 #[.int .i64 s,.int .i64 r] w λe w'=>e=.returned (.tuple #[.pointer none,.int .i64 1])/\Below w.heap.size w w':=by
 by_cases hf:fits s
 ·have hr:r<0\/64<r:=h.resolve_left (λh=>h hf)
  obtain⟨m,rfl⟩:=Int.eq_ofNat_of_zero_le (show 0<=s from by have:=hf.1;omega);obtain⟨a,b,c⟩:=fits_nat hf;have HC:=qd c;have HR:=qd hr;clear hr h hf c
  by_cases h1:r<0
  all_goals
   have h2:=HR.out
   go_enter Try.func12,Try.ntmps12
   go_wp2_with fail
   refine(new_ok m w a b HC.out).mono ?_;rintro e w1 ⟨rfl,_,hbel,_⟩;have HB:=qd hbel;clear hbel;go_wp2
   go_ret2
   exact⟨rfl,HB.out⟩
 ·have HF:=qd hf
  clear hf h
  go_enter Try.func12,Try.ntmps12
  go_wp2_with (go_at_call 32;refine(new_bad _ _ HF.out).mono ?_;rintro e w' ⟨rfl,rfl⟩)
  go_ret2
  exact⟨rfl,Below.refl _ _⟩
def PowerPost (s:Int) (w:World) (e:Ending) (w':World):Prop:=(e=.returned (.bool true)/\fits s\/e=.returned (.bool false)/\¬fits s)/\w=w'
theorem kO (s:Int) (w:World):Calls Try.prog 48 #[.int .i64 s] w (PowerPost s w):=by
 go_enter Try.func48,Try.ntmps48
 go_wp2
 go_loop [3] (λn=>∃ j p:Nat,n=.int .i64 p/\p=2 ^ j/\p<=131072/\∀ i,i<j->s≠((2 ^ i:Nat):Int)) (λn=>(131073-intOf n).toNat)
 case atStart=>exact⟨0,1,rfl,rfl,by omega,λi hi=>by omega⟩
 case round =>
  obtain⟨j,p,rfl,hp,hp2,hs⟩:=hrel;have hpos:0<p:=by rw[hp];exact Nat.pow_pos (by omega)
  have HP:=qd hp;have HS:=qd hs;clear hp hs
  by_cases hle:p<=65536
  ·by_cases he:(p:Int)=s
   ·have he':((p:Int)==s)=true:=by rw[beq_iff_eq];exact he
    have HE:=qd he;clear he;go_wp2;go_ret;exact⟨.inl ⟨rfl,by rw[<-HE.out];omega,by rw[<-HE.out];omega,j,by rw[<-HE.out,HP.out];norm_cast⟩,rfl⟩
   ·have he':((p:Int)==s)=false:=by rw[beq_eq_false_iff_ne];exact he
    have HE:=qd he;clear he;go_wp2
    go_round
    case rel =>
     refine⟨j+1,2*p,by go_num,by rw[Nat.pow_succ,<-HP.out];omega,by omega,λi hi=>?_⟩
     by_cases h:i=j
     ·subst h;rw[<-HP.out];exact λe=>HE.out e.symm
     ·exact HS.out i (by omega)
    case measure=>simp[intOf];omega
  ·go_wp2
   go_ret;refine⟨.inr ⟨rfl,?_⟩,rfl⟩;rintro⟨h1,h2,k,hk⟩;have hk':s=((2 ^ k:Nat):Int):=by rw[hk];norm_cast
   rcases Nat.lt_or_ge k j with h | h
   ·exact HS.out k h hk'
   ·have:=Nat.pow_le_pow_right (show 0<2 by omega) h
    rw[<-HP.out] at this
    omega
def zeroCells:Array Value:=#[.pointer none,.int .i64 0,.slice none 0 0,.int .i64 0,.int .i64 0,.int .i64 0,.slice none 0 0]
def Empty (w:World) (p:Option Addr):Prop:=p=none\/∃ b,p=some ⟨b,0,none⟩/\Blk w b 93 zeroCells
theorem Empty.kept {w w':World}{p:Option Addr}{Z:Nat->Prop}(h:Empty w p) (hk:Kept Z w w') (hz:∀ a,p=some a->¬Z a.block):Empty w' p:=by
 rcases h with h | ⟨b,rfl,hb⟩
 ·exact .inl h
 ·exact .inr ⟨b,rfl,hb.kept hk (hz _ rfl)⟩
end Go.Proofs.Ytlcplealnbekeaa
