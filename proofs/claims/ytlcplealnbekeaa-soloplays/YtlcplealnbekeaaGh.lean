/- DERIVED. A slice of numbers that comes in. -/
import Derived.Test.YtlcplealnbekeaaGc
import Derived.Test.YtlcplealnbekeaaRows
import Derived.KernelRfl
import Derived.Test.YtlcplealnbekeaaGe
import Derived.Test.YtlcplealnbekeaaGg
import Derived.WalkKit
import Derived.OrdersHeld
import Derived.Laws.AppendOwn
import Derived.OpenShut
import Derived.JoinedCond
import Derived.Carry
import Derived.Deep.Slices
set_option linter.unusedVariables false
set_option maxHeartbeats 4000000
set_option maxRecDepth 100000
namespace Go.Proofs.Ytlcplealnbekeaa
open Go.Tame
theorem code_all:(Try.prog.funcs.all λfn=>match fn.body with | some c=>dD Try.prog true c | none=>true)=true:=by kernel_rfl
theorem code_ok (f:Nat) (fn:Func) (c:Code) (hf:Try.prog.funcs[f]?=some fn) (hb:fn.body=some c):dD Try.prog true c=true:=by
 have h:=(Array.all_eq_true'.1 code_all) fn (Array.mem_of_getElem? hf);rw[hb] at h;exact h
theorem num_all:(Try.prog.funcs.all λfn=>!(fn.name == "runtime.NumGoroutine"))=true:=by kernel_rfl
theorem num_ok:mF Try.prog:=λf fn hf=>by
 have h:=(Array.all_eq_true'.1 num_all) fn (Array.mem_of_getElem? hf)
 simpa using h
theorem ext_all:(Try.prog.funcs.all λfn=>fn.body.isSome || (((extNames.contains fn.name && fn.origin == "") || (Extern.find fn).isNone) && (Extern.findNext fn).isNone))=true:=by kernel_rfl
theorem ext_ok (f:Nat) (fn:Func) (hf:Try.prog.funcs[f]?=some fn) (hb:fn.body=none):((fn.name∈extNames/\fn.origin = "")\/Extern.find fn=none)/\Extern.findNext fn=none:=by
 have h:=(Array.all_eq_true'.1 ext_all) fn (Array.mem_of_getElem? hf);rw[hb] at h;simp only[Option.isSome_none,Bool.false_or,Bool.and_eq_true,Bool.or_eq_true,List.contains_iff_mem,beq_iff_eq,Option.isNone_iff_eq_none] at h;exact h
theorem Try.tame:Prog Try.prog where
 code:=code_ok
 ext:=ext_of ext_ok num_ok
 lv:=fun f fn hf hb args e he=>by
  rw[(ext_ok f fn hf hb).2] at he;cases he
 num:=num_ok
 ahead:=by kernel_rfl
end Go.Proofs.Ytlcplealnbekeaa
namespace Go.Proofs.Ytlcplealnbekeaa
open Go.RowKit
theorem lH (a:Addr) (sa:Option Addr) (n c:Nat) (w:World) (h:w.cell? a=some (.slice sa n c)):Calls Try.prog 69 #[.pointer (some a)] w λe w'=>e=.returned (.int .i64 n)/\w=w':=by
 go_enter Try.func69,Try.ntmps69
 go_wp2;go_ret;exact⟨rfl,rfl⟩
theorem gV (a:Addr) (sa:Option Addr) (n c:Nat) (q:Int) (w:World) (h:w.cell? a=some (.slice sa n c)) (hn:0<n) (h0:0<=q) (h1:q<4611686018427387904) :
  Calls Try.prog 60 #[.pointer (some a),.int .i64 q] w λe w'=>e=.returned (.bool true)/\w=w':=by
 go_enter Try.func60,Try.ntmps60
 go_wp2;go_ret;exact⟨by simp,rfl⟩
theorem kH (a:Addr) (sa:Option Addr) (n c:Nat) (q:Int) (w:World) (h:w.cell? a=some (.slice sa n c)) (hn:0<n) (h2:n<=65536) (h0:0<=q) (h1:q<4611686018427387904) :
  Calls Try.prog 61 #[.pointer (some a),.int .i64 q] w λe w'=>e=.returned (.int .i64 (q%n))/\w=w':=by
 go_enter Try.func61,Try.ntmps61
 go_wp2_with (go_at_call 60;refine(gV a sa n c q _ h hn h0 h1).mono ?_;rintro e w' ⟨rfl,rfl⟩)
 go_ret;exact⟨rfl,rfl⟩
theorem mR (a:Addr) (sa:Option Addr) (n c:Nat) (q:Int) (w:World) (h:w.cell? a=some (.slice sa n c)) (hn:0<n) (h2:n<=65536) (h0:0<=q) (h1:q<4611686018427387904) :
  Calls Try.prog 62 #[.pointer (some a),.int .i64 q] w λe w'=>e=.returned (.int .i64 (q / n))/\w=w':=by
 go_enter Try.func62,Try.ntmps62
 go_wp2_with (go_at_call 60;refine(gV a sa n c q _ h hn h0 h1).mono ?_;rintro e w' ⟨rfl,rfl⟩)
 go_ret;exact⟨rfl,rfl⟩
theorem aZ (a:Addr) (v:Int) (u:Int) (w:World) (h:w.cell? a=some (.int .i64 u)) (hf:w.frozen? a=false):Calls Try.prog 33 #[.pointer (some a),.int .i64 v] w λe w'=>e=.returned (.tuple #[])/\w.setCell a (.int .i64 v)=w':=by
 have hst:=run_call_store (P:=Try.prog) Try.func54 (by kernel_rfl) (by kernel_rfl) (by kernel_rfl) (by kernel_rfl) (k:=.i64) (y:=v) h hf
 go_enter Try.func33,Try.ntmps33
 go_wp2
 go_end0
 exact⟨rfl,rfl⟩
theorem aD (a:Addr) (v:Int) (w:World) (h:w.cell? a=some (.int .i64 v)):Calls Try.prog 39 #[.pointer (some a)] w λe w'=>e=.returned (.int .i64 v)/\w=w':=by
 have hld:=run_call_load (P:=Try.prog) Try.func59 (by kernel_rfl) (by kernel_rfl) (by kernel_rfl) .i64 (by kernel_rfl) h
 go_enter Try.func39,Try.ntmps39
 go_wp2;go_ret;exact⟨rfl,rfl⟩
def uI (f:Nat->Int) (i:Nat) (x:Int):Nat->Int:=λj=>if j=i then x else f j
structure RingAt (w:World) (rb sb n:Nat) (st va:Nat->Int):Prop where
 ring:w.cell? ⟨rb,0,none⟩=some (.slice (some ⟨sb,0,none⟩) n n)
 stamp:∀ i,i<n->w.cell? ⟨sb,i*2,none⟩=some (.int .i64 (st i))
 value:∀ i,i<n->w.cell? ⟨sb,i*2+1,none⟩=some (.int .i64 (va i))
 free:∀ i,w.frozen? ⟨sb,i,none⟩=false
 pos:0<n
 most:n<=65536
 ne:rb≠sb
 rlt:rb<w.heap.size
 glt:sb<w.heap.size
theorem uU (f:Nat->Int) (i:Nat) (x y:Int):uI (uI f i x) i y=uI f i y:=by
 funext j
 unfold uI
 split <;> rfl
theorem uS (f:Nat->Int) (i:Nat) (x:Int):uI f i x i=x:=if_pos rfl
theorem uN (f:Nat->Int) {i j:Nat}(x:Int) (h:j≠i):uI f i x j=f j:=if_neg h
section
variable {w w':World}{rb sb n:Nat}{st va:Nat->Int}
theorem RingAt.setStamp (H:RingAt w rb sb n st va) {i:Nat}(hi:i<n) (x:Int):RingAt (w.setCell ⟨sb,i*2,none⟩ (.int .i64 x)) rb sb n (uI st i x) va where
 ring:=(World.cell?_setCell_other _ _ _ _ (by intro e;injection e with e;exact H.ne e.symm)).trans H.ring
 stamp:=fun j hj=>by
  unfold uI
  by_cases e:j=i
  ·subst e;rw[if_pos rfl];exact World.cell?_setCell_same _ _ _ (H.stamp j hj)
  ·rw [if_neg e];exact(World.cell?_setCell_other _ _ _ _ (by simp <;> omega)).trans (H.stamp j hj)
 value:=λj hj=>(World.cell?_setCell_other _ _ _ _ (by simp <;> omega)).trans (H.value j hj)
 free:=λj=>by rw[World.frozen?_setCell];exact H.free j
 pos:=H.pos
 most:=H.most
 ne:=H.ne
 rlt:=by simpa using H.rlt
 glt:=by simpa using H.glt
theorem RingAt.setValue (H:RingAt w rb sb n st va) {i:Nat}(hi:i<n) (x:Int):RingAt (w.setCell ⟨sb,i*2+1,none⟩ (.int .i64 x)) rb sb n st (uI va i x) where
 ring:=(World.cell?_setCell_other _ _ _ _ (by intro e;injection e with e;exact H.ne e.symm)).trans H.ring
 stamp:=λj hj=>(World.cell?_setCell_other _ _ _ _ (by simp <;> omega)).trans (H.stamp j hj)
 value:=fun j hj=>by
  unfold uI
  by_cases e:j=i
  ·subst e;rw[if_pos rfl];exact World.cell?_setCell_same _ _ _ (H.value j hj)
  ·rw [if_neg e];exact(World.cell?_setCell_other _ _ _ _ (by simp <;> omega)).trans (H.value j hj)
 free:=λj=>by rw[World.frozen?_setCell];exact H.free j
 pos:=H.pos
 most:=H.most
 ne:=H.ne
 rlt:=by simpa using H.rlt
 glt:=by simpa using H.glt
theorem RingAt.drewN (H:RingAt w rb sb n st va) (k:Nat):RingAt (w.drewN k) rb sb n st va:=⟨H.ring,H.stamp,H.value,H.free,H.pos,H.most,H.ne,H.rlt,H.glt⟩
theorem RingAt.kept {S:Nat->Prop}(H:RingAt w rb sb n st va) (hk:Kept S w w') (h1:¬S rb) (h2:¬S sb):RingAt w' rb sb n st va where
 ring:=(World.cell?_of_block (w:=w) (hk.block rb H.rlt h1)).trans H.ring
 stamp:=λi hi=>(World.cell?_of_block (w:=w) (a:=⟨sb,i*2,none⟩) (hk.block sb H.glt h2)).trans (H.stamp i hi)
 value:=λi hi=>(World.cell?_of_block (w:=w) (a:=⟨sb,i*2+1,none⟩) (hk.block sb H.glt h2)).trans (H.value i hi)
 free:=λi=>(World.frozen?_of_block (w:=w) (a:=⟨sb,i,none⟩) (hk.block sb H.glt h2)).trans (H.free i)
 pos:=H.pos
 most:=H.most
 ne:=H.ne
 rlt:=Nat.lt_of_lt_of_le H.rlt hk.size
 glt:=Nat.lt_of_lt_of_le H.glt hk.size
end
theorem put_x (X:Stepper) (hs:X.Steps Try.prog 63) (t rb sb n:Nat) (st va:Nat->Int) (q v:Int) (w:World) (H:RingAt w rb sb n st va) (h0:0<=q) (h1:q<4611686018427387904) (A:X.at_ t w) (n1:¬X.own rb) (n2:¬X.own sb) :
  Calls Try.prog 58 #[.pointer (some ⟨rb,0,none⟩),X.v,.int .i64 q,.int .i64 v] w λe w'=>e=.returned (.int .i64 0) /\
   RingAt w' rb sb n (uI st (q%n).toNat (2*(q / n))) (uI va (q%n).toNat v)/\Kept (λb=>b=sb\/X.own b) w w'/\w'.heap.size=w.heap.size/\X.at_ (t+3) w':=by
 have hn:=H.pos;have h2:=H.most;have hr:=H.ring;have hb0:0<=q%(n:Int):=Int.emod_nonneg _ (by omega);have hb1:q%(n:Int)<n:=Int.emod_lt_of_pos _ (by omega);have hd0:0<=q / (n:Int):=Int.ediv_nonneg h0 (by omega);have hd1:q / (n:Int)<=q:=Int.ediv_le_self _ h0;have HH:=qd H;have HA:=qd A;have HN1:=qd n1;have HN2:=qd n2;have n3:∀ b,X.own b->¬b=sb:=λb h e=>HN2.out (e▸h);have HN3:=qd n3;clear H A n1 n2 n3
 go_enter Try.func58,Try.ntmps58
 go_wp2_with (go_at_call 60;refine(gV _ _ n _ q _ hr hn h0 h1).mono ?_;rintro e w' ⟨rfl,rfl⟩)
 go_quiet (first |(go_at_call 61;exact dQ (kH _ _ n _ q _ hr hn h2 h0 h1)) |(go_at_call 62;exact dQ (mR _ _ n _ q _ hr hn h2 h0 h1)))
 generalize hi:(q%(n:Int)).toNat=i at *;have hi':i<n:=by omega
 have HI:=qd hi;clear hi;have H1:=HH.out.drewN nq;have A1:=X.keep HA.out (Kept.drewN (λ_=>False) w nq) (λ_ _ h=>h)
 go_wp2_with fail
 refine(hs t _ A1).mono ?_;rintro e w1 ⟨rfl,A1,K1,Z1⟩;have H1:=H1.kept K1 HN1.out HN2.out
 go_wp2_with fail
 refine(aZ _ _ _ _ (H1.stamp i hi') (H1.free _)).mono ?_;rintro e w' ⟨rfl,rfl⟩;have H2:=H1.setStamp hi' (2*(q / n)-1);have A2:=X.keep A1 (Kept.setCell (S:=(·=sb)) w1 (p:=⟨sb,i*2,none⟩) rfl (.int .i64 (2*(q / n)-1))) HN3.out;have K2:=K1
 go_wp2_with fail
 refine(hs _ _ A2).mono ?_;rintro e w2 ⟨rfl,A2,K2,Z2⟩;have H2:=H2.kept K2 HN1.out HN2.out
 go_wp2_with fail
 refine(aZ _ _ _ _ (H2.value i hi') (H2.free _)).mono ?_;rintro e w' ⟨rfl,rfl⟩;have H3:=H2.setValue hi' v;have A3:=X.keep A2 (Kept.setCell (S:=(·=sb)) w2 (p:=⟨sb,i*2+1,none⟩) rfl (.int .i64 v)) HN3.out
 go_wp2_with fail
 refine(hs _ _ A3).mono ?_;rintro e w3 ⟨rfl,A3,K3,Z3⟩;have H3:=H3.kept K3 HN1.out HN2.out
 go_wp2_with fail
 refine(aZ _ _ _ _ (H3.stamp i hi') (H3.free _)).mono ?_;rintro e w' ⟨rfl,rfl⟩;have H4:=H3.setStamp hi' (2*(q / n));have A4:=X.keep A3 (Kept.setCell (S:=(·=sb)) w3 (p:=⟨sb,i*2,none⟩) rfl (.int .i64 (2*(q / n)))) HN3.out;have HZ:=qd (And.intro Z1 (And.intro Z2 Z3));have HK:=qd (And.intro K1 (And.intro K2 K3));have HX:=qd (And.intro H4 A4);clear Z1 Z2 Z3 K1 K2 K3 H1 H2 H3 H4 A1 A2 A3 A4 hr;go_wp2;go_ret;rw[HI.out];have z:=HZ.out;have k:=HK.out
 simp at z
 refine⟨rfl,by rw[<-uU st i (2*(q / n)-1)];exact HX.out.1,?_,by simp;omega,HX.out.2⟩;have L:∀ {a b:World},Kept X.own a b->Kept (λb=>b=sb\/X.own b) a b:=λh=>h.mono (λ_ _ e=>.inr e);exact(((((Kept.drewN _ _ nq).trans (L k.1)).trans (Kept.setCell _ (.inl rfl) _)).trans (L k.2.1)).trans (Kept.setCell _ (.inl rfl) _)).trans ((L k.2.2).trans (Kept.setCell _ (.inl rfl) _))
theorem get_ok (X:Stepper) (hs:X.Steps Try.prog 63) (t rb sb n:Nat) (st va:Nat->Int) (q:Int) (w:World) (H:RingAt w rb sb n st va) (h0:0<=q) (h1:q<4611686018427387904) (he:st (q%n).toNat=2*(q / n)) (A:X.at_ t w) (n1:¬X.own rb) (n2:¬X.own sb) :
  Calls Try.prog 40 #[.pointer (some ⟨rb,0,none⟩),X.v,.int .i64 q] w λe w'=>e=.returned (.tuple #[.int .i64 (va (q%n).toNat),.int .i64 0])/\Kept X.own w w'/\w'.heap.size=w.heap.size/\X.at_ (t+3) w':=by
 have HE:=qd he;clear he;have hn:=H.pos;have h2:=H.most;have hr:=H.ring;have hb0:0<=q%(n:Int):=Int.emod_nonneg _ (by omega);have hb1:q%(n:Int)<n:=Int.emod_lt_of_pos _ (by omega);have hd0:0<=q / (n:Int):=Int.ediv_nonneg h0 (by omega);have hd1:q / (n:Int)<=q:=Int.ediv_le_self _ h0;have HH:=qd H;have HA:=qd A;have HN1:=qd n1;have HN2:=qd n2;clear H A n1 n2
 go_enter Try.func40,Try.ntmps40
 go_wp2_with (go_at_call 60;refine(gV _ _ n _ q _ hr hn h0 h1).mono ?_;rintro e w' ⟨rfl,rfl⟩)
 go_quiet (first |(go_at_call 61;exact dQ (kH _ _ n _ q _ hr hn h2 h0 h1)) |(go_at_call 62;exact dQ (mR _ _ n _ q _ hr hn h2 h0 h1)))
 generalize hi:(q%(n:Int)).toNat=i at *;have hi':i<n:=by omega
 have HI:=qd hi;clear hi;have H1:=HH.out.drewN nq;have A1:=X.keep HA.out (Kept.drewN (λ_=>False) w nq) (λ_ _ h=>h)
 go_wp2_with fail
 refine(hs t _ A1).mono ?_;rintro e w1 ⟨rfl,A1,K1,Z1⟩;have H1:=H1.kept K1 HN1.out HN2.out;have S1:=H1.stamp i hi';rw[HE.out] at S1;have hS:=qd S1;clear S1
 go_wp2_with fail
 refine(aD _ _ _ hS.out).mono ?_;rintro e w' ⟨rfl,rfl⟩
 go_wp2_with fail
 refine(hs _ _ A1).mono ?_;rintro e w2 ⟨rfl,A2,K2,Z2⟩;have H2:=H1.kept K2 HN1.out HN2.out
 go_wp2_with fail
 refine(aD _ _ _ (H2.value i hi')).mono ?_;rintro e w' ⟨rfl,rfl⟩
 go_wp2_with fail
 refine(hs _ _ A2).mono ?_;rintro e w3 ⟨rfl,A3,K3,Z3⟩;have H3:=H2.kept K3 HN1.out HN2.out;have S3:=H3.stamp i hi';rw[HE.out] at S3;have hS3:=qd S3;clear S3
 go_wp2_with fail
 refine(aD _ _ _ hS3.out).mono ?_;rintro e w' ⟨rfl,rfl⟩;have HZ:=qd (And.intro Z1 (And.intro Z2 Z3));have HK:=qd (And.intro K1 (And.intro K2 K3));have HX:=qd A3;clear Z1 Z2 Z3 K1 K2 K3 H1 H2 H3 A1 A2 A3 hr;go_wp2
 go_ret2
 have z:=HZ.out;have k:=HK.out
 simp at z
 rw[HI.out];exact⟨rfl,(((Kept.drewN _ _ nq).trans k.1).trans k.2.1).trans k.2.2,by omega,HX.out⟩
theorem Try.slotInfo:(Try.prog.info? 126).map (λi=>(i.zero,i.size,i.bytes))=some (some (.agg #[.int .i64 0,.int .i64 0]),2,16):=by kernel_rfl
theorem qA (n j:Nat) (h:j<n*2):(madeCells #[.int .i64 0,.int .i64 0] (n*2))[j]?=some (.int .i64 0):=by
 unfold madeCells;rw[Array.getElem?_map,Array.getElem?_range,if_pos h]
 rcases Nat.mod_two_eq_zero_or_one j with e | e <;> simp[e]
theorem ring_made (w:World) (n:Nat) (hn:0<n) (h2:n<=65536) :
  RingAt ((w.alloc (.cells (madeCells #[.int .i64 0,.int .i64 0] (n*2)) 126)).alloc (.cells #[.slice (some ⟨w.heap.size,0,none⟩) n n] 124)) (w.heap.size+1) w.heap.size n (λ_=>0) (λ_=>0):=by
 have b0:=Blk.new w 126 (madeCells #[.int .i64 0,.int .i64 0] (n*2));have b1:=b0.alloc (.cells #[.slice (some ⟨w.heap.size,0,none⟩) n n] 124);have b2:=Blk.new (w.alloc (.cells (madeCells #[.int .i64 0,.int .i64 0] (n*2)) 126)) 124 #[.slice (some ⟨w.heap.size,0,none⟩) n n];rw[World.size_alloc] at b2;exact { ring:=b2.cell 0,stamp:=λi hi=>(b1.cell _).trans (qA n _ (by omega)),value:=λi hi=>(b1.cell _).trans (qA n _ (by omega)),free:=λi=>b1.frozen i,pos:=hn,most:=h2,ne:=by omega,rlt:=by simp,glt:=by simp;omega }
theorem lL (k:Nat) (a b:Int):(λj=>if j<k+1 then a else b)=uI (λj=>if j<k then a else b) k a:=by
 funext j
 unfold uI;dsimp only
 by_cases h:j=k
 ·subst h;simp
 ·rw [if_neg h];by_cases h':j<k
  ·rw [if_pos h',if_pos (by omega)]
  ·rw [if_neg h',if_neg (by omega)]
def NearB (w:World) (b:Nat):Prop:=∃ c t,w.heap[b]?=some (.cells c t (0,0))
theorem NearB.set_ {w:World}{d i:Nat}{v:Value}{b:Nat}(h:NearB w b):NearB (w.setCell ⟨d,i,none⟩ v) b:=by
 obtain⟨c,t,h⟩:=h
 by_cases e:b=d
 ·subst e
  exact⟨_,_,(show Blk w b t c from h).set_ i v⟩
 ·exact ⟨c,t,(Below.heap_setCell _ _ _ _ e).trans h⟩
theorem new_near (n:Nat) (w:World) (hn:0<n) (h2:n<=65536) (hb:(bits BinOp.and IntKind.i64 (n:Int) ((n:Int)-1) !=0)=false):Calls Try.prog 32 #[.int .i64 n] w λe w'=>e=.returned (.tuple #[.pointer (some ⟨w.heap.size+1,0,none⟩),.int .i64 0]) /\
  RingAt w' (w.heap.size+1) w.heap.size n (λ_=>-2) (λ_=>0)/\Below w.heap.size w w'/\w'.heap.size=w.heap.size+2/\NearB w' w.heap.size/\NearB w' (w.heap.size+1):=by
 obtain⟨i0,hi,hz0,hz1,hz2⟩:=info_parts Try.slotInfo;have hmk:=λwx=>run_make (P:=Try.prog) wx 122 126 i0 _ Try.underlying122 hi hz0 .i64 .i64 n n (by omega) (by omega) (by rw[hz2];omega) (by omega);simp only[Int.toNat_natCast,hz1,Value.cells] at hmk;have h1:(1:Int)<=n:=by omega
 have h3:(n:Int)<=65536:=by omega
 have hr:=ring_made w n hn h2;have hbel:Below w.heap.size w ((w.alloc (.cells (madeCells #[.int .i64 0,.int .i64 0] (n*2)) 126)).alloc (.cells #[.slice (some ⟨w.heap.size,0,none⟩) n n] 124)):=((Below.refl _ _).alloc (Nat.le_refl _) _).alloc (by simp) _
 have hnear:NearB ((w.alloc (.cells (madeCells #[.int .i64 0,.int .i64 0] (n*2)) 126)).alloc (.cells #[.slice (some ⟨w.heap.size,0,none⟩) n n] 124)) w.heap.size/\NearB ((w.alloc (.cells (madeCells #[.int .i64 0,.int .i64 0] (n*2)) 126)).alloc (.cells #[.slice (some ⟨w.heap.size,0,none⟩) n n] 124)) (w.heap.size+1):=by
  have hb:=Blk.new (w.alloc (.cells (madeCells #[.int .i64 0,.int .i64 0] (n*2)) 126)) 124 #[.slice (some ⟨w.heap.size,0,none⟩) n n];rw[World.size_alloc] at hb;exact⟨⟨_,_,(Blk.new w 126 (madeCells #[.int .i64 0,.int .i64 0] (n*2))).alloc _⟩,⟨_,_,hb⟩⟩
 have HR:=qd hr;have HB:=qd (And.intro hbel hnear);clear hr hbel hnear hz1 hz2 hz0 hi
 go_enter Try.func32,Try.ntmps32
 go_wp2
 go_loopw [28] (λi wr=>∃ k:Nat,k<=n/\i=.int .i64 k/\RingAt wr (w.heap.size+1) w.heap.size n (λj=>if j<k then -2 else 0) (λ_=>0)/\(Below w.heap.size w wr/\NearB wr w.heap.size/\NearB wr (w.heap.size+1))/\wr.heap.size=w.heap.size+2) (λi _=>n-(intOf i).toNat)
 case atStart=>exact⟨0,Nat.zero_le _,rfl,by simpa using HR.out,HB.out,by simp⟩
 case round =>
  obtain⟨k,hk,rfl,H,hbl,hsz⟩:=hrel;have hring:=H.ring;have HH:=qd H;have HS:=qd hsz;clear hmk hb H hsz
  by_cases hlt:k<n
  ·go_wp2_with (go_at_call 33;refine(aZ _ _ _ _ (HH.out.stamp k hlt) (HH.out.free _)).mono ?_;rintro e w' ⟨rfl,rfl⟩)
   go_roundw
   case rel =>
    refine⟨k+1,by omega,by go_num,?_,⟨hbl.1.setCell (by simp) _,hbl.2.1.set_,hbl.2.2.set_⟩,by simpa using HS.out⟩;rw[lL];exact HH.out.setStamp hlt (-2)
   case measure=>simp[intOf];omega
  ·go_wp2
   go_ret2
   refine⟨rfl,⟨HH.out.ring,λi hi=>?_,HH.out.value,HH.out.free,HH.out.pos,HH.out.most,HH.out.ne,HH.out.rlt,HH.out.glt⟩,hbl.1,HS.out,hbl.2⟩;have h:=HH.out.stamp i hi
   rwa [if_pos (by omega)] at h
theorem new_ok (n:Nat) (w:World) (hn:0<n) (h2:n<=65536) (hb:(bits BinOp.and IntKind.i64 (n:Int) ((n:Int)-1) !=0)=false):Calls Try.prog 32 #[.int .i64 n] w λe w'=>e=.returned (.tuple #[.pointer (some ⟨w.heap.size+1,0,none⟩),.int .i64 0]) /\
  RingAt w' (w.heap.size+1) w.heap.size n (λ_=>-2) (λ_=>0)/\Below w.heap.size w w'/\w'.heap.size=w.heap.size+2:=
 (new_near n w hn h2 hb).mono λ_ _ ⟨h1,h2,h3,h4,_⟩=>⟨h1,h2,h3,h4⟩
end Go.Proofs.Ytlcplealnbekeaa
namespace Go.Proofs.Ytlcplealnbekeaa
open Go.RowKit Go.Turn Go.Tame Go.Conc
abbrev RSt:Type:=(Nat->Int) × (Nat->Int)
structure RAt (rb sb n:Nat) (a:RSt) (w:World):Prop where
 r:RingAt w rb sb n a.1 a.2
 b1:∃ c t,w.heap[rb]?=some (.cells c t (0,0))
 b2:∃ c t,w.heap[sb]?=some (.cells c t (0,0))
theorem RAt.law {rb sb n:Nat}(a:RSt) (w w':World) (h:RAt rb sb n a w) (hs:∀ b,b=rb\/b=sb->w'.heap[b]?=w.heap[b]?):RAt rb sb n a w':=by
 have h1:=hs rb (.inl rfl);have h2:=hs sb (.inr rfl);obtain⟨c1,t1,e1⟩:=h.b1;obtain⟨c2,t2,e2⟩:=h.b2;exact⟨⟨(World.cell?_of_block (w:=w) h1).trans h.r.ring,λi hi=>(World.cell?_of_block (w:=w) (a:=⟨sb,i*2,none⟩) h2).trans (h.r.stamp i hi),λi hi=>(World.cell?_of_block (w:=w) (a:=⟨sb,i*2+1,none⟩) h2).trans (h.r.value i hi),λi=>(World.frozen?_of_block (w:=w) (a:=⟨sb,i,none⟩) h2).trans (h.r.free i),h.r.pos,h.r.most,h.r.ne,aB (h1.trans e1),aB (h2.trans e2)⟩,⟨c1,t1,h1.trans e1⟩,⟨c2,t2,h2.trans e2⟩⟩
def ringI (rb sb rn:Nat):Inner:={ A:=RSt,At:=RAt rb sb rn,BI:=λb=>b=rb\/b=sb,at_:=RAt.law }
abbrev OpsB.ring (B:OpsB) (rb sb rn:Nat) (good:OpI->Prop):OpsD:=B.on (ringI rb sb rn) good
theorem held_in {H:Nat->Prop}(w:World) {p:Addr}(hp:H p.block) (v:Value):Held H w H (w.setCell p v):=
 ⟨by simp[World.setCell],λb c t r hb hn _=>⟨(Below.heap_setCell _ _ _ _ (λe=>hn (by rw[e];exact hp))).trans hb,hn⟩⟩
theorem set_near {w:World}{d i:Nat}{v:Value}{b:Nat}(h:∃ c t,w.heap[b]?=some (.cells c t (0,0))):∃ c t,(w.setCell ⟨d,i,none⟩ v).heap[b]?=some (.cells c t (0,0)):=by
 obtain⟨c,t,h⟩:=h
 by_cases e:b=d
 ·subst e
  exact⟨_,_,(show Blk w b t c from h).set_ i v⟩
 ·exact ⟨c,t,(Below.heap_setCell _ _ _ _ e).trans h⟩
section
variable {B:OpsB}{rb sb rn:Nat}{good:OpI->Prop}
end
structure RLens (A:Type) where
 get:A->RSt
 put:RSt->A->A
def RLens.st {A R:Type}(l:RLens A) (s:A × R) (i:Nat) (x:Int):A × R:=(l.put (uI (l.get s.1).1 i x,(l.get s.1).2) s.1,s.2)
def RLens.va {A R:Type}(l:RLens A) (s:A × R) (i:Nat) (x:Int):A × R:=(l.put ((l.get s.1).1,uI (l.get s.1).2 i x) s.1,s.2)
structure RingIn (D:OpsD) (l:RLens D.A) (rb sb rn:Nat):Prop where
 at_:∀ (s:D.St) (H:Nat->Prop) (w:World),RepO D s H w->RAt rb sb rn (l.get s.1) w
 stamp:∀ (s:D.St) (H:Nat->Prop) (w:World),RepO D s H w->∀ i,i<rn->∀ x,RepO D (l.st s i x) H (w.setCell ⟨sb,i*2,none⟩ (.int .i64 x))/\Held H w H (w.setCell ⟨sb,i*2,none⟩ (.int .i64 x))
 value:∀ (s:D.St) (H:Nat->Prop) (w:World),RepO D s H w->∀ i,i<rn->∀ x,RepO D (l.va s i x) H (w.setCell ⟨sb,i*2+1,none⟩ (.int .i64 x))/\Held H w H (w.setCell ⟨sb,i*2+1,none⟩ (.int .i64 x))
theorem kT (n:Nat) (a:Addr) (w:World):(method (n+1) 141 (.pointer (some a)) "Step").run Try.prog w=.ok (93,.pointer (some a)) w:=by kernel_rfl
theorem slots_step {D:OpsD}{L:Lg Try.prog (Tree D.St D.St)}{Cap:(Nat->Prop)->World->Prop}{sb:Nat}(hre:∀ H w τ n,Cap H w->Cap H (w.re τ n)) (hcap:∀ H w H' w',Cap H w->Held H w H' w'->Cap H' w') (hS:qT D L Cap sb) (s:D.St) (H:Nat->Prop) (k:D.St->Tree D.St D.St) (w:World) (hr:RepO D s H w) (hc:Cap H w) :
  Ccalls L 63 #[.iface 141 (.pointer (some ⟨sb,0,none⟩))] (.yield s k) w λu t' w'=>u=.tuple #[]/\∃ s' H',t'=k s'/\(RepO D s' H' w'/\Cap H' w')/\Held H w H' w':=by
 intro c mid hR;rw[show Frame.enter Try.prog 63 #[.iface 141 (.pointer (some ⟨sb,0,none⟩))] .normal=Frame.at { (default:Frame) with fn:=63,kind:=.normal } ⟨#[.iface 141 (.pointer (some ⟨sb,0,none⟩))]++Array.replicate (Try.f63.ntmps-1) undef,[]⟩ [.code (Try.f63.body.getD .skip)] from by simp[Frame.enter,Frame.at,Try.func63];rfl];simp only[Try.f63,Option.getD_some,Nat.reduceSub,Array.replicate_succ,Array.replicate_zero,List.push_toArray,List.append_toArray,List.nil_append,List.cons_append];refine Lg.move _ (λ_ _=>step_seq) (λh=>h) ?_;have HR:=qd hR;have Hr:=qd hr;clear hR hr;refine Lg.code λK hK y τ n hy=>?_;go_wp2;refine hK _ _ (λ_=>rfl) ?_;clear hK K;subst hy;refine Lg.move _ (λ_ _=>step_cond rfl) (λh=>h) ?_;refine Lg.move _ (λ_ _=>step_region) (λh=>h) ?_;refine Lg.pre 0 1 1 (by simp) λK hK z τ3 n3 hz=>?_;subst hz;have hr:RepO D s H z:=Hr.out.re.re;have hc:Cap H z:=hcap _ _ _ _ hc (re_held.2 (re_held.2 (Held.refl _ _)));have hm:=λwx=>kT 269 ⟨sb,0,none⟩ wx;go_wp2;refine hK _ _ (λ_=>rfl) ?_;clear hK K;refine Lg.call (i:=1) (rest:=[]) (f:=93) (args:=#[.pointer (some ⟨sb,0,none⟩)]) rfl rfl (λy=>?_) (hS s H k z hr hc) ?_
 ·go_simp
 rintro vv t' w' ⟨rfl,s',H',rfl,⟨hr',hc'⟩,hh⟩;rw[Frame.finish_at];walk_nrm;refine Lg.move _ (λ_ _=>step_region_end) (λh=>h) ?_;refine Lg.move _ (λ_ _=>step_end) (λh=>h) ?_;exact Lg.leave rfl Try.func63 rfl (λ_ _ _ _=>by simp[results,Try.f63]) (HR.out _ _ _ ⟨rfl,s',H',rfl,⟨hr',hc'⟩,re_held.2 (re_held.2 hh)⟩)
structure Now (D:OpsD) (Cap:(Nat->Prop)->World->Prop) (H0:Nat->Prop) (w0:World) (s:D.St) (H:Nat->Prop) (w:World):Prop where
 rep:RepO D s H w
 cap0:Cap H0 w0
 held:Held H0 w0 H w
def iL (Cap:(Nat->Prop)->World->Prop):Prop:=∀ H w H' w',Cap H w->Held H w H' w'->Cap H' w'
theorem Now.re {D:OpsD}{Cap:(Nat->Prop)->World->Prop}{H0 H:Nat->Prop}{w0 y:World}{s:D.St}{τ:Nat->Question->Nat}{n:Nat}(hk:iL Cap) (h:Now D Cap H0 w0 s H (y.re τ n)):Now D Cap H0 w0 s H y:=
 ⟨h.rep.re,h.cap0,held_re.1 h.held⟩
theorem Now.to {D:OpsD}{Cap:(Nat->Prop)->World->Prop}{H0 H H':Nat->Prop}{w0 w w':World}{s s':D.St}(hk:iL Cap) (h:Now D Cap H0 w0 s H w) (h':RepO D s' H' w'/\Held H w H' w'):Now D Cap H0 w0 s' H' w':=
 ⟨h'.1,h.cap0,h.held.trans h'.2⟩
def dC (D:OpsD) (L:Lg Try.prog (Tree D.St D.St)) (Cap:(Nat->Prop)->World->Prop) (f:FuncId) (v:Value):Prop:=
 ∀ H0 w0 s H k w,Now D Cap H0 w0 s H w->Ccalls L f #[v] (.yield s k) w λu t' w'=>u=.tuple #[]/\∃ s' H',t'=k s'/\Now D Cap H0 w0 s' H' w'
theorem slots_sstep {D:OpsD}{L:Lg Try.prog (Tree D.St D.St)}{Cap:(Nat->Prop)->World->Prop}{sb:Nat}(hre:∀ H w τ n,Cap H w->Cap H (w.re τ n)) (hcap:iL Cap) (hS:qT D L Cap sb):dC D L Cap 63 (.iface 141 (.pointer (some ⟨sb,0,none⟩))):=
 λH0 w0 s H k w h=>(slots_step hre hcap hS s H k w h.rep (hcap _ _ _ _ h.cap0 h.held)).mono λv t' w' ⟨e,s',H',e2,h2,h3⟩=>⟨e,s',H',e2,h2.1,h.cap0,h.held.trans h3⟩
def putT {A R:Type}(l:RLens A) (n:Nat) (q v:Int) (s:A × R) (k:A × R->Tree (A × R) (A × R)):Tree (A × R) (A × R):=
 .yield s λs1=>.yield (l.st s1 (q%n).toNat (2*(q / n)-1)) λs2=>.yield (l.va s2 (q%n).toNat v) λs3=>k (l.st s3 (q%n).toNat (2*(q / n)))
theorem Now.drewN {D:OpsD}{Cap:(Nat->Prop)->World->Prop}{H0 H:Nat->Prop}{w0 y:World}{s:D.St}(hk:iL Cap) (h:Now D Cap H0 w0 s H y) (n:Nat):Now D Cap H0 w0 s H (y.drewN n):=
 Now.re (τ:=y.tape) (n:=y.drawn) hk h
theorem slots_put {D:OpsD}{l:RLens D.A}{rb sb rn:Nat}(R:RingIn D l rb sb rn) {L:Lg Try.prog (Tree D.St D.St)}{Cap:(Nat->Prop)->World->Prop}{V:Value}(hk:iL Cap) (hS:dC D L Cap 63 V) (hrn:0<rn) (h2:rn<=65536) (q v:Int) (h0:0<=q) (h1:q<4611686018427387904) (H0:Nat->Prop) (w0:World) (s:D.St) (H:Nat->Prop) (k) (w:World) (hn:Now D Cap H0 w0 s H w) :
  Ccalls L 58 #[.pointer (some ⟨rb,0,none⟩),V,.int .i64 q,.int .i64 v] (putT l rn q v s k) w λu t' w'=>u=.int .i64 0/\∃ s' H',t'=k s'/\Now D Cap H0 w0 s' H' w':=by
 have hb0:0<=q%(rn:Int):=Int.emod_nonneg _ (by omega);have hb1:q%(rn:Int)<rn:=Int.emod_lt_of_pos _ (by omega);have hd0:0<=q / (rn:Int):=Int.ediv_nonneg h0 (by omega);have hd1:q / (rn:Int)<=q:=Int.ediv_le_self _ h0;intro c mid hR;have HR:=qd hR;have HN:=qd hn;clear hR hn;rw[show Frame.enter Try.prog 58 #[.pointer (some ⟨rb,0,none⟩),V,.int .i64 q,.int .i64 v] .normal=Frame.at { (default:Frame) with fn:=58,kind:=.normal } ⟨#[.pointer (some ⟨rb,0,none⟩),V,.int .i64 q,.int .i64 v]++Array.replicate (Try.f58.ntmps-4) undef,[]⟩ [.code (Try.f58.body.getD .skip)] from by simp[Frame.enter,Frame.at,Try.func58];rfl];simp only[Try.f58,Option.getD_some,Nat.reduceSub,Array.replicate_succ,Array.replicate_zero,List.push_toArray,List.append_toArray,List.nil_append,List.cons_append];unfold putT;refine Lg.move _ (λ_ _=>step_seq) (λh=>h) ?_;refine Lg.code λK hK y τ n' hy=>?_;subst hy;have hn:=HN.out.re hk;clear HN;have hr:=(R.at_ _ _ _ hn.rep).r.ring;have HN:=qd hn;clear hn;go_wp2;refine hK _ _ (λ_=>rfl) ?_;clear hK K hr;refine Lg.move _ (λ_ _=>step_seq) (λh=>h) ?_;refine Lg.code λK hK y τ n' hy=>?_;subst hy;have hn:=HN.out.re hk;clear HN;have hr:=(R.at_ _ _ _ hn.rep).r.ring;have HN:=qd hn;clear hn
 go_wp2_with (go_at_call 60;refine(gV _ _ rn _ q _ hr hrn h0 h1).mono ?_;rintro e w' ⟨rfl,rfl⟩)
 refine hK _ _ (λ_=>rfl) ?_;clear hK K hr;refine Lg.move _ (λ_ _=>step_seq) (λh=>h) ?_;refine Lg.code λK hK y τ n' hy=>?_;subst hy;have hn:=HN.out.re hk;clear HN;have hr:=(R.at_ _ _ _ hn.rep).r.ring;have HN:=qd hn;clear hn
 go_quiet (first |(go_at_call 61;exact dQ (kH _ _ rn _ q _ hr hrn h2 h0 h1)) |(go_at_call 62;exact dQ (mR _ _ rn _ q _ hr hrn h2 h0 h1)))
 refine hK _ _ (λ_=>rfl) ?_;clear hK K hr;have hn:=HN.out.drewN hk nq;generalize World.drewN _ nq=y' at hn ⊢;clear HN;have HN:=qd hn;clear hn;refine Lg.move _ (λ_ _=>step_seq) (λh=>h) ?_;refine Lg.move _ (λ_ _=>step_region) (λh=>h) ?_;refine Lg.pre 0 1 1 (by simp) λK hK z τ n' hz=>?_;subst hz;go_wp2;refine hK _ _ (λ_=>rfl) ?_;clear hK K;refine Lg.call (i:=1) (rest:=[]) (f:=63) (args:=#[V]) rfl rfl (λy=>by go_simp) (hS _ _ _ _ _ _ (HN.out.re hk)) ?_;rintro vv t' w' ⟨rfl,s,H,rfl,hn⟩;clear HN;rw[Frame.finish_at];walk_nrm;refine Lg.move _ (λ_ _=>step_region_end) (λh=>h) ?_;have HN:=qd hn;clear hn;refine Lg.move _ (λ_ _=>step_seq) (λh=>h) ?_;refine Lg.code λK hK y τ n' hy=>?_;subst hy;have hn:=HN.out.re hk;clear HN;have hat:=R.at_ _ _ _ hn.rep;have s0:=hat.r.stamp (q%(rn:Int)).toNat (by omega);have z0:=hat.r.free ((q%(rn:Int)).toNat*2);have HN:=qd hn;clear hn hat
 go_wp2_with (go_at_call 33;refine(aZ _ _ _ _ s0 z0).mono ?_;rintro e w' ⟨rfl,rfl⟩)
 refine hK _ _ (λ_=>rfl) ?_;clear hK K s0 z0;replace HN:=qd (HN.out.to hk (R.stamp _ _ _ HN.out.rep (q%(rn:Int)).toNat (by omega) (2*(q / (rn:Int))-1)));generalize World.setCell _ _ _=y' at HN ⊢;refine Lg.move _ (λ_ _=>step_seq) (λh=>h) ?_;refine Lg.move _ (λ_ _=>step_region) (λh=>h) ?_;refine Lg.pre 0 1 1 (by simp) λK hK z τ n' hz=>?_;subst hz;go_wp2;refine hK _ _ (λ_=>rfl) ?_;clear hK K;refine Lg.call (i:=1) (rest:=[]) (f:=63) (args:=#[V]) rfl rfl (λy=>by go_simp) (hS _ _ _ _ _ _ (HN.out.re hk)) ?_;rintro vv t' w' ⟨rfl,s,H,rfl,hn⟩;clear HN;rw[Frame.finish_at];walk_nrm;refine Lg.move _ (λ_ _=>step_region_end) (λh=>h) ?_;have HN:=qd hn;clear hn;refine Lg.move _ (λ_ _=>step_seq) (λh=>h) ?_;refine Lg.code λK hK y τ n' hy=>?_;subst hy;have hn:=HN.out.re hk;clear HN;have hat:=R.at_ _ _ _ hn.rep;have s0:=hat.r.value (q%(rn:Int)).toNat (by omega);have z0:=hat.r.free ((q%(rn:Int)).toNat*2+1);have HN:=qd hn;clear hn hat
 go_wp2_with (go_at_call 33;refine(aZ _ _ _ _ s0 z0).mono ?_;rintro e w' ⟨rfl,rfl⟩)
 refine hK _ _ (λ_=>rfl) ?_;clear hK K s0 z0;replace HN:=qd (HN.out.to hk (R.value _ _ _ HN.out.rep (q%(rn:Int)).toNat (by omega) v));generalize World.setCell _ _ _=y' at HN ⊢;refine Lg.move _ (λ_ _=>step_seq) (λh=>h) ?_;refine Lg.move _ (λ_ _=>step_region) (λh=>h) ?_;refine Lg.pre 0 1 1 (by simp) λK hK z τ n' hz=>?_;subst hz;go_wp2;refine hK _ _ (λ_=>rfl) ?_;clear hK K;refine Lg.call (i:=1) (rest:=[]) (f:=63) (args:=#[V]) rfl rfl (λy=>by go_simp) (hS _ _ _ _ _ _ (HN.out.re hk)) ?_;rintro vv t' w' ⟨rfl,s,H,rfl,hn⟩;clear HN;rw[Frame.finish_at];walk_nrm;refine Lg.move _ (λ_ _=>step_region_end) (λh=>h) ?_;have HN:=qd hn;clear hn;refine Lg.move _ (λ_ _=>step_seq) (λh=>h) ?_;refine Lg.code λK hK y τ n' hy=>?_;subst hy;have hn:=HN.out.re hk;clear HN;have hat:=R.at_ _ _ _ hn.rep;have s0:=hat.r.stamp (q%(rn:Int)).toNat (by omega);have z0:=hat.r.free ((q%(rn:Int)).toNat*2);have HN:=qd hn;clear hn hat
 go_wp2_with (go_at_call 33;refine(aZ _ _ _ _ s0 z0).mono ?_;rintro e w' ⟨rfl,rfl⟩)
 refine hK _ _ (λ_=>rfl) ?_;clear hK K s0 z0;replace HN:=qd (HN.out.to hk (R.stamp _ _ _ HN.out.rep (q%(rn:Int)).toNat (by omega) (2*(q / (rn:Int)))));generalize World.setCell _ _ _=y' at HN ⊢;refine Lg.move _ (λ_ _=>step_seq) (λh=>h) ?_;refine Lg.code λK hK y τ n' hy=>?_;subst hy;replace HN:=qd (HN.out.re hk);go_wp2;refine hK _ _ (λ_=>rfl) ?_;refine Lg.move _ (λ_ _=>step_ret) (λh=>h) ?_;refine Lg.leave rfl Try.func58 rfl (v:=.int .i64 0) (λ_ _ _ _=>by simp[results,Try.f58]) (HR.out _ _ _ ⟨rfl,_,H,rfl,HN.out⟩)
def getT {A R:Type}(l:RLens A) (n:Nat) (q:Int) (s:A × R) (k:Int->Int->A × R->Tree (A × R) (A × R)):Tree (A × R) (A × R):=
 .yield s λs1=>if (l.get s1.1).1 (q%n).toNat<2*(q / n) then k 0 6 s1 else if 2*(q / n)<(l.get s1.1).1 (q%n).toNat then k 0 10 s1 else
  .yield s1 λs2=>.yield s2 λs3=>if (l.get s3.1).1 (q%n).toNat=(l.get s1.1).1 (q%n).toNat then k ((l.get s2.1).2 (q%n).toNat) 0 s3 else k 0 10 s3
theorem slots_get {D:OpsD}{l:RLens D.A}{rb sb rn:Nat}(R:RingIn D l rb sb rn) {L:Lg Try.prog (Tree D.St D.St)}{Cap:(Nat->Prop)->World->Prop}{V:Value}(hk:iL Cap) (hS:dC D L Cap 63 V) (hrn:0<rn) (h2:rn<=65536) (q:Int) (h0:0<=q) (h1:q<4611686018427387904) (H0:Nat->Prop) (w0:World) (s:D.St) (H:Nat->Prop) (k) (w:World) (hn:Now D Cap H0 w0 s H w) :
  Ccalls L 40 #[.pointer (some ⟨rb,0,none⟩),V,.int .i64 q] (getT l rn q s k) w λu t' w'=>∃ x e s' H',u=.tuple #[.int .i64 x,.int .i64 e]/\t'=k x e s'/\Now D Cap H0 w0 s' H' w':=by
 have hb0:0<=q%(rn:Int):=Int.emod_nonneg _ (by omega);have hb1:q%(rn:Int)<rn:=Int.emod_lt_of_pos _ (by omega);have hd0:0<=q / (rn:Int):=Int.ediv_nonneg h0 (by omega);have hd1:q / (rn:Int)<=q:=Int.ediv_le_self _ h0;intro c mid hR;have HR:=qd hR;have HN:=qd hn;clear hR hn;rw[show Frame.enter Try.prog 40 #[.pointer (some ⟨rb,0,none⟩),V,.int .i64 q] .normal=Frame.at { (default:Frame) with fn:=40,kind:=.normal } ⟨#[.pointer (some ⟨rb,0,none⟩),V,.int .i64 q]++Array.replicate (Try.f40.ntmps-3) undef,[]⟩ [.code (Try.f40.body.getD .skip)] from by simp[Frame.enter,Frame.at,Try.func40];rfl];simp only[Try.f40,Option.getD_some,Nat.reduceSub,Array.replicate_succ,Array.replicate_zero,List.push_toArray,List.append_toArray,List.nil_append,List.cons_append];unfold getT;refine Lg.move _ (λ_ _=>step_seq) (λh=>h) ?_;refine Lg.code λK hK y τ n' hy=>?_;subst hy;have hn:=HN.out.re hk;clear HN;have hr:=(R.at_ _ _ _ hn.rep).r.ring;have HN:=qd hn;clear hn;go_wp2;refine hK _ _ (λ_=>rfl) ?_;clear hK K hr;refine Lg.move _ (λ_ _=>step_seq) (λh=>h) ?_;refine Lg.code λK hK y τ n' hy=>?_;subst hy;have hn:=HN.out.re hk;clear HN;have hr:=(R.at_ _ _ _ hn.rep).r.ring;have HN:=qd hn;clear hn
 go_wp2_with (go_at_call 60;refine(gV _ _ rn _ q _ hr hrn h0 h1).mono ?_;rintro e w' ⟨rfl,rfl⟩)
 refine hK _ _ (λ_=>rfl) ?_;clear hK K hr;refine Lg.move _ (λ_ _=>step_seq) (λh=>h) ?_;refine Lg.code λK hK y τ n' hy=>?_;subst hy;have hn:=HN.out.re hk;clear HN;have hr:=(R.at_ _ _ _ hn.rep).r.ring;have HN:=qd hn;clear hn
 go_quiet (first |(go_at_call 61;exact dQ (kH _ _ rn _ q _ hr hrn h2 h0 h1)) |(go_at_call 62;exact dQ (mR _ _ rn _ q _ hr hrn h2 h0 h1)))
 refine hK _ _ (λ_=>rfl) ?_;clear hK K hr;have hn:=HN.out.drewN hk nq;generalize World.drewN _ nq=y' at hn ⊢;clear HN;have HN:=qd hn;clear hn;refine Lg.move _ (λ_ _=>step_seq) (λh=>h) ?_;refine Lg.move _ (λ_ _=>step_region) (λh=>h) ?_;refine Lg.pre 0 1 1 (by simp) λK hK z τ n' hz=>?_;subst hz;go_wp2;refine hK _ _ (λ_=>rfl) ?_;clear hK K;refine Lg.call (i:=1) (rest:=[]) (f:=63) (args:=#[V]) rfl rfl (λy=>by go_simp) (hS _ _ _ _ _ _ (HN.out.re hk)) ?_;rintro vv t' w' ⟨rfl,s,H,rfl,hn⟩;clear HN;rw[Frame.finish_at];walk_nrm;refine Lg.move _ (λ_ _=>step_region_end) (λh=>h) ?_;have HN:=qd hn;clear hn;refine Lg.move _ (λ_ _=>step_seq) (λh=>h) ?_;refine Lg.code λK hK y τ n' hy=>?_;subst hy;have hn:=HN.out.re hk;clear HN;have hat:=R.at_ _ _ _ hn.rep;have s0:=hat.r.stamp (q%(rn:Int)).toNat (by omega);have HN:=qd hn;clear hn hat
 go_wp2_with (go_at_call 39;refine(aD _ _ _ s0).mono ?_;rintro e w' ⟨rfl,rfl⟩)
 refine hK _ _ (λ_=>rfl) ?_;clear hK K s0;generalize hx:(l.get s.1).1 (q%(rn:Int)).toNat=x;refine Lg.move _ (λ_ _=>step_seq) (λh=>h) ?_;refine Lg.move _ (λ_ _=>step_block) (λh=>h) ?_;refine Lg.move _ (λ_ _=>step_seq) (λh=>h) ?_;refine Lg.code λK hK y τ n' hy=>?_;subst hy;replace HN:=qd (HN.out.re hk);go_wp2;refine hK _ _ (λ_=>rfl) ?_;clear hK K
 by_cases hlt:x<2*(q / (rn:Int))
 ·simp only [hlt,decide_true,if_true]
  refine Lg.move _ (λ_ _=>step_cond (t:=true) rfl) (λh=>h) ?_;refine Lg.move _ (λ_ _=>step_seq) (λh=>h) ?_;refine Lg.code λK hK y τ n' hy=>?_;subst hy;replace HN:=qd (HN.out.re hk);go_wp2;refine hK _ _ (λ_=>rfl) ?_;clear hK K;refine Lg.move _ (λ_ _=>step_ret) (λh=>h) ?_;refine Lg.leave rfl Try.func40 rfl (v:=.tuple #[.int .i64 0,.int .i64 6]) (λ_ _ _ _=>by simp[results,Try.f40]) (HR.out _ _ _ ⟨_,_,_,H,rfl,rfl,HN.out⟩)
 simp only[hlt,decide_false,if_false];refine Lg.move _ (λ_ _=>step_cond (t:=false) rfl) (λh=>h) ?_;refine Lg.move _ (λ_ _=>step_seq) (λh=>h) ?_;refine Lg.code λK hK y τ n' hy=>?_;subst hy;replace HN:=qd (HN.out.re hk);go_wp2;refine hK _ _ (λ_=>rfl) ?_;clear hK K
 by_cases hgt:2*(q / (rn:Int))<x
 ·simp only [hgt,decide_true,if_true]
  refine Lg.move _ (λ_ _=>step_cond (t:=true) rfl) (λh=>h) ?_;refine Lg.move _ (λ_ _=>step_seq) (λh=>h) ?_;refine Lg.code λK hK y τ n' hy=>?_;subst hy;replace HN:=qd (HN.out.re hk);go_wp2;refine hK _ _ (λ_=>rfl) ?_;clear hK K;refine Lg.move _ (λ_ _=>step_ret) (λh=>h) ?_;refine Lg.leave rfl Try.func40 rfl (v:=.tuple #[.int .i64 0,.int .i64 10]) (λ_ _ _ _=>by simp[results,Try.f40]) (HR.out _ _ _ ⟨_,_,_,H,rfl,rfl,HN.out⟩)
 simp only[hgt,decide_false,if_false];refine Lg.move _ (λ_ _=>step_cond (t:=false) rfl) (λh=>h) ?_;refine Lg.move _ (λ_ _=>step_skip) (λh=>h) ?_;refine Lg.move _ (λ_ _=>step_inBlock) (λh=>h) ?_;refine Lg.move _ (λ_ _=>step_seq) (λh=>h) ?_;refine Lg.move _ (λ_ _=>step_region) (λh=>h) ?_;refine Lg.pre 0 1 1 (by simp) λK hK z τ n' hz=>?_;subst hz;go_wp2;refine hK _ _ (λ_=>rfl) ?_;clear hK K;refine Lg.call (i:=1) (rest:=[]) (f:=63) (args:=#[V]) rfl rfl (λy=>by go_simp) (hS _ _ _ _ _ _ (HN.out.re hk)) ?_;rintro vv t' w' ⟨rfl,s,H,rfl,hn⟩;clear HN;rw[Frame.finish_at];walk_nrm;refine Lg.move _ (λ_ _=>step_region_end) (λh=>h) ?_;have HN:=qd hn;clear hn;refine Lg.move _ (λ_ _=>step_seq) (λh=>h) ?_;refine Lg.code λK hK y τ n' hy=>?_;subst hy;have hn:=HN.out.re hk;clear HN;have hat:=R.at_ _ _ _ hn.rep;have s0:=hat.r.value (q%(rn:Int)).toNat (by omega);have HN:=qd hn;clear hn hat
 go_wp2_with (go_at_call 39;refine(aD _ _ _ s0).mono ?_;rintro e w' ⟨rfl,rfl⟩)
 refine hK _ _ (λ_=>rfl) ?_;clear hK K s0;refine Lg.move _ (λ_ _=>step_seq) (λh=>h) ?_;refine Lg.move _ (λ_ _=>step_region) (λh=>h) ?_;refine Lg.pre 0 1 1 (by simp) λK hK z τ n' hz=>?_;subst hz;go_wp2;refine hK _ _ (λ_=>rfl) ?_;clear hK K;refine Lg.call (i:=1) (rest:=[]) (f:=63) (args:=#[V]) rfl rfl (λy=>by go_simp) (hS _ _ _ _ _ _ (HN.out.re hk)) ?_;rintro vv t' w' ⟨rfl,s,H,rfl,hn⟩;clear HN;rw[Frame.finish_at];walk_nrm;refine Lg.move _ (λ_ _=>step_region_end) (λh=>h) ?_;have HN:=qd hn;clear hn;refine Lg.move _ (λ_ _=>step_seq) (λh=>h) ?_;refine Lg.move _ (λ_ _=>step_seq) (λh=>h) ?_;refine Lg.code λK hK y τ n' hy=>?_;subst hy;have hn:=HN.out.re hk;clear HN;have hat:=R.at_ _ _ _ hn.rep;have s0:=hat.r.stamp (q%(rn:Int)).toNat (by omega);have HN:=qd hn;clear hn hat
 go_wp2_with (go_at_call 39;refine(aD _ _ _ s0).mono ?_;rintro e w' ⟨rfl,rfl⟩)
 refine hK _ _ (λ_=>rfl) ?_;clear hK K s0;generalize (l.get s.1).1 (q%(rn:Int)).toNat=z
 by_cases hne:z=x
 ·subst hne
  simp only[bne_self_eq_false,if_true];refine Lg.move _ (λ_ _=>step_cond (t:=false) rfl) (λh=>h) ?_;refine Lg.move _ (λ_ _=>step_skip) (λh=>h) ?_;refine Lg.move _ (λ_ _=>step_seq) (λh=>h) ?_;refine Lg.code λK hK y τ n' hy=>?_;subst hy;replace HN:=qd (HN.out.re hk);go_wp2;refine hK _ _ (λ_=>rfl) ?_;clear hK K;refine Lg.move _ (λ_ _=>step_ret) (λh=>h) ?_;refine Lg.leave rfl Try.func40 rfl (v:=.tuple #[_,.int .i64 0]) (λ_ _ _ _=>by simp[results,Try.f40]) (HR.out _ _ _ ⟨_,_,_,H,rfl,rfl,HN.out⟩)
 ·have hb:(z !=x)=true:=by simpa using hne
  simp only[hb,if_neg hne];refine Lg.move _ (λ_ _=>step_cond (t:=true) rfl) (λh=>h) ?_;refine Lg.move _ (λ_ _=>step_seq) (λh=>h) ?_;refine Lg.code λK hK y τ n' hy=>?_;subst hy;replace HN:=qd (HN.out.re hk);go_wp2;refine hK _ _ (λ_=>rfl) ?_;clear hK K;refine Lg.move _ (λ_ _=>step_ret) (λh=>h) ?_;refine Lg.leave rfl Try.func40 rfl (v:=.tuple #[.int .i64 0,.int .i64 10]) (λ_ _ _ _=>by simp[results,Try.f40]) (HR.out _ _ _ ⟨_,_,_,H,rfl,rfl,HN.out⟩)
end Go.Proofs.Ytlcplealnbekeaa
namespace Go.Proofs.Ytlcplealnbekeaa
open Go.RowKit
theorem Try.info64:(Try.prog.info? 2).map (λi=>(i.zero,i.size,i.bytes))=some (some (.int .i64 0),1,8):=by kernel_rfl
def fL (f:Nat->Int) (k:Nat):List Int:=(List.range k).map f
theorem pQ (f:Nat->Int) (k:Nat):fL f (k+1)=fL f k++[f k]:=by simp[fL,List.range_succ]
def sE (w0:World) (n:Nat) (xs:List Int) (e:Ending) (w':World):Prop:=∃ v,e=.returned v/\w'.ownsRow w0.heap.size 2 1 v n (xs.map (Value.int .i64))/\Below w0.heap.size w0 w'
theorem qP (w:World) (v:Value) (t:TypeId):∀ j u,[v][j]?=some u->(w.alloc (.cells #[v] t)).cell? ((⟨w.heap.size,0,none⟩:Addr).add j)=some u:=by
 intro j u h;cases j with
 | zero =>
   simp only[List.getElem?_cons_zero,Option.some.injEq] at h;subst h;exact(Blk.new w t #[v]).cell 0
 | succ j=>simp at h
theorem pL (w:World) (rb sb n:Nat) (st va:Nat->Int) (H:RingAt w rb sb n st va):Calls Try.prog 46 #[.pointer (some ⟨rb,0,none⟩)] w (sE w n (fL st n)):=by
 have hn:=H.pos;have h2:=H.most;have hr:=H.ring;have HH:=qd H;obtain⟨i0,hi0,hz0,hz1,hz2⟩:=info_parts Try.info64;clear H
 go_enter Try.func46,Try.ntmps46
 go_wp2_with (go_at_call 69;refine(lH _ _ n _ _ hr).mono ?_;rintro e w' ⟨rfl,rfl⟩)
 clear hr
 go_loopw [3,7] (λo i wr=>∃ j:Nat,j<=n/\i=.int .i64 j/\wr.ownsRow w.heap.size 2 1 o j ((fL st j).map (Value.int .i64))/\Below w.heap.size w wr) (λ_ i _=>n-(intOf i).toNat)
 case atStart=>exact⟨0,Nat.zero_le _,rfl,⟨by simp[fL],.inl ⟨rfl,rfl⟩⟩,Below.refl _ _⟩
 case round =>
  obtain⟨j,hj,rfl,hown,hb⟩:=hrel;obtain⟨A,cap,rfl⟩:=aQ hown;have HO:=qd hown;have HR:=qd (HH.out.kept (Kept.of_below (S:=λ_=>False) hb) id id);have d2:=HR.out.ring;clear hown
  by_cases hlt:j<n
  ·have hcell:=HR.out.stamp j hlt
   have hb1:w.heap.size<=wr.heap.size:=hb.size
   go_wp2_with (first
    | (go_at_call 39;refine(aD _ _ _ hcell).mono ?_;rintro e w' ⟨rfl,rfl⟩)
    | (at_builtin;refine wpList_append_own _ rfl _ _ 29 rfl w.heap.size 2 i0 (.int .i64 0) 1 8 Try.underlying29 hi0 hz0 hz1 hz2 rfl (by decide) _ _ _ rfl (HO.out.alloc _) ⟨wr.heap.size,0,none⟩ 1 1 [.int .i64 (st j)] rfl rfl ?c1 ?c2 ?c3 ?c4 ?c5 ?_))
   case c1=>exact qP _ _ _
   case c2=>simp[Value.oneCell']
   case c3=>unfold maxLen;omega
   case c4=>omega
   case c5=>simp;omega
   intro v' w3 hown1 hg1 _;have ho1:w3.ownsRow w.heap.size 2 1 v' (j+1) ((fL st (j+1)).map (Value.int .i64)):=by rw[pQ,List.map_append];exact hown1
   have hb3:Below w.heap.size w w3:=(hb.alloc hb.size _).grown hg1 (by simp;omega) (λk hk=>(HO.out.lt k hk).1);have HO2:=qd (And.intro ho1 hb3);clear hown1 hg1 ho1 hb3;go_wp2;go_roundw
   case rel=>exact⟨j+1,by omega,by go_num,HO2.out.1,HO2.out.2⟩
   case measure=>simp[intOf];omega
  ·go_wp2
   go_ret;have ej:j=n:=by omega
   exact⟨_,rfl,by rw[<-ej];exact HO.out,hb⟩
theorem pI (w:World) (rb sb n:Nat) (st va:Nat->Int) (H:RingAt w rb sb n st va):Calls Try.prog 47 #[.pointer (some ⟨rb,0,none⟩)] w (sE w n (fL va n)):=by
 have hn:=H.pos;have h2:=H.most;have hr:=H.ring;have HH:=qd H;obtain⟨i0,hi0,hz0,hz1,hz2⟩:=info_parts Try.info64;clear H
 go_enter Try.func47,Try.ntmps47
 go_wp2_with (go_at_call 69;refine(lH _ _ n _ _ hr).mono ?_;rintro e w' ⟨rfl,rfl⟩)
 clear hr
 go_loopw [3,7] (λo i wr=>∃ j:Nat,j<=n/\i=.int .i64 j/\wr.ownsRow w.heap.size 2 1 o j ((fL va j).map (Value.int .i64))/\Below w.heap.size w wr) (λ_ i _=>n-(intOf i).toNat)
 case atStart=>exact⟨0,Nat.zero_le _,rfl,⟨by simp[fL],.inl ⟨rfl,rfl⟩⟩,Below.refl _ _⟩
 case round =>
  obtain⟨j,hj,rfl,hown,hb⟩:=hrel;obtain⟨A,cap,rfl⟩:=aQ hown;have HO:=qd hown;have HR:=qd (HH.out.kept (Kept.of_below (S:=λ_=>False) hb) id id);have d2:=HR.out.ring;clear hown
  by_cases hlt:j<n
  ·have hcell:=HR.out.value j hlt
   have hb1:w.heap.size<=wr.heap.size:=hb.size
   go_wp2_with (first
    | (go_at_call 39;refine(aD _ _ _ hcell).mono ?_;rintro e w' ⟨rfl,rfl⟩)
    | (at_builtin;refine wpList_append_own _ rfl _ _ 29 rfl w.heap.size 2 i0 (.int .i64 0) 1 8 Try.underlying29 hi0 hz0 hz1 hz2 rfl (by decide) _ _ _ rfl (HO.out.alloc _) ⟨wr.heap.size,0,none⟩ 1 1 [.int .i64 (va j)] rfl rfl ?c1 ?c2 ?c3 ?c4 ?c5 ?_))
   case c1=>exact qP _ _ _
   case c2=>simp[Value.oneCell']
   case c3=>unfold maxLen;omega
   case c4=>omega
   case c5=>simp;omega
   intro v' w3 hown1 hg1 _;have ho1:w3.ownsRow w.heap.size 2 1 v' (j+1) ((fL va (j+1)).map (Value.int .i64)):=by rw[pQ,List.map_append];exact hown1
   have hb3:Below w.heap.size w w3:=(hb.alloc hb.size _).grown hg1 (by simp;omega) (λk hk=>(HO.out.lt k hk).1);have HO2:=qd (And.intro ho1 hb3);clear hown1 hg1 ho1 hb3;go_wp2;go_roundw
   case rel=>exact⟨j+1,by omega,by go_num,HO2.out.1,HO2.out.2⟩
   case measure=>simp[intOf];omega
  ·go_wp2
   go_ret;have ej:j=n:=by omega
   exact⟨_,rfl,by rw[<-ej];exact HO.out,hb⟩
end Go.Proofs.Ytlcplealnbekeaa
namespace Go.Proofs.Ytlcplealnbekeaa
open Go.RowKit
def oY (p:Option Addr) (q:Int) (w:World):Prop:=Calls Try.prog 60 #[.pointer p,.int .i64 q] w λe w'=>e=.returned (.bool false)/\w=w'
theorem bad_low (a:Addr) (sa:Option Addr) (n c:Nat) (q:Int) (w:World) (h:w.cell? a=some (.slice sa n c)) (hq:q<0):oY (some a) q w:=by
 unfold oY
 by_cases hn:0<n
 ·go_enter Try.func60,Try.ntmps60
  go_wp2;go_ret;exact⟨by first |(simp;done) |(simp;omega),rfl⟩
 ·go_enter Try.func60,Try.ntmps60
  go_wp2;go_ret;exact⟨by first |(simp;done) |(simp;omega),rfl⟩
theorem bad_high (a:Addr) (sa:Option Addr) (n c:Nat) (q:Int) (w:World) (h:w.cell? a=some (.slice sa n c)) (hq:4611686018427387904<=q):oY (some a) q w:=by
 unfold oY
 by_cases hn:0<n
 ·go_enter Try.func60,Try.ntmps60
  go_wp2;go_ret;exact⟨by first |(simp;done) |(simp;omega),rfl⟩
 ·go_enter Try.func60,Try.ntmps60
  go_wp2;go_ret;exact⟨by first |(simp;done) |(simp;omega),rfl⟩
section
variable {p:Option Addr}{q:Int}{w:World}
theorem put_bad (h:oY p q w) (S:Value) (v:Int):Calls Try.prog 58 #[.pointer p,S,.int .i64 q,.int .i64 v] w λe w'=>e=.returned (.int .i64 1)/\w=w':=by
 go_enter Try.func58,Try.ntmps58
 go_wp2_with (go_at_call 60;refine(show Calls _ _ _ _ _ from h).mono ?_;rintro e w' ⟨rfl,rfl⟩)
 go_ret;exact⟨rfl,rfl⟩
theorem get_bad (h:oY p q w) (S:Value):Calls Try.prog 40 #[.pointer p,S,.int .i64 q] w λe w'=>e=.returned (.tuple #[.int .i64 0,.int .i64 1])/\w=w':=by
 go_enter Try.func40,Try.ntmps40
 go_wp2_with (go_at_call 60;refine(show Calls _ _ _ _ _ from h).mono ?_;rintro e w' ⟨rfl,rfl⟩)
 go_ret2
 exact⟨rfl,rfl⟩
end
end Go.Proofs.Ytlcplealnbekeaa
namespace Go.Proofs.Ytlcplealnbekeaa
open Go.RowKit Go.Turn Go.Tame Go.Conc
structure Own1 (D:OpsD) (w0:World) (H:Nat->Prop) (w:World) (b:Nat) (t:TypeId) (cs:Array Value):Prop where
 blk:Blk w b t cs
 nh:¬H b
 ge:w0.heap.size<=b
 nr:¬D.RB b
section
variable {D:OpsD}{Cap:(Nat->Prop)->World->Prop}{H0 H H':Nat->Prop}{w0 w w' y:World}{s s':D.St}{b b':Nat}{t t':TypeId}{cs cs':Array Value}
theorem Now.rlt (h:Now D Cap H0 w0 s H w) (hb:D.RB b):b<w.heap.size:=by
 obtain⟨c,t,r,hv⟩:=D.rbc b hb;obtain⟨r',k⟩:=h.rep.rb b c t r hb hv;exact aB k
theorem Now.alloc (h:Now D Cap H0 w0 s H w) (o:Obj):Now D Cap H0 w0 s H (w.alloc o):=⟨h.rep.alloc o,h.cap0,h.held.trans (Held.alloc H w o)⟩
theorem Now.own (h:Now D Cap H0 w0 s H w) (t:TypeId) (cs:Array Value):Own1 D w0 H (w.alloc (.cells cs t)) w.heap.size t cs:=
 ⟨Blk.new w t cs,λz=>Nat.lt_irrefl _ (h.rep.lt z),h.held.size,λz=>Nat.lt_irrefl _ (h.rlt z)⟩
theorem Own1.alloc (h:Own1 D w0 H w b t cs) (o:Obj):Own1 D w0 H (w.alloc o) b t cs:=⟨h.blk.alloc o,h.nh,h.ge,h.nr⟩
theorem Own1.set_ (h:Own1 D w0 H w b t cs) (i:Nat) (u:Value):Own1 D w0 H (w.setCell ⟨b,i,none⟩ u) b t (cs.setIfInBounds i u):=⟨h.blk.set_ i u,h.nh,h.ge,h.nr⟩
theorem Own1.far (h:Own1 D w0 H w b t cs) (hb:b≠b') (i:Nat) (u:Value):Own1 D w0 H (w.setCell ⟨b',i,none⟩ u) b t cs:=⟨h.blk.far hb u,h.nh,h.ge,h.nr⟩
theorem Own1.held (h:Own1 D w0 H w b t cs) (hh:Held H w H' w'):Own1 D w0 H' w' b t cs:=by
 obtain⟨h1,h2⟩:=hh.block b cs t (0,0) h.blk h.nh (.inl (by decide));exact⟨h1,h2,h.ge,h.nr⟩
theorem Own1.re {τ:Nat->Question->Nat}{n:Nat}(h:Own1 D w0 H (y.re τ n) b t cs):Own1 D w0 H y b t cs:=⟨h.blk,h.nh,h.ge,h.nr⟩
theorem Now.set_ (h:Now D Cap H0 w0 s H w) (ho:Own1 D w0 H w b t cs) (i:Nat) (u:Value):Now D Cap H0 w0 s H (w.setCell ⟨b,i,none⟩ u):=
 ⟨h.rep.set_ (p:=⟨b,i,none⟩) ho.nh ho.nr u,h.cap0,kX h.held ho.ge u⟩
theorem Now.here (hk:iL Cap) (h:Now D Cap H0 w0 s H w):Now D Cap H w s H w:=⟨h.rep,hk _ _ _ _ h.cap0 h.held,Held.refl _ _⟩
theorem Now.on (h:Now D Cap H0 w0 s H w) (h':Now D Cap H w s' H' w'):Now D Cap H0 w0 s' H' w':=⟨h'.rep,h.cap0,h.held.trans h'.held⟩
theorem Now.kept (h:Now D Cap H0 w0 s H w) (hk:Kept (λ_=>False) w w'):Now D Cap H0 w0 s H w':=
 ⟨RepO.law D s H w w' h.rep (λb hb=>hk.block b (h.rep.lt hb) id) λb c t r _ hb=>⟨r,(hk.block b (aB hb) id).trans hb⟩,h.cap0,h.held.trans ⟨hk.size,λb c t r hb hn _=>⟨(hk.block b (aB hb) id).trans hb,hn⟩⟩⟩
theorem Own1.kept (h:Own1 D w0 H w b t cs) (hk:Kept (λ_=>False) w w'):Own1 D w0 H w' b t cs:=⟨(hk.block b h.blk.lt id).trans h.blk,h.nh,h.ge,h.nr⟩
end
theorem own_nil (w:World) (base:Nat) (t:TypeId) (size:Nat):w.ownsRow base t size (.slice none 0 0) 0 []:=⟨by simp,.inl ⟨rfl,rfl⟩⟩
structure OutRow (D:OpsD) (w0:World) (H:Nat->Prop) (w:World) (v:Value) (ls:List Int):Prop where
 own:w.ownsRow w0.heap.size 2 1 v ls.length (ls.map (Value.int .i64))
 nh:∀ b,v.ownBlock=some b->¬H b/\¬D.RB b
section
variable {D:OpsD}{Cap:(Nat->Prop)->World->Prop}{H0 H H':Nat->Prop}{w0 w w' y:World}{s s':D.St}{v:Value}{ls:List Int}
theorem OutRow.nil:OutRow D w0 H w (.slice none 0 0) []:=⟨own_nil _ _ _ _,λb hb=>by simp[Value.ownBlock] at hb⟩
theorem OutRow.blk (h:OutRow D w0 H w v ls) {b:Nat}(hb:v.ownBlock=some b):w0.heap.size<=b/\∃ cur,w.heap[b]?=some (.cells cur 2 (0,0)):=by
 rcases h.own.2 with⟨e,_⟩ | ⟨g,cap,cur,e,hg,k,_⟩
 ·rw [e] at hb;simp[Value.ownBlock] at hb
 ·rw [e] at hb;simp only[Value.ownBlock,Option.some.injEq] at hb;subst hb;exact⟨hg,cur,k⟩
theorem OutRow.held (h:OutRow D w0 H w v ls) (hh:Held H w H' w'):OutRow D w0 H' w' v ls:=by
 have key:∀ b,v.ownBlock=some b->w'.heap[b]?=w.heap[b]?/\¬H' b:=λb hb=>by
  obtain⟨_,cur,k⟩:=h.blk hb;obtain⟨h1,h2⟩:=hh.block b cur _ (0,0) k (h.nh b hb).1 (.inl (by decide));exact⟨h1.trans k.symm,h2⟩
 exact⟨bT h.own λb hb=>(key b hb).1,λb hb=>⟨(key b hb).2,(h.nh b hb).2⟩⟩
theorem OutRow.re {τ:Nat->Question->Nat}{n:Nat}(h:OutRow D w0 H (y.re τ n) v ls):OutRow D w0 H y v ls:=⟨h.own,h.nh⟩
theorem OutRow.kept (h:OutRow D w0 H w v ls) (hk:Kept (λ_=>False) w w'):OutRow D w0 H w' v ls:=
 ⟨bT h.own λb hb=>by obtain⟨_,cur,k⟩:=h.blk hb;exact hk.block b (aB k) id,h.nh⟩
theorem Now.grown (h:Now D Cap H0 w0 s H w) {row:Option Nat}(hg:w.grownBy w' row) (hr:∀ b,row=some b->w0.heap.size<=b/\¬H b/\¬D.RB b):Now D Cap H0 w0 s H w':=by
 have same:∀ b,b<w.heap.size->(H b\/D.RB b\/b<w0.heap.size)->w'.heap[b]?=w.heap[b]?:=λb hb hc=>hg.block b hb λe=>by
  obtain⟨h1,h2,h3⟩:=hr b e.symm
  rcases hc with hc | hc | hc
  ·exact h2 hc
  ·exact h3 hc
  ·omega
 refine⟨RepO.law D s H w w' h.rep (λb hb=>same b (h.rep.lt hb) (.inl hb)) λb c t r hb hx=>⟨r,(same b (aB hx) (.inr (.inl hb))).trans hx⟩,h.cap0,⟨Nat.le_trans h.held.size hg.size,λb c t r hb hn hr=>?_⟩⟩;obtain⟨h1,h2⟩:=h.held.block b c t r hb hn hr;exact⟨(same b (aB h1) (.inr (.inr (aB hb)))).trans h1,h2⟩
end
end Go.Proofs.Ytlcplealnbekeaa
namespace Go.Proofs.Ytlcplealnbekeaa
open Go.RowKit
theorem dJ {w:World}{base g cap n:Nat}{e:TypeId}{xs:List Value}(h:w.ownsRow base e 1 (.slice (some ⟨g,0,none⟩) n cap) n xs):∀ j u,xs[j]?=some u->w.cell? ((⟨g,0,none⟩:Addr).add j)=some u:=by
 intro j u hj;have hl:xs.length=n:=by simpa using h.1
 have hjl:j<xs.length:=(List.getElem?_eq_some_iff.1 hj).1;have hc:=h.cellAt (g:=g) j (by omega);have e0:(⟨g,0,none⟩:Addr).add j=⟨g,j,none⟩:=by unfold Addr.add;split <;> simp_all
 rw[e0,hc,hj]
theorem kJ {w:World}{base:Nat}{e:TypeId}{size n cap:Nat}{A:Option Addr}{xs:List Value}(h:w.ownsRow base e size (.slice A n cap) n xs) (hn:0<n):∃ g,A=some ⟨g,0,none⟩/\base<=g/\g<w.heap.size:=by
 rcases h.2 with⟨e,_⟩ | ⟨g,cap',cur,e,hg,hh,_⟩
 ·cases e;omega
 ·cases e
  refine⟨g,rfl,hg,?_⟩
  rcases Nat.lt_or_ge g w.heap.size with hlt | hge
  ·exact hlt
  ·rw [Array.getElem?_eq_none hge] at hh;cases hh
theorem mL {w:World}{base n cap size:Nat}{A:Option Addr}{e:TypeId}{xs:List Value}(h:w.ownsRow base e size (.slice A n cap) n xs):n<=cap:=by
 rcases h.2 with⟨e,_⟩ | ⟨g,cap',cur,e,hg,_,h1,_⟩
 ·cases e;omega
 ·cases e;exact h1
end Go.Proofs.Ytlcplealnbekeaa
namespace Go.Proofs.Ytlcplealnbekeaa
theorem strictL {P:Program}{c:Code}{Q:Exit->Act->World->Prop}{a:Act}{w:World}(h:c.wp P (λe a' w'=>e=.normal/\Q .normal a' w') a w):c.wp P Q a w:=wp_mono h (by rintro e a w ⟨rfl,h⟩;exact h)
theorem opL {P:Program}{ops:Array Oper}{Q:Exit->Act->World->Prop}{i:Nat}{K:Act->World->Prop}{a:Act}{w:World}{o:Oper}(ho:ops[i]?=some o) (hw:Region.wanted o (yielded ops a.tmps)=true) (h:o.wp P a w K Q):wpOp P ops Q i K a w:=by
 unfold wpOp;rw[ho];simp only[hw,if_true];exact .inl h
theorem cW {P:Program}{ops:Array Oper}{md:Region.Mode}{Q:Exit->Act->World->Prop}{S:World->Prop}{i fuel:Nat}{listed:Array Bool}{a:Act}{w:World}{o:Oper}(hr:Region.ready md ops listed=[i]) (ho:ops[i]?=some o) (hw:Region.wanted o (yielded ops a.tmps)=true)
  (h:∀ K:Act->World->Prop,(∀ a' w',S w'->wpAnyH P md ops Q S fuel (listed.setIfInBounds i true) a' w'->K a' w')->o.wp P a w K Q):wpAnyH P md ops Q S (fuel+1) listed a w:=
 wpAnyH_all hr (by simp) λj hj=>by
  simp only[List.mem_singleton] at hj;subst hj;exact opL ho hw (h _ λ_ _ h1 h2=>⟨h1,h2⟩)
theorem rdL {P:Program}{ops:Array Oper}{md:Region.Mode}{Q:Exit->Act->World->Prop}{S:World->Prop}{listed:Array Bool}{a:Act}{w:World}(i fuel:Nat) (d:Tmp)
  (h : ∃ o,ops[i]?=some o/\o.dst=some d/\Region.noSelect ops=true/\Region.free md ops listed i=true/\(Region.ready md ops listed).contains i=true/\(∀ c a w,¬Q (.panic c) a w)/\Region.wanted o (yielded ops a.tmps)=true/\S w /\
    ∃ v,(∀ wq,S wq->(execOp a.eval o).run P wq=.ok (.value v) wq)/\wpAnyH P md ops Q S fuel (listed.setIfInBounds i true) (a.put (some d) v) w):wpAnyH P md ops Q S (fuel+1) listed a w:=by
 obtain⟨o,h1,h2,h3,h4,h5,h6,h7,h8,v,h9,h10⟩:=h;rw[<-h2] at h10;exact wpAnyH_take h1 h3 h4 h5 (λc a w q=>absurd q (h6 c _ w)) (.inl ⟨h7,h9⟩) h8 h10
end Go.Proofs.Ytlcplealnbekeaa
namespace Go.Proofs.Ytlcplealnbekeaa
open Go.RowKit
def Shp (w w':World):Prop:=∀ (b:Nat) (c:Array Value) (t:TypeId),w.heap[b]?=some (.cells c t (0,0))->∃ c':Array Value,w'.heap[b]?=some (.cells c' t (0,0))/\c'.size=c.size
def Pre (g:Option Nat) (m:Nat) (w w':World):Prop:=∀ (b:Nat) (c:Array Value) (t:TypeId),w.heap[b]?=some (.cells c t (0,0))->∃ c':Array Value,w'.heap[b]?=some (.cells c' t (0,0))/\c'.size=c.size/\∀ j,(some b≠g\/j<m)->c'[j]?=c[j]?
section
variable {w w' w'':World}{g:Option Nat}{m:Nat}
theorem Shp.refl (w:World):Shp w w:=λb c t h=>⟨c,h,rfl⟩
theorem Shp.trans (h:Shp w w') (k:Shp w' w''):Shp w w'':=λb c t hb=>by
 obtain⟨c1,h1,s1⟩:=h b c t hb;obtain⟨c2,h2,s2⟩:=k b c1 t h1;exact⟨c2,h2,s2.trans s1⟩
theorem Pre.shp (h:Pre g m w w'):Shp w w':=λb c t hb=>by
 obtain⟨c',h1,h2,-⟩:=h b c t hb;exact⟨c',h1,h2⟩
theorem Pre.of_same (h:∀ b,b<w.heap.size->w'.heap[b]?=w.heap[b]?):Pre g m w w':=λb c t hb=>⟨c,(h b (Blk.lt (t:=t) (cs:=c) hb)).trans hb,rfl,λ_ _=>rfl⟩
theorem Shp.kept (h:Kept (λ_=>False) w w'):Shp w w':=(Pre.of_same (g:=none) (m:=0) λb hb=>h.block b hb id).shp
theorem Shp.setCell (b i:Nat) (u:Value) (w:World):Shp w (w.setCell ⟨b,i,none⟩ u):=λk c t hk=>by
 by_cases e:k=b
 ·subst e
  exact⟨_,Blk.set_ (t:=t) (cs:=c) hk i u,by simp⟩
 ·exact ⟨c,Blk.far (t:=t) (cs:=c) hk (p:=⟨b,i,none⟩) e u,rfl⟩
theorem own_lt {b1:Nat}{e1:TypeId}{s1 n1:Nat}{v1:Value}{x1:List Value}(h1:w.ownsRow b1 e1 s1 v1 n1 x1) {b:Nat}(k1:v1.ownBlock=some b):b1<=b/\b<w.heap.size/\∃ c,Blk w b e1 c:=by
 rcases h1.2 with⟨rfl,_⟩ | ⟨g1,c1,u1,rfl,q,p1,_⟩
 ·cases k1
 simp only[Value.ownBlock,Option.some.injEq] at k1;subst k1;exact⟨q,Blk.lt (t:=e1) (cs:=u1) p1,u1,p1⟩
end
section
variable {P:Program}(w:World)
end
end Go.Proofs.Ytlcplealnbekeaa
namespace Go.Proofs.Ytlcplealnbekeaa
open Go.RowKit Go.Turn Go.Tame Go.Conc
theorem Old.below {B:Nat}{a b c:World}(h:Old B a b) (k:Below b.heap.size b c) (hB:B<=b.heap.size):Old B a c:=
 h.trans ⟨k.size,λi hi=>k.block i (by omega),k.os,k.output⟩
structure OpsCells (W0:World) (good:OpI->Prop) (w0:World) (n:Nat) (A:Nat->Option Addr) (len:Nat->Nat) (ops:Nat->List OpI):Prop where
 len:∀ i,i<n->(ops i).length=min (len i) 65536
 good:∀ i,i<n->∀ o∈ops i,good o
 cells:∀ i,i<n->∀ j (h:j<(ops i).length),∃ b o cs t r,A i=some ⟨b,o,none⟩/\w0.heap[b]?=some (.cells cs t r)/\(r.2<big\/b<W0.heap.size)/\∀ m,m<4->cs[o+j*4+m]?=(ops i)[j].cells[m]?
theorem OpsCells.opsIn {I:Inner}{good:OpI->Prop}{a0:I.A}{W0 w0 w1:World}{n:Nat}{A:Nat->Option Addr}{len:Nat->Nat}{ops:Nat->List OpI}(h:OpsCells W0 good w0 n A len ops) (ho:Old w0.heap.size w0 w1) (hat:I.At a0 w1) (hbi:∀ b,I.BI b->(∃ c t r,w1.heap[b]?=some (.cells c t r)/\r.2<big)/\w0.heap.size<=b) (hbx:I.Box a0 (λ_=>False) w1):OpsIn W0 I good a0 w1 n A len ops where
 at_:=hat
 box:=hbx
 bi:=λb hb=>(hbi b hb).1
 len:=h.len
 good:=h.good
 cells:=fun i hi j hj=>by
  obtain⟨b,o,cs,t,r,h1,h2,h3,h4⟩:=h.cells i hi j hj;have hlt:=aB h2;exact⟨b,o,cs,t,r,h1,(ho.block b hlt).trans h2,h3,λz=>by have:=(hbi b z).2;omega,h4⟩
structure PlayG (W0:World) {A:Type}(sL:Nat) (stf:A->List Int) (R:Run (A × (Nat->List Ans))) (n:Nat) (w0:World) (v:Value) (w':World):Prop where
 ex : ∃ (ab:Nat) (ov tv:Value) (H:Nat->Prop),w0.heap.size<=ab/\v=.agg #[.slice (some ⟨ab,0,none⟩) n n,ov,tv,.bool (decide (0<R.m.left n))] /\
  w'.ownsRow w0.heap.size 3 1 ov R.order.length (R.order.map (Value.int .i64)) /\
  w'.ownsRow w0.heap.size 2 1 tv sL ((stf R.m.s.1).map (Value.int .i64)) /\
  AnsAll w' ab n R.m.s.2 H/\(∀ (b:Nat) (c:Array Value) (t:TypeId) (r:Nat × Nat),(b<W0.heap.size\/r.2<big)->w0.heap[b]?=some (.cells c t r)->¬H b)/\∀ b,tv.ownBlock=some b->¬H b
 size:w0.heap.size<=w'.heap.size
 near:∀ (b:Nat) (c:Array Value) (t:TypeId) (r:Nat × Nat),(b<W0.heap.size\/r.2<big)->w0.heap[b]?=some (.cells c t r)->w'.heap[b]?=some (.cells c t r)
 io:w'.os=w0.os/\w'.output=w0.output
def AnsAt (w:World) (v:Value) (l:List Ans):Prop:=∃ A c,v=.slice A l.length c/\∀ i (h:i<l.length),∃ b o lv,A=some ⟨b,o,none⟩/\w.cell? ⟨b,o+i*3,none⟩=some (.bool l[i].ok)/\w.cell? ⟨b,o+i*3+1,none⟩=some (.int .i64 l[i].n)/\w.cell? ⟨b,o+i*3+2,none⟩=some lv/\IntsAt w lv l[i].ls/\l[i].ls.length<=maxLen
theorem IntsAt.below {w w':World}{v:Value}{xs:List Int}(h:IntsAt w v xs) (hk:Below w.heap.size w w'):IntsAt w' v xs:=by
 obtain⟨A,c,e,h1⟩:=h;refine⟨A,c,e,λi hi=>?_⟩;obtain⟨b,o,h2,h3,h4⟩:=h1 i hi;exact⟨b,o,h2,Nat.lt_of_lt_of_le h3 hk.size,(World.cell?_of_block (w:=w) (hk.block b h3)).trans h4⟩
theorem AnsAt.below {w w':World}{v:Value}{l:List Ans}(h:AnsAt w v l) (hk:Below w.heap.size w w'):AnsAt w' v l:=by
 obtain⟨A,c,e,h1⟩:=h;refine⟨A,c,e,λi hi=>?_⟩;obtain⟨b,o,lv,h2,h3,h4,h5,h6,h7⟩:=h1 i hi;have hb:w'.heap[b]?=w.heap[b]?:=hk.block b (bG h3);exact⟨b,o,lv,h2,(World.cell?_of_block (w:=w) hb).trans h3,(World.cell?_of_block (w:=w) hb).trans h4,(World.cell?_of_block (w:=w) hb).trans h5,h6.below hk,h7⟩
structure TraceAt (w:World) (n:Nat) (ans:Nat->List Ans) (ord sta:List Int) (A:Option Addr) (c:Nat) (ov tv:Value):Prop where
 ord:IntsAt w ov ord/\ord.length<=maxLen
 sta:IntsAt w tv sta/\sta.length<=maxLen
 row:∀ i,i<n->∃ b o row,A=some ⟨b,o,none⟩/\w.cell? ⟨b,o+i,none⟩=some row/\AnsAt w row (ans i)/\(ans i).length<=maxLen
theorem TraceAt.below {w w':World}{n:Nat}{ans:Nat->List Ans}{ord sta:List Int}{A:Option Addr}{c:Nat}{ov tv:Value}(h:TraceAt w n ans ord sta A c ov tv) (hk:Below w.heap.size w w'):TraceAt w' n ans ord sta A c ov tv:=
 ⟨⟨h.ord.1.below hk,h.ord.2⟩,⟨h.sta.1.below hk,h.sta.2⟩,λi hi=>by
   obtain⟨b,o,row,h1,h2,h3,h4⟩:=h.row i hi;exact⟨b,o,row,h1,(World.cell?_of_block (w:=w) (hk.block b (bG h2))).trans h2,h3.below hk,h4⟩⟩
theorem fN {w:World}{base:Nat}{e:TypeId}{size n:Nat}{v:Value}{xs:List Value}(h:w.ownsRow base e size v n xs):n<=maxLen:=by
 rcases h.2 with⟨_,rfl⟩ | ⟨g,cap,cur,_,_,_,h1,h2,_⟩
 ·exact Nat.zero_le _
 ·omega
theorem AnsRow.at_ {w:World}{G:Nat->Prop}:∀ {l:List Ans}{xs:List Value},AnsRow w G l xs->∀ i (h:i<l.length),∃ lv,xs[i*3]?=some (.bool l[i].ok)/\xs[i*3+1]?=some (.int .i64 l[i].n)/\xs[i*3+2]?=some lv/\LsAt w lv l[i].ls
 | [],_,_,i,h=>absurd h (Nat.not_lt_zero i)
 | a::l,xs,⟨lv,xs',e,h1,_,h3⟩,0,_=>⟨lv,by rw[e];rfl,by rw[e];rfl,by rw[e];rfl,h1⟩
 | a::l,xs,⟨lv,xs',e,h1,_,h3⟩,i+1,h=>by
   obtain⟨lv',k1,k2,k3,k4⟩:=h3.at_ i (by simpa using h);subst e;refine⟨lv',?_,?_,?_,by simpa using k4⟩
   ·rw [show (i+1)*3=i*3+3 from by omega];simpa using k1
   ·rw [show (i+1)*3+1=(i*3+1)+3 from by omega];simpa using k2
   ·rw [show (i+1)*3+2=(i*3+2)+3 from by omega];simpa using k3
theorem AnsAt.of_own {w:World}{G:Nat->Prop}{v:Value}{l:List Ans}{xs:List Value}(h:w.ownsRow 0 48 3 v l.length xs) (k:AnsRow w G l xs):AnsAt w v l:=by
 rcases id h.2 with⟨rfl,h0⟩ | ⟨g,cap,cur,rfl,_⟩
 ·exact ⟨none,0,by rw[h0],λi hi=>by omega⟩
 ·refine ⟨_,_,rfl,λi hi=>?_⟩
  obtain⟨lv,k1,k2,k3,k4⟩:=k.at_ i hi;exact⟨g,0,lv,rfl,by rw[Nat.zero_add];exact(h.cellAt _ (by omega)).trans k1,by rw[Nat.zero_add];exact(h.cellAt _ (by omega)).trans k2,by rw[Nat.zero_add];exact(h.cellAt _ (by omega)).trans k3,IntsAt.of_own k4,fN k4⟩
theorem AnsAll.trace {w:World}{ab n:Nat}{ans:Nat->List Ans}{H:Nat->Prop}(h:AnsAll w ab n ans H) {b1 b2:Nat}{e1 e2:TypeId}{ov tv:Value}{n1 n2:Nat}{ord sta:List Int}(h1:w.ownsRow b1 e1 1 ov n1 (ord.map (Value.int .i64))) (h2:w.ownsRow b2 e2 1 tv n2 (sta.map (Value.int .i64))) :
  TraceAt w n ans ord sta (some ⟨ab,0,none⟩) n ov tv:=by
 have l1:ord.length=n1:=by simpa using h1.1
 have l2:sta.length=n2:=by simpa using h2.1
 refine⟨⟨IntsAt.of_own h1,by rw[l1];exact fN h1⟩,⟨IntsAt.of_own h2,by rw[l2];exact fN h2⟩,λi hi=>?_⟩;obtain⟨rw_,c,k1,k2,k3,k4,_⟩:=h.rows;obtain⟨xs,m1,m2,_⟩:=k4 i hi;exact⟨ab,0,rw_ i,rfl,by rw[Nat.zero_add];exact(cell_of_row w ab i c _ (0,0) k1).trans (k3 i hi),AnsAt.of_own m1 m2,fN m1⟩
end Go.Proofs.Ytlcplealnbekeaa
namespace Go.Proofs.Ytlcplealnbekeaa
open Go.ChangeShapes Go.WideShapes Go.ChangeAt Go.RowKit Go.Deep
theorem fR {w:World}{p:Addr}{v:Value}(h:w.cell? p=some v):p.spot=none/\p.block<w.heap.size:=by
 unfold World.cell? at h;cases ho:w.heap[p.block]? with
 | none=>rw[ho] at h;cases h
 | some x =>
   have hlt:p.block<w.heap.size:=(Array.getElem?_eq_some_iff.1 ho).1;rw[ho] at h;cases x with
   | cells c t r =>
     simp only at h
     split at h
     ·cases h
     ·rename_i hs
      exact⟨by simpa using hs,hlt⟩
   | _=>cases h
theorem Try.opCells:Try.prog.cellsOf 46=4:=by kernel_rfl
theorem Try.intCells:Try.prog.cellsOf 3=1:=by kernel_rfl
theorem Try.longCells:Try.prog.cellsOf 2=1:=by kernel_rfl
section
variable {H:Type}{enc:TypeId × Value->H}
end
end Go.Proofs.Ytlcplealnbekeaa
namespace Go.Proofs.Ytlcplealnbekeaa
open Go.RowKit Go.Turn Go.Tame Go.Conc
structure Kpt (W0 w w':World):Prop where
 size:w.heap.size<=w'.heap.size
 near:∀ (b:Nat) (c:Array Value) (t:TypeId) (r:Nat × Nat),(b<W0.heap.size\/r.2<big)->w.heap[b]?=some (.cells c t r)->w'.heap[b]?=some (.cells c t r)
 io:w'.os=w.os/\w'.output=w.output
theorem Kpt.refl (W0 w:World):Kpt W0 w w:=⟨Nat.le_refl _,λ_ _ _ _ _ h=>h,rfl,rfl⟩
theorem Kpt.trans {W0 a b c:World}(h:Kpt W0 a b) (k:Kpt W0 b c):Kpt W0 a c:=
 ⟨Nat.le_trans h.size k.size,λi cs t r hc hb=>k.near i cs t r hc (h.near i cs t r hc hb),k.io.1.trans h.io.1,k.io.2.trans h.io.2⟩
theorem Kpt.old {W0 a b:World}(h:Old a.heap.size a b):Kpt W0 a b:=⟨h.size,λi c t r _ hb=>(h.block i (aB hb)).trans hb,h.io⟩
theorem Kpt.re {W0 a y:World}{τ:Nat->Question->Nat}{n:Nat}(h:Kpt W0 a (y.re τ n)):Kpt W0 a y:=⟨h.size,h.near,h.io⟩
theorem Kpt.er {W0 y b:World}{τ:Nat->Question->Nat}{n:Nat}(h:Kpt W0 (y.re τ n) b):Kpt W0 y b:=⟨h.size,h.near,h.io⟩
theorem Kpt.then {W0 a b c:World}(h:Kpt W0 a b) (k:Old a.heap.size b c):Kpt W0 a c:=
 ⟨Nat.le_trans h.size k.size,λi cs t r hc hb=>(k.block i (aB hb)).trans (h.near i cs t r hc hb),k.io.1.trans h.io.1,k.io.2.trans h.io.2⟩
theorem Old.kept {S:Nat->Prop}{B:Nat}{w w':World}(h:Kept S w w') (hS:∀ b,S b->B<=b) (hB:B<=w.heap.size):Old B w w':=
 ⟨h.size,λb hb=>h.block b (by omega) (λz=>by have:=hS b z;omega),h.os,h.output⟩
theorem AnsAll.one {w:World}{ab n:Nat}{ans:Nat->List Ans}{H:Nat->Prop}(h:AnsAll w ab n ans H) {i:Nat}(hi:i<n) {a:Ans}(ha:ans i=[a]):∃ g c,w.cell? ⟨ab,i,none⟩=some (.slice (some ⟨g,0,none⟩) 1 c)/\1<=c/\w.cell? ⟨g,0,none⟩=some (.bool a.ok)/\w.cell? ⟨g,1,none⟩=some (.int .i64 a.n):=by
 obtain⟨rw_,c,h1,h2,h3,h4,_⟩:=h.rows;obtain⟨xs,k1,k2,k3⟩:=h4 i hi;rw[ha] at k1 k2;obtain⟨lv,xs',rfl,_,_,e⟩:=k2;have e:xs'=[]:=e;subst e;have c0:w.cell? ⟨ab,i,none⟩=some (rw_ i):=(cell_of_row w ab i c _ (0,0) h1).trans (h3 i hi)
 rcases k1.2 with⟨_,e⟩ | ⟨g,cp,cur,e,_,hh,hle,_,hsz,htake⟩
 ·simp at e
 ·have e:rw_ i=.slice (some ⟨g,0,none⟩) 1 cp:=e
  have hb:Blk w g 48 cur:=hh
  have hcell:∀ j u,[Value.bool a.ok,.int .i64 a.n,lv][j]?=some u->w.cell? ⟨g,j,none⟩=some u:=λj u hj=>by
   rw[hb.cell j]
   have h1:(cur.toList.take (1*3))[j]?=some u:=by
    have:(cur.toList.take (1*3))=[Value.bool a.ok,.int .i64 a.n,lv]:=htake;rw[this];exact hj
   rw[List.getElem?_take] at h1
   split at h1
   ·simpa using h1
   ·cases h1
  exact⟨g,cp,by rw[c0,e],hle,hcell 0 _ rfl,hcell 1 _ rfl⟩
theorem PlayG.kpt {W0:World}{A:Type}{sL:Nat}{stf:A->List Int}{R:Run (A × (Nat->List Ans))}{n:Nat}{w0:World}{v:Value}{w':World}(h:PlayG W0 sL stf R n w0 v w'):Kpt W0 w0 w':=⟨h.size,h.near,h.io⟩
end Go.Proofs.Ytlcplealnbekeaa
namespace Go.Proofs.Ytlcplealnbekeaa
open Go.RowKit
structure NumsIn (w:World) (A:Option Addr) (c:Nat) (xs:List Int):Prop where
 le:xs.length<=c
 max:c<=maxLen
 cells:∀ i,i<xs.length->∃ b o,A=some ⟨b,o,none⟩/\w.cell? ⟨b,o+i,none⟩=some (.int .i64 (xs.getD i 0))
theorem NumsIn.kept {w w':World}{A:Option Addr}{c:Nat}{xs:List Int}{Z:Nat->Prop}(h:NumsIn w A c xs) (hk:Kept Z w w') (hz:∀ b,b<w.heap.size->¬Z b):NumsIn w' A c xs:=
 ⟨h.le,h.max,fun i hi=>by
   obtain⟨b,o,h1,h2⟩:=h.cells i hi
   have hb:b<w.heap.size:=by
    rcases Nat.lt_or_ge b w.heap.size with hlt | hge
    ·exact hlt
    ·simp [World.cell?,Array.getElem?_eq_none hge] at h2
   exact⟨b,o,h1,(World.cell?_of_block (w:=w) (a:=⟨b,o+i,none⟩) (hk.block b hb (hz b hb))).trans h2⟩⟩
end Go.Proofs.Ytlcplealnbekeaa
