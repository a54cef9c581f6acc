/- DERIVED. Rows of operations and traces, as they read; kept over what is only added to. -/
import Derived.Test.YtlhbonnminlnlaaGc
import Derived.Test.YtlhbonnminlnlaaRows
import Derived.KernelRfl
import Derived.Test.YtlhbonnminlnlaaGe
import Derived.Test.YtlhbonnminlnlaaGg
import Derived.WalkKit
import Derived.OrdersHeld
import Derived.Laws.AppendOwn
set_option linter.unusedVariables false
namespace Go.Proofs.Ytlhbonnminlnlaa
open Go.Tame
theorem code_all : (Try.prog.funcs.all fun fn=>match fn.body with | some c=>codeOk Try.prog true c | none=>true) = true:=by kernel_rfl
theorem code_ok (f : Nat) (fn : Func) (c : Code) (hf : Try.prog.funcs[f]? = some fn) (hb : fn.body = some c) : codeOk Try.prog true c = true:=by
 have h:=(Array.all_eq_true'.1 code_all) fn (Array.mem_of_getElem? hf)
 rw [hb] at h
 exact h
theorem num_all : (Try.prog.funcs.all fun fn=>!(fn.name == "runtime.NumGoroutine")) = true:=by kernel_rfl
theorem num_ok : NoNum Try.prog:=fun f fn hf=>by
 have h:=(Array.all_eq_true'.1 num_all) fn (Array.mem_of_getElem? hf)
 simpa using h
theorem ext_all : (Try.prog.funcs.all fun fn=>fn.body.isSome || (((extNames.contains fn.name && fn.origin == "") || (Extern.find fn).isNone) && (Extern.findNext fn).isNone)) = true:=by kernel_rfl
theorem ext_ok (f : Nat) (fn : Func) (hf : Try.prog.funcs[f]? = some fn) (hb : fn.body = none) : ((fn.name ∈ extNames∧fn.origin = "")∨Extern.find fn = none)∧Extern.findNext fn = none:=by
 have h:=(Array.all_eq_true'.1 ext_all) fn (Array.mem_of_getElem? hf)
 rw [hb] at h
 simp only [Option.isSome_none,Bool.false_or,Bool.and_eq_true,Bool.or_eq_true,List.contains_iff_mem,beq_iff_eq,Option.isNone_iff_eq_none] at h
 exact h
theorem Try.tame : Prog Try.prog where
 code:=code_ok
 ext:=ext_of ext_ok num_ok
 lv:=fun f fn hf hb args e he=>by
  rw [(ext_ok f fn hf hb).2] at he; cases he
 num:=num_ok
 ahead:=by kernel_rfl
end Go.Proofs.Ytlhbonnminlnlaa
namespace Go.Proofs.Ytlhbonnminlnlaa
open Go.RowKit
theorem size_ring (a : Addr) (sa : Option Addr) (n c : Nat) (w : World) (h : w.cell? a = some (.slice sa n c)) : Calls Try.prog 46 #[.pointer (some a)] w fun e w'=>e = .returned (.int .i64 n)∧w = w':=by
 go_enter Try.func46,Try.ntmps46
 go_wp2
 go_ret
 exact ⟨rfl,rfl⟩
theorem good_yes (a : Addr) (sa : Option Addr) (n c : Nat) (q : Int) (w : World) (h : w.cell? a = some (.slice sa n c)) (hn : 0 < n) (h0 : 0≤q) (h1 : q < 4611686018427387904) :
  Calls Try.prog 48 #[.pointer (some a),.int .i64 q] w fun e w'=>e = .returned (.bool true)∧w = w':=by
 go_enter Try.func48,Try.ntmps48
 go_wp2
 go_ret
 exact ⟨by simp,rfl⟩
theorem slot_yes (a : Addr) (sa : Option Addr) (n c : Nat) (q : Int) (w : World) (h : w.cell? a = some (.slice sa n c)) (hn : 0 < n) (h2 : n≤65536) (h0 : 0≤q) (h1 : q < 4611686018427387904) :
  Calls Try.prog 49 #[.pointer (some a),.int .i64 q] w fun e w'=>e = .returned (.int .i64 (q % n))∧w = w':=by
 go_enter Try.func49,Try.ntmps49
 go_wp2_with (go_at_call 48; refine (good_yes a sa n c q _ h hn h0 h1).mono ?_; rintro e w' ⟨rfl,rfl⟩)
 go_ret
 exact ⟨rfl,rfl⟩
theorem lap_yes (a : Addr) (sa : Option Addr) (n c : Nat) (q : Int) (w : World) (h : w.cell? a = some (.slice sa n c)) (hn : 0 < n) (h2 : n≤65536) (h0 : 0≤q) (h1 : q < 4611686018427387904) :
  Calls Try.prog 50 #[.pointer (some a),.int .i64 q] w fun e w'=>e = .returned (.int .i64 (q / n))∧w = w':=by
 go_enter Try.func50,Try.ntmps50
 go_wp2_with (go_at_call 48; refine (good_yes a sa n c q _ h hn h0 h1).mono ?_; rintro e w' ⟨rfl,rfl⟩)
 go_ret
 exact ⟨rfl,rfl⟩
theorem step_nil (w : World) : Calls Try.prog 51 #[.nilIface] w fun e w'=>e = .returned (.tuple #[])∧w = w':=by
 go_enter Try.func51,Try.ntmps51
 go_wp2
 go_end0
 exact ⟨rfl,rfl⟩
theorem atomic_store (a : Addr) (v : Int) (u : Int) (w : World) (h : w.cell? a = some (.int .i64 u)) (hf : w.frozen? a = false) : Calls Try.prog 27 #[.pointer (some a),.int .i64 v] w fun e w'=>e = .returned (.tuple #[])∧w.setCell a (.int .i64 v) = w':=by
 have hst:=run_call_store (P:=Try.prog) Try.func44 (by kernel_rfl) (by kernel_rfl) (by kernel_rfl) (by kernel_rfl) (k:=.i64) (y:=v) h hf
 go_enter Try.func27,Try.ntmps27
 go_wp2
 go_end0
 exact ⟨rfl,rfl⟩
theorem atomic_load (a : Addr) (v : Int) (w : World) (h : w.cell? a = some (.int .i64 v)) : Calls Try.prog 52 #[.pointer (some a)] w fun e w'=>e = .returned (.int .i64 v)∧w = w':=by
 have hld:=run_call_load (P:=Try.prog) Try.func76 (by kernel_rfl) (by kernel_rfl) (by kernel_rfl) .i64 (by kernel_rfl) h
 go_enter Try.func52,Try.ntmps52
 go_wp2
 go_ret
 exact ⟨rfl,rfl⟩
def upd (f : Nat→Int) (i : Nat) (x : Int) : Nat→Int:=fun j=>if j = i then x else f j
structure RingAt (w : World) (rb sb n : Nat) (st va : Nat→Int) : Prop where
 ring : w.cell? ⟨rb,0,none⟩ = some (.slice (some ⟨sb,0,none⟩) n n)
 stamp : ∀ i,i < n→w.cell? ⟨sb,i * 2,none⟩ = some (.int .i64 (st i))
 value : ∀ i,i < n→w.cell? ⟨sb,i * 2 + 1,none⟩ = some (.int .i64 (va i))
 free : ∀ i,w.frozen? ⟨sb,i,none⟩ = false
 pos : 0 < n
 most : n≤65536
 ne : rb≠sb
 rlt : rb < w.heap.size
 glt : sb < w.heap.size
theorem upd_upd (f : Nat→Int) (i : Nat) (x y : Int) : upd (upd f i x) i y = upd f i y:=by
 funext j
 unfold upd
 split <;> rfl
theorem upd_same (f : Nat→Int) (i : Nat) (x : Int) : upd f i x i = x:=if_pos rfl
theorem upd_ne (f : Nat→Int) {i j : Nat} (x : Int) (h : j≠i) : upd f i x j = f j:=if_neg h
section
variable {w w' : World} {rb sb n : Nat} {st va : Nat→Int}
theorem RingAt.setStamp (H : RingAt w rb sb n st va) {i : Nat} (hi : i < n) (x : Int) : RingAt (w.setCell ⟨sb,i * 2,none⟩ (.int .i64 x)) rb sb n (upd st i x) va where
 ring:=(World.cell?_setCell_other _ _ _ _ (by intro e; injection e with e; exact H.ne e.symm)).trans H.ring
 stamp:=fun j hj=>by
  unfold upd
  by_cases e : j = i
  ·subst e; rw [if_pos rfl]; exact World.cell?_setCell_same _ _ _ (H.stamp j hj)
  ·rw [if_neg e]; exact (World.cell?_setCell_other _ _ _ _ (by simp <;> omega)).trans (H.stamp j hj)
 value:=fun j hj=>(World.cell?_setCell_other _ _ _ _ (by simp <;> omega)).trans (H.value j hj)
 free:=fun j=>by rw [World.frozen?_setCell]; exact H.free j
 pos:=H.pos
 most:=H.most
 ne:=H.ne
 rlt:=by simpa using H.rlt
 glt:=by simpa using H.glt
theorem RingAt.setValue (H : RingAt w rb sb n st va) {i : Nat} (hi : i < n) (x : Int) : RingAt (w.setCell ⟨sb,i * 2 + 1,none⟩ (.int .i64 x)) rb sb n st (upd va i x) where
 ring:=(World.cell?_setCell_other _ _ _ _ (by intro e; injection e with e; exact H.ne e.symm)).trans H.ring
 stamp:=fun j hj=>(World.cell?_setCell_other _ _ _ _ (by simp <;> omega)).trans (H.stamp j hj)
 value:=fun j hj=>by
  unfold upd
  by_cases e : j = i
  ·subst e; rw [if_pos rfl]; exact World.cell?_setCell_same _ _ _ (H.value j hj)
  ·rw [if_neg e]; exact (World.cell?_setCell_other _ _ _ _ (by simp <;> omega)).trans (H.value j hj)
 free:=fun j=>by rw [World.frozen?_setCell]; exact H.free j
 pos:=H.pos
 most:=H.most
 ne:=H.ne
 rlt:=by simpa using H.rlt
 glt:=by simpa using H.glt
theorem RingAt.drewN (H : RingAt w rb sb n st va) (k : Nat) : RingAt (w.drewN k) rb sb n st va:=⟨H.ring,H.stamp,H.value,H.free,H.pos,H.most,H.ne,H.rlt,H.glt⟩
theorem RingAt.kept {S : Nat→Prop} (H : RingAt w rb sb n st va) (hk : Kept S w w') (h1 : ¬ S rb) (h2 : ¬ S sb) : RingAt w' rb sb n st va where
 ring:=(World.cell?_of_block (w:=w) (hk.block rb H.rlt h1)).trans H.ring
 stamp:=fun i hi=>(World.cell?_of_block (w:=w) (a:=⟨sb,i * 2,none⟩) (hk.block sb H.glt h2)).trans (H.stamp i hi)
 value:=fun i hi=>(World.cell?_of_block (w:=w) (a:=⟨sb,i * 2 + 1,none⟩) (hk.block sb H.glt h2)).trans (H.value i hi)
 free:=fun i=>(World.frozen?_of_block (w:=w) (a:=⟨sb,i,none⟩) (hk.block sb H.glt h2)).trans (H.free i)
 pos:=H.pos
 most:=H.most
 ne:=H.ne
 rlt:=Nat.lt_of_lt_of_le H.rlt hk.size
 glt:=Nat.lt_of_lt_of_le H.glt hk.size
end
theorem slots_step_none : Stepper.none.Steps Try.prog 51:=fun k w _=>(step_nil w).mono fun _ _ ⟨h,hw⟩=>⟨h,trivial,hw ▸ Kept.refl _ _,by rw [hw]⟩
theorem put_x (X : Stepper) (hs : X.Steps Try.prog 51) (t rb sb n : Nat) (st va : Nat→Int) (q v : Int) (w : World) (H : RingAt w rb sb n st va) (h0 : 0≤q) (h1 : q < 4611686018427387904) (A : X.at_ t w) (n1 : ¬ X.own rb) (n2 : ¬ X.own sb) :
  Calls Try.prog 74 #[.pointer (some ⟨rb,0,none⟩),X.v,.int .i64 q,.int .i64 v] w fun e w'=>e = .returned (.int .i64 0) ∧
   RingAt w' rb sb n (upd st (q % n).toNat (2 * (q / n))) (upd va (q % n).toNat v)∧Kept (fun b=>b = sb∨X.own b) w w'∧w'.heap.size = w.heap.size∧X.at_ (t + 3) w':=by
 have hn:=H.pos
 have h2:=H.most
 have hr:=H.ring
 have hb0 : 0≤q % (n : Int):=Int.emod_nonneg _ (by omega)
 have hb1 : q % (n : Int) < n:=Int.emod_lt_of_pos _ (by omega)
 have hd0 : 0≤q / (n : Int):=Int.ediv_nonneg h0 (by omega)
 have hd1 : q / (n : Int)≤q:=Int.ediv_le_self _ h0
 have HH:=Lib.hid H
 have HA:=Lib.hid A
 have HN1:=Lib.hid n1
 have HN2:=Lib.hid n2
 have n3 : ∀ b,X.own b→¬ b = sb:=fun b h e=>HN2.out (e ▸ h)
 have HN3:=Lib.hid n3
 clear H A n1 n2 n3
 go_enter Try.func74,Try.ntmps74
 go_wp2_with (go_at_call 48; refine (good_yes _ _ n _ q _ hr hn h0 h1).mono ?_; rintro e w' ⟨rfl,rfl⟩)
 go_quiet (first | (go_at_call 49; exact quietS (slot_yes _ _ n _ q _ hr hn h2 h0 h1)) | (go_at_call 50; exact quietS (lap_yes _ _ n _ q _ hr hn h2 h0 h1)))
 generalize hi : (q % (n : Int)).toNat = i at *
 have hi' : i < n:=by omega
 have HI:=Lib.hid hi
 clear hi
 have H1:=HH.out.drewN nq
 have A1:=X.keep HA.out (Kept.drewN (fun _=>False) w nq) (fun _ _ h=>h)
 go_wp2_with fail
 refine (hs t _ A1).mono ?_
 rintro e w1 ⟨rfl,A1,K1,Z1⟩
 have H1:=H1.kept K1 HN1.out HN2.out
 go_wp2_with fail
 refine (atomic_store _ _ _ _ (H1.stamp i hi') (H1.free _)).mono ?_
 rintro e w' ⟨rfl,rfl⟩
 have H2:=H1.setStamp hi' (2 * (q / n) - 1)
 have A2:=X.keep A1 (Kept.setCell (S:=(· = sb)) w1 (p:=⟨sb,i * 2,none⟩) rfl (.int .i64 (2 * (q / n) - 1))) HN3.out
 have K2:=K1
 go_wp2_with fail
 refine (hs _ _ A2).mono ?_
 rintro e w2 ⟨rfl,A2,K2,Z2⟩
 have H2:=H2.kept K2 HN1.out HN2.out
 go_wp2_with fail
 refine (atomic_store _ _ _ _ (H2.value i hi') (H2.free _)).mono ?_
 rintro e w' ⟨rfl,rfl⟩
 have H3:=H2.setValue hi' v
 have A3:=X.keep A2 (Kept.setCell (S:=(· = sb)) w2 (p:=⟨sb,i * 2 + 1,none⟩) rfl (.int .i64 v)) HN3.out
 go_wp2_with fail
 refine (hs _ _ A3).mono ?_
 rintro e w3 ⟨rfl,A3,K3,Z3⟩
 have H3:=H3.kept K3 HN1.out HN2.out
 go_wp2_with fail
 refine (atomic_store _ _ _ _ (H3.stamp i hi') (H3.free _)).mono ?_
 rintro e w' ⟨rfl,rfl⟩
 have H4:=H3.setStamp hi' (2 * (q / n))
 have A4:=X.keep A3 (Kept.setCell (S:=(· = sb)) w3 (p:=⟨sb,i * 2,none⟩) rfl (.int .i64 (2 * (q / n)))) HN3.out
 have HZ:=Lib.hid (And.intro Z1 (And.intro Z2 Z3))
 have HK:=Lib.hid (And.intro K1 (And.intro K2 K3))
 have HX:=Lib.hid (And.intro H4 A4)
 clear Z1 Z2 Z3 K1 K2 K3 H1 H2 H3 H4 A1 A2 A3 A4 hr
 go_wp2
 go_ret
 rw [HI.out]
 have z:=HZ.out
 have k:=HK.out
 simp at z
 refine ⟨rfl,by rw [← upd_upd st i (2 * (q / n) - 1)]; exact HX.out.1,?_,by simp; omega,HX.out.2⟩
 have L : ∀ {a b : World},Kept X.own a b→Kept (fun b=>b = sb∨X.own b) a b:=fun h=>h.mono (fun _ _ e=>.inr e)
 exact (((((Kept.drewN _ _ nq).trans (L k.1)).trans (Kept.setCell _ (.inl rfl) _)).trans (L k.2.1)).trans (Kept.setCell _ (.inl rfl) _)).trans ((L k.2.2).trans (Kept.setCell _ (.inl rfl) _))
theorem get_ok (X : Stepper) (hs : X.Steps Try.prog 51) (t rb sb n : Nat) (st va : Nat→Int) (q : Int) (w : World) (H : RingAt w rb sb n st va) (h0 : 0≤q) (h1 : q < 4611686018427387904) (he : st (q % n).toNat = 2 * (q / n)) (A : X.at_ t w) (n1 : ¬ X.own rb) (n2 : ¬ X.own sb) :
  Calls Try.prog 31 #[.pointer (some ⟨rb,0,none⟩),X.v,.int .i64 q] w fun e w'=>e = .returned (.tuple #[.int .i64 (va (q % n).toNat),.int .i64 0])∧Kept X.own w w'∧w'.heap.size = w.heap.size∧X.at_ (t + 3) w':=by
 have HE:=Lib.hid he
 clear he
 have hn:=H.pos
 have h2:=H.most
 have hr:=H.ring
 have hb0 : 0≤q % (n : Int):=Int.emod_nonneg _ (by omega)
 have hb1 : q % (n : Int) < n:=Int.emod_lt_of_pos _ (by omega)
 have hd0 : 0≤q / (n : Int):=Int.ediv_nonneg h0 (by omega)
 have hd1 : q / (n : Int)≤q:=Int.ediv_le_self _ h0
 have HH:=Lib.hid H
 have HA:=Lib.hid A
 have HN1:=Lib.hid n1
 have HN2:=Lib.hid n2
 clear H A n1 n2
 go_enter Try.func31,Try.ntmps31
 go_wp2_with (go_at_call 48; refine (good_yes _ _ n _ q _ hr hn h0 h1).mono ?_; rintro e w' ⟨rfl,rfl⟩)
 go_quiet (first | (go_at_call 49; exact quietS (slot_yes _ _ n _ q _ hr hn h2 h0 h1)) | (go_at_call 50; exact quietS (lap_yes _ _ n _ q _ hr hn h2 h0 h1)))
 generalize hi : (q % (n : Int)).toNat = i at *
 have hi' : i < n:=by omega
 have HI:=Lib.hid hi
 clear hi
 have H1:=HH.out.drewN nq
 have A1:=X.keep HA.out (Kept.drewN (fun _=>False) w nq) (fun _ _ h=>h)
 go_wp2_with fail
 refine (hs t _ A1).mono ?_
 rintro e w1 ⟨rfl,A1,K1,Z1⟩
 have H1:=H1.kept K1 HN1.out HN2.out
 have S1:=H1.stamp i hi'
 rw [HE.out] at S1
 have hS:=Lib.hid S1
 clear S1
 go_wp2_with fail
 refine (atomic_load _ _ _ hS.out).mono ?_
 rintro e w' ⟨rfl,rfl⟩
 go_wp2_with fail
 refine (hs _ _ A1).mono ?_
 rintro e w2 ⟨rfl,A2,K2,Z2⟩
 have H2:=H1.kept K2 HN1.out HN2.out
 go_wp2_with fail
 refine (atomic_load _ _ _ (H2.value i hi')).mono ?_
 rintro e w' ⟨rfl,rfl⟩
 go_wp2_with fail
 refine (hs _ _ A2).mono ?_
 rintro e w3 ⟨rfl,A3,K3,Z3⟩
 have H3:=H2.kept K3 HN1.out HN2.out
 have S3:=H3.stamp i hi'
 rw [HE.out] at S3
 have hS3:=Lib.hid S3
 clear S3
 go_wp2_with fail
 refine (atomic_load _ _ _ hS3.out).mono ?_
 rintro e w' ⟨rfl,rfl⟩
 have HZ:=Lib.hid (And.intro Z1 (And.intro Z2 Z3))
 have HK:=Lib.hid (And.intro K1 (And.intro K2 K3))
 have HX:=Lib.hid A3
 clear Z1 Z2 Z3 K1 K2 K3 H1 H2 H3 A1 A2 A3 hr
 go_wp2
 go_ret2
 have z:=HZ.out
 have k:=HK.out
 simp at z
 rw [HI.out]
 exact ⟨rfl,(((Kept.drewN _ _ nq).trans k.1).trans k.2.1).trans k.2.2,by omega,HX.out⟩
theorem Try.slotInfo : (Try.prog.info? 119).map (fun i=>(i.zero,i.size,i.bytes)) = some (some (.agg #[.int .i64 0,.int .i64 0]),2,16):=by kernel_rfl
theorem made_zero (n j : Nat) (h : j < n * 2) : (madeCells #[.int .i64 0,.int .i64 0] (n * 2))[j]? = some (.int .i64 0):=by
 unfold madeCells
 rw [Array.getElem?_map,Array.getElem?_range,if_pos h]
 rcases Nat.mod_two_eq_zero_or_one j with e | e <;> simp [e]
theorem ring_made (w : World) (n : Nat) (hn : 0 < n) (h2 : n≤65536) :
  RingAt ((w.alloc (.cells (madeCells #[.int .i64 0,.int .i64 0] (n * 2)) 119)).alloc (.cells #[.slice (some ⟨w.heap.size,0,none⟩) n n] 117)) (w.heap.size + 1) w.heap.size n (fun _=>0) (fun _=>0):=by
 have b0:=Blk.new w 119 (madeCells #[.int .i64 0,.int .i64 0] (n * 2))
 have b1:=b0.alloc (.cells #[.slice (some ⟨w.heap.size,0,none⟩) n n] 117)
 have b2:=Blk.new (w.alloc (.cells (madeCells #[.int .i64 0,.int .i64 0] (n * 2)) 119)) 117 #[.slice (some ⟨w.heap.size,0,none⟩) n n]
 rw [World.size_alloc] at b2
 exact { ring:=b2.cell 0,stamp:=fun i hi=>(b1.cell _).trans (made_zero n _ (by omega)),value:=fun i hi=>(b1.cell _).trans (made_zero n _ (by omega)),free:=fun i=>b1.frozen i,pos:=hn,most:=h2,ne:=by omega,rlt:=by simp,glt:=by simp; omega }
theorem fill_succ (k : Nat) (a b : Int) : (fun j=>if j < k + 1 then a else b) = upd (fun j=>if j < k then a else b) k a:=by
 funext j
 unfold upd
 dsimp only
 by_cases h : j = k
 ·subst h; simp
 ·rw [if_neg h]; by_cases h' : j < k
  ·rw [if_pos h',if_pos (by omega)]
  ·rw [if_neg h',if_neg (by omega)]
def NearB (w : World) (b : Nat) : Prop:=∃ c t,w.heap[b]? = some (.cells c t (0,0))
theorem NearB.set_ {w : World} {d i : Nat} {v : Value} {b : Nat} (h : NearB w b) : NearB (w.setCell ⟨d,i,none⟩ v) b:=by
 obtain ⟨c,t,h⟩:=h
 by_cases e : b = d
 ·subst e
  exact ⟨_,_,(show Blk w b t c from h).set_ i v⟩
 ·exact ⟨c,t,(Below.heap_setCell _ _ _ _ e).trans h⟩
theorem new_near (n : Nat) (w : World) (hn : 0 < n) (h2 : n≤65536) (hb : (bits BinOp.and IntKind.i64 (n : Int) ((n : Int) - 1) != 0) = false) : Calls Try.prog 25 #[.int .i64 n] w fun e w'=>e = .returned (.tuple #[.pointer (some ⟨w.heap.size + 1,0,none⟩),.int .i64 0]) ∧
  RingAt w' (w.heap.size + 1) w.heap.size n (fun _=>-2) (fun _=>0)∧Below w.heap.size w w'∧w'.heap.size = w.heap.size + 2∧NearB w' w.heap.size∧NearB w' (w.heap.size + 1):=by
 obtain ⟨i0,hi,hz0,hz1,hz2⟩:=info_parts Try.slotInfo
 have hmk:=fun wx=>run_make (P:=Try.prog) wx 115 119 i0 _ Try.underlying115 hi hz0 .i64 .i64 n n (by omega) (by omega) (by rw [hz2]; omega) (by omega)
 simp only [Int.toNat_natCast,hz1,Value.cells] at hmk
 have h1 : (1 : Int)≤n:=by omega
 have h3 : (n : Int)≤65536:=by omega
 have hr:=ring_made w n hn h2
 have hbel : Below w.heap.size w ((w.alloc (.cells (madeCells #[.int .i64 0,.int .i64 0] (n * 2)) 119)).alloc (.cells #[.slice (some ⟨w.heap.size,0,none⟩) n n] 117)):=((Below.refl _ _).alloc (Nat.le_refl _) _).alloc (by simp) _
 have hnear : NearB ((w.alloc (.cells (madeCells #[.int .i64 0,.int .i64 0] (n * 2)) 119)).alloc (.cells #[.slice (some ⟨w.heap.size,0,none⟩) n n] 117)) w.heap.size∧NearB ((w.alloc (.cells (madeCells #[.int .i64 0,.int .i64 0] (n * 2)) 119)).alloc (.cells #[.slice (some ⟨w.heap.size,0,none⟩) n n] 117)) (w.heap.size + 1):=by
  have hb:=Blk.new (w.alloc (.cells (madeCells #[.int .i64 0,.int .i64 0] (n * 2)) 119)) 117 #[.slice (some ⟨w.heap.size,0,none⟩) n n]
  rw [World.size_alloc] at hb
  exact ⟨⟨_,_,(Blk.new w 119 (madeCells #[.int .i64 0,.int .i64 0] (n * 2))).alloc _⟩,⟨_,_,hb⟩⟩
 have HR:=Lib.hid hr
 have HB:=Lib.hid (And.intro hbel hnear)
 clear hr hbel hnear hz1 hz2 hz0 hi
 go_enter Try.func25,Try.ntmps25
 go_wp2
 go_loopw [28] (fun i wr=>∃ k : Nat,k≤n∧i = .int .i64 k∧RingAt wr (w.heap.size + 1) w.heap.size n (fun j=>if j < k then -2 else 0) (fun _=>0)∧(Below w.heap.size w wr∧NearB wr w.heap.size∧NearB wr (w.heap.size + 1))∧wr.heap.size = w.heap.size + 2) (fun i _=>n - (intOf i).toNat)
 case atStart=>exact ⟨0,Nat.zero_le _,rfl,by simpa using HR.out,HB.out,by simp⟩
 case round =>
  obtain ⟨k,hk,rfl,H,hbl,hsz⟩:=hrel
  have hring:=H.ring
  have HH:=Lib.hid H
  have HS:=Lib.hid hsz
  clear hmk hb H hsz
  by_cases hlt : k < n
  ·go_wp2_with (go_at_call 27; refine (atomic_store _ _ _ _ (HH.out.stamp k hlt) (HH.out.free _)).mono ?_; rintro e w' ⟨rfl,rfl⟩)
   go_roundw
   case rel =>
    refine ⟨k + 1,by omega,by go_num,?_,⟨hbl.1.setCell (by simp) _,hbl.2.1.set_,hbl.2.2.set_⟩,by simpa using HS.out⟩
    rw [fill_succ]
    exact HH.out.setStamp hlt (-2)
   case measure=>simp [intOf]; omega
  ·go_wp2
   go_ret2
   refine ⟨rfl,⟨HH.out.ring,fun i hi=>?_,HH.out.value,HH.out.free,HH.out.pos,HH.out.most,HH.out.ne,HH.out.rlt,HH.out.glt⟩,hbl.1,HS.out,hbl.2⟩
   have h:=HH.out.stamp i hi
   rwa [if_pos (by omega)] at h
end Go.Proofs.Ytlhbonnminlnlaa
namespace Go.Proofs.Ytlhbonnminlnlaa
open Go.RowKit Go.Turn Go.Tame Go.Conc
abbrev RSt : Type:=(Nat→Int) × (Nat→Int)
structure RAt (rb sb n : Nat) (a : RSt) (w : World) : Prop where
 r : RingAt w rb sb n a.1 a.2
 b1 : ∃ c t,w.heap[rb]? = some (.cells c t (0,0))
 b2 : ∃ c t,w.heap[sb]? = some (.cells c t (0,0))
theorem RAt.law {rb sb n : Nat} (a : RSt) (w w' : World) (h : RAt rb sb n a w) (hs : ∀ b,b = rb∨b = sb→w'.heap[b]? = w.heap[b]?) : RAt rb sb n a w':=by
 have h1:=hs rb (.inl rfl)
 have h2:=hs sb (.inr rfl)
 obtain ⟨c1,t1,e1⟩:=h.b1
 obtain ⟨c2,t2,e2⟩:=h.b2
 exact ⟨⟨(World.cell?_of_block (w:=w) h1).trans h.r.ring,fun i hi=>(World.cell?_of_block (w:=w) (a:=⟨sb,i * 2,none⟩) h2).trans (h.r.stamp i hi),fun i hi=>(World.cell?_of_block (w:=w) (a:=⟨sb,i * 2 + 1,none⟩) h2).trans (h.r.value i hi),fun i=>(World.frozen?_of_block (w:=w) (a:=⟨sb,i,none⟩) h2).trans (h.r.free i),h.r.pos,h.r.most,h.r.ne,lt_of_some (h1.trans e1),lt_of_some (h2.trans e2)⟩,⟨c1,t1,h1.trans e1⟩,⟨c2,t2,h2.trans e2⟩⟩
def ringI (rb sb rn : Nat) : Inner:={ A:=RSt,At:=RAt rb sb rn,BI:=fun b=>b = rb∨b = sb,at_:=RAt.law }
abbrev OpsB.ring (B : OpsB) (rb sb rn : Nat) (good : OpI→Prop) : OpsD:=B.on (ringI rb sb rn) good
theorem held_in {H : Nat→Prop} (w : World) {p : Addr} (hp : H p.block) (v : Value) : Held H w H (w.setCell p v):=
 ⟨by simp [World.setCell],fun b c t r hb hn _=>⟨(Below.heap_setCell _ _ _ _ (fun e=>hn (by rw [e]; exact hp))).trans hb,hn⟩⟩
theorem set_near {w : World} {d i : Nat} {v : Value} {b : Nat} (h : ∃ c t,w.heap[b]? = some (.cells c t (0,0))) : ∃ c t,(w.setCell ⟨d,i,none⟩ v).heap[b]? = some (.cells c t (0,0)):=by
 obtain ⟨c,t,h⟩:=h
 by_cases e : b = d
 ·subst e
  exact ⟨_,_,(show Blk w b t c from h).set_ i v⟩
 ·exact ⟨c,t,(Below.heap_setCell _ _ _ _ e).trans h⟩
section
variable {B : OpsB} {rb sb rn : Nat} {good : OpI→Prop}
end
structure RLens (A : Type) where
 get : A→RSt
 put : RSt→A→A
def RLens.st {A R : Type} (l : RLens A) (s : A × R) (i : Nat) (x : Int) : A × R:=(l.put (upd (l.get s.1).1 i x,(l.get s.1).2) s.1,s.2)
def RLens.va {A R : Type} (l : RLens A) (s : A × R) (i : Nat) (x : Int) : A × R:=(l.put ((l.get s.1).1,upd (l.get s.1).2 i x) s.1,s.2)
structure RingIn (D : OpsD) (l : RLens D.A) (rb sb rn : Nat) : Prop where
 at_ : ∀ (s : D.St) (H : Nat→Prop) (w : World),RepO D s H w→RAt rb sb rn (l.get s.1) w
 stamp : ∀ (s : D.St) (H : Nat→Prop) (w : World),RepO D s H w→∀ i,i < rn→∀ x,RepO D (l.st s i x) H (w.setCell ⟨sb,i * 2,none⟩ (.int .i64 x))∧Held H w H (w.setCell ⟨sb,i * 2,none⟩ (.int .i64 x))
 value : ∀ (s : D.St) (H : Nat→Prop) (w : World),RepO D s H w→∀ i,i < rn→∀ x,RepO D (l.va s i x) H (w.setCell ⟨sb,i * 2 + 1,none⟩ (.int .i64 x))∧Held H w H (w.setCell ⟨sb,i * 2 + 1,none⟩ (.int .i64 x))
theorem method_stand (n : Nat) (a : Addr) (w : World) : (method (n + 1) 171 (.pointer (some a)) "Step").run Try.prog w = .ok (113,.pointer (some a)) w:=by kernel_rfl
set_option maxRecDepth 100000 in
theorem slots_step {D : OpsD} {L : Lg Try.prog (Tree D.St D.St)} {Cap : (Nat→Prop)→World→Prop} {sb : Nat} (hre : ∀ H w τ n,Cap H w→Cap H (w.re τ n)) (hcap : ∀ H w H' w',Cap H w→Held H w H' w'→Cap H' w') (hS : StepO D L Cap sb) (s : D.St) (H : Nat→Prop) (k : D.St→Tree D.St D.St) (w : World) (hr : RepO D s H w) (hc : Cap H w) :
  Ccalls L 51 #[.iface 171 (.pointer (some ⟨sb,0,none⟩))] (.yield s k) w fun u t' w'=>u = .tuple #[]∧∃ s' H',t' = k s'∧(RepO D s' H' w'∧Cap H' w')∧Held H w H' w':=by
 intro c mid hR
 rw [show Frame.enter Try.prog 51 #[.iface 171 (.pointer (some ⟨sb,0,none⟩))] .normal = Frame.at { (default : Frame) with fn:=51,kind:=.normal } ⟨#[.iface 171 (.pointer (some ⟨sb,0,none⟩))] ++ Array.replicate (Try.f51.ntmps - 1) undef,[]⟩ [.code (Try.f51.body.getD .skip)] from by simp [Frame.enter,Frame.at,Try.func51]; rfl]
 simp only [Try.f51,Option.getD_some,Nat.reduceSub,Array.replicate_succ,Array.replicate_zero,List.push_toArray,List.append_toArray,List.nil_append,List.cons_append]
 refine Lg.move _ (fun _ _=>step_seq) (fun h=>h) ?_
 have HR:=Lib.hid hR
 have Hr:=Lib.hid hr
 clear hR hr
 refine Lg.code fun K hK y τ n hy=>?_
 go_wp2
 refine hK _ _ (fun _=>rfl) ?_
 clear hK K
 subst hy
 refine Lg.move _ (fun _ _=>step_cond rfl) (fun h=>h) ?_
 refine Lg.move _ (fun _ _=>step_region) (fun h=>h) ?_
 refine Lg.pre 0 1 1 (by simp) fun K hK z τ3 n3 hz=>?_
 subst hz
 have hr : RepO D s H z:=Hr.out.re.re
 have hc : Cap H z:=hcap _ _ _ _ hc (re_held.2 (re_held.2 (Held.refl _ _)))
 have hm:=fun wx=>method_stand 307 ⟨sb,0,none⟩ wx
 go_wp2
 refine hK _ _ (fun _=>rfl) ?_
 clear hK K
 refine Lg.call (i:=1) (rest:=[]) (f:=113) (args:=#[.pointer (some ⟨sb,0,none⟩)]) rfl rfl (fun y=>?_) (hS s H k z hr hc) ?_
 ·go_simp
 rintro vv t' w' ⟨rfl,s',H',rfl,⟨hr',hc'⟩,hh⟩
 rw [Frame.finish_at]
 walk_nrm
 refine Lg.move _ (fun _ _=>step_region_end) (fun h=>h) ?_
 refine Lg.move _ (fun _ _=>step_end) (fun h=>h) ?_
 exact Lg.leave rfl Try.func51 rfl (fun _ _ _ _=>by simp [results,Try.f51]) (HR.out _ _ _ ⟨rfl,s',H',rfl,⟨hr',hc'⟩,re_held.2 (re_held.2 hh)⟩)
structure Now (D : OpsD) (Cap : (Nat→Prop)→World→Prop) (H0 : Nat→Prop) (w0 : World) (s : D.St) (H : Nat→Prop) (w : World) : Prop where
 rep : RepO D s H w
 cap0 : Cap H0 w0
 held : Held H0 w0 H w
def CapK (Cap : (Nat→Prop)→World→Prop) : Prop:=∀ H w H' w',Cap H w→Held H w H' w'→Cap H' w'
theorem Now.re {D : OpsD} {Cap : (Nat→Prop)→World→Prop} {H0 H : Nat→Prop} {w0 y : World} {s : D.St} {τ : Nat→Question→Nat} {n : Nat} (hk : CapK Cap) (h : Now D Cap H0 w0 s H (y.re τ n)) : Now D Cap H0 w0 s H y:=
 ⟨h.rep.re,h.cap0,held_re.1 h.held⟩
theorem Now.to {D : OpsD} {Cap : (Nat→Prop)→World→Prop} {H0 H H' : Nat→Prop} {w0 w w' : World} {s s' : D.St} (hk : CapK Cap) (h : Now D Cap H0 w0 s H w) (h' : RepO D s' H' w'∧Held H w H' w') : Now D Cap H0 w0 s' H' w':=
 ⟨h'.1,h.cap0,h.held.trans h'.2⟩
def SStep (D : OpsD) (L : Lg Try.prog (Tree D.St D.St)) (Cap : (Nat→Prop)→World→Prop) (f : FuncId) (v : Value) : Prop:=
 ∀ H0 w0 s H k w,Now D Cap H0 w0 s H w→Ccalls L f #[v] (.yield s k) w fun u t' w'=>u = .tuple #[]∧∃ s' H',t' = k s'∧Now D Cap H0 w0 s' H' w'
theorem slots_sstep {D : OpsD} {L : Lg Try.prog (Tree D.St D.St)} {Cap : (Nat→Prop)→World→Prop} {sb : Nat} (hre : ∀ H w τ n,Cap H w→Cap H (w.re τ n)) (hcap : CapK Cap) (hS : StepO D L Cap sb) : SStep D L Cap 51 (.iface 171 (.pointer (some ⟨sb,0,none⟩))):=
 fun H0 w0 s H k w h=>(slots_step hre hcap hS s H k w h.rep (hcap _ _ _ _ h.cap0 h.held)).mono fun v t' w' ⟨e,s',H',e2,h2,h3⟩=>⟨e,s',H',e2,h2.1,h.cap0,h.held.trans h3⟩
def putT {A R : Type} (l : RLens A) (n : Nat) (q v : Int) (s : A × R) (k : A × R→Tree (A × R) (A × R)) : Tree (A × R) (A × R):=
 .yield s fun s1=>.yield (l.st s1 (q % n).toNat (2 * (q / n) - 1)) fun s2=>.yield (l.va s2 (q % n).toNat v) fun s3=>k (l.st s3 (q % n).toNat (2 * (q / n)))
theorem Now.drewN {D : OpsD} {Cap : (Nat→Prop)→World→Prop} {H0 H : Nat→Prop} {w0 y : World} {s : D.St} (hk : CapK Cap) (h : Now D Cap H0 w0 s H y) (n : Nat) : Now D Cap H0 w0 s H (y.drewN n):=
 Now.re (τ:=y.tape) (n:=y.drawn) hk h
set_option maxHeartbeats 2000000 in
set_option maxRecDepth 100000 in
theorem slots_put {D : OpsD} {l : RLens D.A} {rb sb rn : Nat} (R : RingIn D l rb sb rn) {L : Lg Try.prog (Tree D.St D.St)} {Cap : (Nat→Prop)→World→Prop} {V : Value} (hk : CapK Cap) (hS : SStep D L Cap 51 V) (hrn : 0 < rn) (h2 : rn≤65536) (q v : Int) (h0 : 0≤q) (h1 : q < 4611686018427387904) (H0 : Nat→Prop) (w0 : World) (s : D.St) (H : Nat→Prop) (k) (w : World) (hn : Now D Cap H0 w0 s H w) :
  Ccalls L 74 #[.pointer (some ⟨rb,0,none⟩),V,.int .i64 q,.int .i64 v] (putT l rn q v s k) w fun u t' w'=>u = .int .i64 0∧∃ s' H',t' = k s'∧Now D Cap H0 w0 s' H' w':=by
 have hb0 : 0≤q % (rn : Int):=Int.emod_nonneg _ (by omega)
 have hb1 : q % (rn : Int) < rn:=Int.emod_lt_of_pos _ (by omega)
 have hd0 : 0≤q / (rn : Int):=Int.ediv_nonneg h0 (by omega)
 have hd1 : q / (rn : Int)≤q:=Int.ediv_le_self _ h0
 intro c mid hR
 have HR:=Lib.hid hR
 have HN:=Lib.hid hn
 clear hR hn
 rw [show Frame.enter Try.prog 74 #[.pointer (some ⟨rb,0,none⟩),V,.int .i64 q,.int .i64 v] .normal = Frame.at { (default : Frame) with fn:=74,kind:=.normal } ⟨#[.pointer (some ⟨rb,0,none⟩),V,.int .i64 q,.int .i64 v] ++ Array.replicate (Try.f74.ntmps - 4) undef,[]⟩ [.code (Try.f74.body.getD .skip)] from by simp [Frame.enter,Frame.at,Try.func74]; rfl]
 simp only [Try.f74,Option.getD_some,Nat.reduceSub,Array.replicate_succ,Array.replicate_zero,List.push_toArray,List.append_toArray,List.nil_append,List.cons_append]
 unfold putT
 refine Lg.move _ (fun _ _=>step_seq) (fun h=>h) ?_
 refine Lg.code fun K hK y τ n' hy=>?_
 subst hy
 have hn:=HN.out.re hk
 clear HN
 have hr:=(R.at_ _ _ _ hn.rep).r.ring
 have HN:=Lib.hid hn
 clear hn
 go_wp2
 refine hK _ _ (fun _=>rfl) ?_
 clear hK K hr
 refine Lg.move _ (fun _ _=>step_seq) (fun h=>h) ?_
 refine Lg.code fun K hK y τ n' hy=>?_
 subst hy
 have hn:=HN.out.re hk
 clear HN
 have hr:=(R.at_ _ _ _ hn.rep).r.ring
 have HN:=Lib.hid hn
 clear hn
 go_wp2_with (go_at_call 48; refine (good_yes _ _ rn _ q _ hr hrn h0 h1).mono ?_; rintro e w' ⟨rfl,rfl⟩)
 refine hK _ _ (fun _=>rfl) ?_
 clear hK K hr
 refine Lg.move _ (fun _ _=>step_seq) (fun h=>h) ?_
 refine Lg.code fun K hK y τ n' hy=>?_
 subst hy
 have hn:=HN.out.re hk
 clear HN
 have hr:=(R.at_ _ _ _ hn.rep).r.ring
 have HN:=Lib.hid hn
 clear hn
 go_quiet (first | (go_at_call 49; exact quietS (slot_yes _ _ rn _ q _ hr hrn h2 h0 h1)) | (go_at_call 50; exact quietS (lap_yes _ _ rn _ q _ hr hrn h2 h0 h1)))
 refine hK _ _ (fun _=>rfl) ?_
 clear hK K hr
 have hn:=HN.out.drewN hk nq
 generalize World.drewN _ nq = y' at hn ⊢
 clear HN
 have HN:=Lib.hid hn
 clear hn
 refine Lg.move _ (fun _ _=>step_seq) (fun h=>h) ?_
 refine Lg.move _ (fun _ _=>step_region) (fun h=>h) ?_
 refine Lg.pre 0 1 1 (by simp) fun K hK z τ n' hz=>?_
 subst hz
 go_wp2
 refine hK _ _ (fun _=>rfl) ?_
 clear hK K
 refine Lg.call (i:=1) (rest:=[]) (f:=51) (args:=#[V]) rfl rfl (fun y=>by go_simp) (hS _ _ _ _ _ _ (HN.out.re hk)) ?_
 rintro vv t' w' ⟨rfl,s,H,rfl,hn⟩
 clear HN
 rw [Frame.finish_at]
 walk_nrm
 refine Lg.move _ (fun _ _=>step_region_end) (fun h=>h) ?_
 have HN:=Lib.hid hn
 clear hn
 refine Lg.move _ (fun _ _=>step_seq) (fun h=>h) ?_
 refine Lg.code fun K hK y τ n' hy=>?_
 subst hy
 have hn:=HN.out.re hk
 clear HN
 have hat:=R.at_ _ _ _ hn.rep
 have s0:=hat.r.stamp (q % (rn : Int)).toNat (by omega)
 have z0:=hat.r.free ((q % (rn : Int)).toNat * 2)
 have HN:=Lib.hid hn
 clear hn hat
 go_wp2_with (go_at_call 27; refine (atomic_store _ _ _ _ s0 z0).mono ?_; rintro e w' ⟨rfl,rfl⟩)
 refine hK _ _ (fun _=>rfl) ?_
 clear hK K s0 z0
 have hn:=HN.out.to hk (R.stamp _ _ _ HN.out.rep (q % (rn : Int)).toNat (by omega) (2 * (q / (rn : Int)) - 1))
 clear HN
 have HN:=Lib.hid hn
 clear hn
 generalize World.setCell _ _ _ = y' at HN ⊢
 refine Lg.move _ (fun _ _=>step_seq) (fun h=>h) ?_
 refine Lg.move _ (fun _ _=>step_region) (fun h=>h) ?_
 refine Lg.pre 0 1 1 (by simp) fun K hK z τ n' hz=>?_
 subst hz
 go_wp2
 refine hK _ _ (fun _=>rfl) ?_
 clear hK K
 refine Lg.call (i:=1) (rest:=[]) (f:=51) (args:=#[V]) rfl rfl (fun y=>by go_simp) (hS _ _ _ _ _ _ (HN.out.re hk)) ?_
 rintro vv t' w' ⟨rfl,s,H,rfl,hn⟩
 clear HN
 rw [Frame.finish_at]
 walk_nrm
 refine Lg.move _ (fun _ _=>step_region_end) (fun h=>h) ?_
 have HN:=Lib.hid hn
 clear hn
 refine Lg.move _ (fun _ _=>step_seq) (fun h=>h) ?_
 refine Lg.code fun K hK y τ n' hy=>?_
 subst hy
 have hn:=HN.out.re hk
 clear HN
 have hat:=R.at_ _ _ _ hn.rep
 have s0:=hat.r.value (q % (rn : Int)).toNat (by omega)
 have z0:=hat.r.free ((q % (rn : Int)).toNat * 2 + 1)
 have HN:=Lib.hid hn
 clear hn hat
 go_wp2_with (go_at_call 27; refine (atomic_store _ _ _ _ s0 z0).mono ?_; rintro e w' ⟨rfl,rfl⟩)
 refine hK _ _ (fun _=>rfl) ?_
 clear hK K s0 z0
 have hn:=HN.out.to hk (R.value _ _ _ HN.out.rep (q % (rn : Int)).toNat (by omega) v)
 clear HN
 have HN:=Lib.hid hn
 clear hn
 generalize World.setCell _ _ _ = y' at HN ⊢
 refine Lg.move _ (fun _ _=>step_seq) (fun h=>h) ?_
 refine Lg.move _ (fun _ _=>step_region) (fun h=>h) ?_
 refine Lg.pre 0 1 1 (by simp) fun K hK z τ n' hz=>?_
 subst hz
 go_wp2
 refine hK _ _ (fun _=>rfl) ?_
 clear hK K
 refine Lg.call (i:=1) (rest:=[]) (f:=51) (args:=#[V]) rfl rfl (fun y=>by go_simp) (hS _ _ _ _ _ _ (HN.out.re hk)) ?_
 rintro vv t' w' ⟨rfl,s,H,rfl,hn⟩
 clear HN
 rw [Frame.finish_at]
 walk_nrm
 refine Lg.move _ (fun _ _=>step_region_end) (fun h=>h) ?_
 have HN:=Lib.hid hn
 clear hn
 refine Lg.move _ (fun _ _=>step_seq) (fun h=>h) ?_
 refine Lg.code fun K hK y τ n' hy=>?_
 subst hy
 have hn:=HN.out.re hk
 clear HN
 have hat:=R.at_ _ _ _ hn.rep
 have s0:=hat.r.stamp (q % (rn : Int)).toNat (by omega)
 have z0:=hat.r.free ((q % (rn : Int)).toNat * 2)
 have HN:=Lib.hid hn
 clear hn hat
 go_wp2_with (go_at_call 27; refine (atomic_store _ _ _ _ s0 z0).mono ?_; rintro e w' ⟨rfl,rfl⟩)
 refine hK _ _ (fun _=>rfl) ?_
 clear hK K s0 z0
 have hn:=HN.out.to hk (R.stamp _ _ _ HN.out.rep (q % (rn : Int)).toNat (by omega) (2 * (q / (rn : Int))))
 clear HN
 have HN:=Lib.hid hn
 clear hn
 generalize World.setCell _ _ _ = y' at HN ⊢
 refine Lg.move _ (fun _ _=>step_seq) (fun h=>h) ?_
 refine Lg.code fun K hK y τ n' hy=>?_
 subst hy
 have hn:=HN.out.re hk
 clear HN
 have HN:=Lib.hid hn
 clear hn
 go_wp2
 refine hK _ _ (fun _=>rfl) ?_
 refine Lg.move _ (fun _ _=>step_ret) (fun h=>h) ?_
 refine Lg.leave rfl Try.func74 rfl (v:=.int .i64 0) (fun _ _ _ _=>by simp [results,Try.f74]) (HR.out _ _ _ ⟨rfl,_,H,rfl,HN.out⟩)
def getT {A R : Type} (l : RLens A) (n : Nat) (q : Int) (s : A × R) (k : Int→Int→A × R→Tree (A × R) (A × R)) : Tree (A × R) (A × R):=
 .yield s fun s1=>if (l.get s1.1).1 (q % n).toNat < 2 * (q / n) then k 0 6 s1 else if 2 * (q / n) < (l.get s1.1).1 (q % n).toNat then k 0 10 s1 else
  .yield s1 fun s2=>.yield s2 fun s3=>if (l.get s3.1).1 (q % n).toNat = (l.get s1.1).1 (q % n).toNat then k ((l.get s2.1).2 (q % n).toNat) 0 s3 else k 0 10 s3
set_option maxHeartbeats 4000000 in
set_option maxRecDepth 100000 in
theorem slots_get {D : OpsD} {l : RLens D.A} {rb sb rn : Nat} (R : RingIn D l rb sb rn) {L : Lg Try.prog (Tree D.St D.St)} {Cap : (Nat→Prop)→World→Prop} {V : Value} (hk : CapK Cap) (hS : SStep D L Cap 51 V) (hrn : 0 < rn) (h2 : rn≤65536) (q : Int) (h0 : 0≤q) (h1 : q < 4611686018427387904) (H0 : Nat→Prop) (w0 : World) (s : D.St) (H : Nat→Prop) (k) (w : World) (hn : Now D Cap H0 w0 s H w) :
  Ccalls L 31 #[.pointer (some ⟨rb,0,none⟩),V,.int .i64 q] (getT l rn q s k) w fun u t' w'=>∃ x e s' H',u = .tuple #[.int .i64 x,.int .i64 e]∧t' = k x e s'∧Now D Cap H0 w0 s' H' w':=by
 have hb0 : 0≤q % (rn : Int):=Int.emod_nonneg _ (by omega)
 have hb1 : q % (rn : Int) < rn:=Int.emod_lt_of_pos _ (by omega)
 have hd0 : 0≤q / (rn : Int):=Int.ediv_nonneg h0 (by omega)
 have hd1 : q / (rn : Int)≤q:=Int.ediv_le_self _ h0
 intro c mid hR
 have HR:=Lib.hid hR
 have HN:=Lib.hid hn
 clear hR hn
 rw [show Frame.enter Try.prog 31 #[.pointer (some ⟨rb,0,none⟩),V,.int .i64 q] .normal = Frame.at { (default : Frame) with fn:=31,kind:=.normal } ⟨#[.pointer (some ⟨rb,0,none⟩),V,.int .i64 q] ++ Array.replicate (Try.f31.ntmps - 3) undef,[]⟩ [.code (Try.f31.body.getD .skip)] from by simp [Frame.enter,Frame.at,Try.func31]; rfl]
 simp only [Try.f31,Option.getD_some,Nat.reduceSub,Array.replicate_succ,Array.replicate_zero,List.push_toArray,List.append_toArray,List.nil_append,List.cons_append]
 unfold getT
 refine Lg.move _ (fun _ _=>step_seq) (fun h=>h) ?_
 refine Lg.code fun K hK y τ n' hy=>?_
 subst hy
 have hn:=HN.out.re hk
 clear HN
 have hr:=(R.at_ _ _ _ hn.rep).r.ring
 have HN:=Lib.hid hn
 clear hn
 go_wp2
 refine hK _ _ (fun _=>rfl) ?_
 clear hK K hr
 refine Lg.move _ (fun _ _=>step_seq) (fun h=>h) ?_
 refine Lg.code fun K hK y τ n' hy=>?_
 subst hy
 have hn:=HN.out.re hk
 clear HN
 have hr:=(R.at_ _ _ _ hn.rep).r.ring
 have HN:=Lib.hid hn
 clear hn
 go_wp2_with (go_at_call 48; refine (good_yes _ _ rn _ q _ hr hrn h0 h1).mono ?_; rintro e w' ⟨rfl,rfl⟩)
 refine hK _ _ (fun _=>rfl) ?_
 clear hK K hr
 refine Lg.move _ (fun _ _=>step_seq) (fun h=>h) ?_
 refine Lg.code fun K hK y τ n' hy=>?_
 subst hy
 have hn:=HN.out.re hk
 clear HN
 have hr:=(R.at_ _ _ _ hn.rep).r.ring
 have HN:=Lib.hid hn
 clear hn
 go_quiet (first | (go_at_call 49; exact quietS (slot_yes _ _ rn _ q _ hr hrn h2 h0 h1)) | (go_at_call 50; exact quietS (lap_yes _ _ rn _ q _ hr hrn h2 h0 h1)))
 refine hK _ _ (fun _=>rfl) ?_
 clear hK K hr
 have hn:=HN.out.drewN hk nq
 generalize World.drewN _ nq = y' at hn ⊢
 clear HN
 have HN:=Lib.hid hn
 clear hn
 refine Lg.move _ (fun _ _=>step_seq) (fun h=>h) ?_
 refine Lg.move _ (fun _ _=>step_region) (fun h=>h) ?_
 refine Lg.pre 0 1 1 (by simp) fun K hK z τ n' hz=>?_
 subst hz
 go_wp2
 refine hK _ _ (fun _=>rfl) ?_
 clear hK K
 refine Lg.call (i:=1) (rest:=[]) (f:=51) (args:=#[V]) rfl rfl (fun y=>by go_simp) (hS _ _ _ _ _ _ (HN.out.re hk)) ?_
 rintro vv t' w' ⟨rfl,s,H,rfl,hn⟩
 clear HN
 rw [Frame.finish_at]
 walk_nrm
 refine Lg.move _ (fun _ _=>step_region_end) (fun h=>h) ?_
 have HN:=Lib.hid hn
 clear hn
 refine Lg.move _ (fun _ _=>step_seq) (fun h=>h) ?_
 refine Lg.code fun K hK y τ n' hy=>?_
 subst hy
 have hn:=HN.out.re hk
 clear HN
 have hat:=R.at_ _ _ _ hn.rep
 have s0:=hat.r.stamp (q % (rn : Int)).toNat (by omega)
 have HN:=Lib.hid hn
 clear hn hat
 go_wp2_with (go_at_call 52; refine (atomic_load _ _ _ s0).mono ?_; rintro e w' ⟨rfl,rfl⟩)
 refine hK _ _ (fun _=>rfl) ?_
 clear hK K s0
 generalize hx : (l.get s.1).1 (q % (rn : Int)).toNat = x
 refine Lg.move _ (fun _ _=>step_seq) (fun h=>h) ?_
 refine Lg.move _ (fun _ _=>step_block) (fun h=>h) ?_
 refine Lg.move _ (fun _ _=>step_seq) (fun h=>h) ?_
 refine Lg.code fun K hK y τ n' hy=>?_
 subst hy
 have hn:=HN.out.re hk
 clear HN
 have HN:=Lib.hid hn
 clear hn
 go_wp2
 refine hK _ _ (fun _=>rfl) ?_
 clear hK K
 by_cases hlt : x < 2 * (q / (rn : Int))
 ·simp only [hlt,decide_true,if_true]
  refine Lg.move _ (fun _ _=>step_cond (t:=true) rfl) (fun h=>h) ?_
  refine Lg.move _ (fun _ _=>step_seq) (fun h=>h) ?_
  refine Lg.code fun K hK y τ n' hy=>?_
  subst hy
  have hn:=HN.out.re hk
  clear HN
  have HN:=Lib.hid hn
  clear hn
  go_wp2
  refine hK _ _ (fun _=>rfl) ?_
  clear hK K
  refine Lg.move _ (fun _ _=>step_ret) (fun h=>h) ?_
  refine Lg.leave rfl Try.func31 rfl (v:=.tuple #[.int .i64 0,.int .i64 6]) (fun _ _ _ _=>by simp [results,Try.f31]) (HR.out _ _ _ ⟨_,_,_,H,rfl,rfl,HN.out⟩)
 simp only [hlt,decide_false,if_false]
 refine Lg.move _ (fun _ _=>step_cond (t:=false) rfl) (fun h=>h) ?_
 refine Lg.move _ (fun _ _=>step_seq) (fun h=>h) ?_
 refine Lg.code fun K hK y τ n' hy=>?_
 subst hy
 have hn:=HN.out.re hk
 clear HN
 have HN:=Lib.hid hn
 clear hn
 go_wp2
 refine hK _ _ (fun _=>rfl) ?_
 clear hK K
 by_cases hgt : 2 * (q / (rn : Int)) < x
 ·simp only [hgt,decide_true,if_true]
  refine Lg.move _ (fun _ _=>step_cond (t:=true) rfl) (fun h=>h) ?_
  refine Lg.move _ (fun _ _=>step_seq) (fun h=>h) ?_
  refine Lg.code fun K hK y τ n' hy=>?_
  subst hy
  have hn:=HN.out.re hk
  clear HN
  have HN:=Lib.hid hn
  clear hn
  go_wp2
  refine hK _ _ (fun _=>rfl) ?_
  clear hK K
  refine Lg.move _ (fun _ _=>step_ret) (fun h=>h) ?_
  refine Lg.leave rfl Try.func31 rfl (v:=.tuple #[.int .i64 0,.int .i64 10]) (fun _ _ _ _=>by simp [results,Try.f31]) (HR.out _ _ _ ⟨_,_,_,H,rfl,rfl,HN.out⟩)
 simp only [hgt,decide_false,if_false]
 refine Lg.move _ (fun _ _=>step_cond (t:=false) rfl) (fun h=>h) ?_
 refine Lg.move _ (fun _ _=>step_skip) (fun h=>h) ?_
 refine Lg.move _ (fun _ _=>step_inBlock) (fun h=>h) ?_
 refine Lg.move _ (fun _ _=>step_seq) (fun h=>h) ?_
 refine Lg.move _ (fun _ _=>step_region) (fun h=>h) ?_
 refine Lg.pre 0 1 1 (by simp) fun K hK z τ n' hz=>?_
 subst hz
 go_wp2
 refine hK _ _ (fun _=>rfl) ?_
 clear hK K
 refine Lg.call (i:=1) (rest:=[]) (f:=51) (args:=#[V]) rfl rfl (fun y=>by go_simp) (hS _ _ _ _ _ _ (HN.out.re hk)) ?_
 rintro vv t' w' ⟨rfl,s,H,rfl,hn⟩
 clear HN
 rw [Frame.finish_at]
 walk_nrm
 refine Lg.move _ (fun _ _=>step_region_end) (fun h=>h) ?_
 have HN:=Lib.hid hn
 clear hn
 refine Lg.move _ (fun _ _=>step_seq) (fun h=>h) ?_
 refine Lg.code fun K hK y τ n' hy=>?_
 subst hy
 have hn:=HN.out.re hk
 clear HN
 have hat:=R.at_ _ _ _ hn.rep
 have s0:=hat.r.value (q % (rn : Int)).toNat (by omega)
 have HN:=Lib.hid hn
 clear hn hat
 go_wp2_with (go_at_call 52; refine (atomic_load _ _ _ s0).mono ?_; rintro e w' ⟨rfl,rfl⟩)
 refine hK _ _ (fun _=>rfl) ?_
 clear hK K s0
 refine Lg.move _ (fun _ _=>step_seq) (fun h=>h) ?_
 refine Lg.move _ (fun _ _=>step_region) (fun h=>h) ?_
 refine Lg.pre 0 1 1 (by simp) fun K hK z τ n' hz=>?_
 subst hz
 go_wp2
 refine hK _ _ (fun _=>rfl) ?_
 clear hK K
 refine Lg.call (i:=1) (rest:=[]) (f:=51) (args:=#[V]) rfl rfl (fun y=>by go_simp) (hS _ _ _ _ _ _ (HN.out.re hk)) ?_
 rintro vv t' w' ⟨rfl,s,H,rfl,hn⟩
 clear HN
 rw [Frame.finish_at]
 walk_nrm
 refine Lg.move _ (fun _ _=>step_region_end) (fun h=>h) ?_
 have HN:=Lib.hid hn
 clear hn
 refine Lg.move _ (fun _ _=>step_seq) (fun h=>h) ?_
 refine Lg.move _ (fun _ _=>step_seq) (fun h=>h) ?_
 refine Lg.code fun K hK y τ n' hy=>?_
 subst hy
 have hn:=HN.out.re hk
 clear HN
 have hat:=R.at_ _ _ _ hn.rep
 have s0:=hat.r.stamp (q % (rn : Int)).toNat (by omega)
 have HN:=Lib.hid hn
 clear hn hat
 go_wp2_with (go_at_call 52; refine (atomic_load _ _ _ s0).mono ?_; rintro e w' ⟨rfl,rfl⟩)
 refine hK _ _ (fun _=>rfl) ?_
 clear hK K s0
 generalize (l.get s.1).1 (q % (rn : Int)).toNat = z
 by_cases hne : z = x
 ·subst hne
  simp only [bne_self_eq_false,if_true]
  refine Lg.move _ (fun _ _=>step_cond (t:=false) rfl) (fun h=>h) ?_
  refine Lg.move _ (fun _ _=>step_skip) (fun h=>h) ?_
  refine Lg.move _ (fun _ _=>step_seq) (fun h=>h) ?_
  refine Lg.code fun K hK y τ n' hy=>?_
  subst hy
  have hn:=HN.out.re hk
  clear HN
  have HN:=Lib.hid hn
  clear hn
  go_wp2
  refine hK _ _ (fun _=>rfl) ?_
  clear hK K
  refine Lg.move _ (fun _ _=>step_ret) (fun h=>h) ?_
  refine Lg.leave rfl Try.func31 rfl (v:=.tuple #[_,.int .i64 0]) (fun _ _ _ _=>by simp [results,Try.f31]) (HR.out _ _ _ ⟨_,_,_,H,rfl,rfl,HN.out⟩)
 ·have hb : (z != x) = true:=by simpa using hne
  simp only [hb,if_neg hne]
  refine Lg.move _ (fun _ _=>step_cond (t:=true) rfl) (fun h=>h) ?_
  refine Lg.move _ (fun _ _=>step_seq) (fun h=>h) ?_
  refine Lg.code fun K hK y τ n' hy=>?_
  subst hy
  have hn:=HN.out.re hk
  clear HN
  have HN:=Lib.hid hn
  clear hn
  go_wp2
  refine hK _ _ (fun _=>rfl) ?_
  clear hK K
  refine Lg.move _ (fun _ _=>step_ret) (fun h=>h) ?_
  refine Lg.leave rfl Try.func31 rfl (v:=.tuple #[.int .i64 0,.int .i64 10]) (fun _ _ _ _=>by simp [results,Try.f31]) (HR.out _ _ _ ⟨_,_,_,H,rfl,rfl,HN.out⟩)
end Go.Proofs.Ytlhbonnminlnlaa
namespace Go.Proofs.Ytlhbonnminlnlaa
open Go.RowKit
def NumsRow (w0 : World) (n : Nat) (xs : List Int) (e : Ending) (w' : World) : Prop:=∃ v,e = .returned v∧w'.ownsRow w0.heap.size 2 1 v n (xs.map (Value.int .i64))∧Below w0.heap.size w0 w'
theorem cell_new1 (w : World) (v : Value) (t : TypeId) : ∀ j u,[v][j]? = some u→(w.alloc (.cells #[v] t)).cell? ((⟨w.heap.size,0,none⟩ : Addr).add j) = some u:=by
 intro j u h
 cases j with
 | zero =>
   simp only [List.getElem?_cons_zero,Option.some.injEq] at h
   subst h
   exact (Blk.new w t #[v]).cell 0
 | succ j=>simp at h
theorem there_x (X : Stepper) (hs : X.Steps Try.prog 51) (t rb sb n : Nat) (st va : Nat→Int) (q : Int) (w : World) (H : RingAt w rb sb n st va) (h0 : 0≤q) (h1 : q < 4611686018427387904) (A : X.at_ t w) (n1 : ¬ X.own rb) (n2 : ¬ X.own sb) :
  Calls Try.prog 60 #[.pointer (some ⟨rb,0,none⟩),X.v,.int .i64 q] w fun e w'=>e = .returned (.bool (st (q % n).toNat == 2 * (q / n)))∧Kept X.own w w'∧w'.heap.size = w.heap.size∧X.at_ (t + 1) w':=by
 have hn:=H.pos
 have h2:=H.most
 have hr:=H.ring
 have hb0 : 0≤q % (n : Int):=Int.emod_nonneg _ (by omega)
 have hb1 : q % (n : Int) < n:=Int.emod_lt_of_pos _ (by omega)
 have hd0 : 0≤q / (n : Int):=Int.ediv_nonneg h0 (by omega)
 have hd1 : q / (n : Int)≤q:=Int.ediv_le_self _ h0
 have HH:=Lib.hid H
 have HN1:=Lib.hid n1
 have HN2:=Lib.hid n2
 clear H n1 n2
 go_enter Try.func60,Try.ntmps60
 go_wp2_with (go_at_call 48; refine (good_yes _ _ n _ q _ hr hn h0 h1).mono ?_; rintro e w' ⟨rfl,rfl⟩)
 go_wp2_with fail
 refine (hs t _ A).mono ?_
 rintro e w1 ⟨rfl,A1,K1,Z1⟩
 have H1:=HH.out.kept K1 HN1.out HN2.out
 have hr1:=H1.ring
 have hs1:=H1.stamp (q % (n : Int)).toNat (by omega)
 have HK:=Lib.hid (And.intro K1 (And.intro Z1 A1))
 clear K1 Z1 A1 A hr H1
 go_wp2
 go_quiet (first | (go_at_call 49; exact quietS (slot_yes _ _ n _ q _ hr1 hn h2 h0 h1)) | (go_at_call 50; exact quietS (lap_yes _ _ n _ q _ hr1 hn h2 h0 h1)) | (go_at_call 52; exact quietS (atomic_load _ _ _ hs1)))
 go_wp2
 go_ret
 refine ⟨rfl,HK.out.1.trans (Kept.drewN _ _ nq),HK.out.2.1,X.keep HK.out.2.2 (Kept.drewN (fun _=>False) _ nq) (fun _ _ h=>h)⟩
end Go.Proofs.Ytlhbonnminlnlaa
namespace Go.Proofs.Ytlhbonnminlnlaa
open Go.RowKit
def BadAt (p : Option Addr) (q : Int) (w : World) : Prop:=Calls Try.prog 48 #[.pointer p,.int .i64 q] w fun e w'=>e = .returned (.bool false)∧w = w'
theorem bad_low (a : Addr) (sa : Option Addr) (n c : Nat) (q : Int) (w : World) (h : w.cell? a = some (.slice sa n c)) (hq : q < 0) : BadAt (some a) q w:=by
 unfold BadAt
 by_cases hn : 0 < n
 ·go_enter Try.func48,Try.ntmps48
  go_wp2
  go_ret
  exact ⟨by first | (simp; done) | (simp; omega),rfl⟩
 ·go_enter Try.func48,Try.ntmps48
  go_wp2
  go_ret
  exact ⟨by first | (simp; done) | (simp; omega),rfl⟩
theorem bad_high (a : Addr) (sa : Option Addr) (n c : Nat) (q : Int) (w : World) (h : w.cell? a = some (.slice sa n c)) (hq : 4611686018427387904≤q) : BadAt (some a) q w:=by
 unfold BadAt
 by_cases hn : 0 < n
 ·go_enter Try.func48,Try.ntmps48
  go_wp2
  go_ret
  exact ⟨by first | (simp; done) | (simp; omega),rfl⟩
 ·go_enter Try.func48,Try.ntmps48
  go_wp2
  go_ret
  exact ⟨by first | (simp; done) | (simp; omega),rfl⟩
section
variable {p : Option Addr} {q : Int} {w : World}
theorem put_bad (h : BadAt p q w) (S : Value) (v : Int) : Calls Try.prog 74 #[.pointer p,S,.int .i64 q,.int .i64 v] w fun e w'=>e = .returned (.int .i64 1)∧w = w':=by
 go_enter Try.func74,Try.ntmps74
 go_wp2_with (go_at_call 48; refine (show Calls _ _ _ _ _ from h).mono ?_; rintro e w' ⟨rfl,rfl⟩)
 go_ret
 exact ⟨rfl,rfl⟩
theorem get_bad (h : BadAt p q w) (S : Value) : Calls Try.prog 31 #[.pointer p,S,.int .i64 q] w fun e w'=>e = .returned (.tuple #[.int .i64 0,.int .i64 1])∧w = w':=by
 go_enter Try.func31,Try.ntmps31
 go_wp2_with (go_at_call 48; refine (show Calls _ _ _ _ _ from h).mono ?_; rintro e w' ⟨rfl,rfl⟩)
 go_ret2
 exact ⟨rfl,rfl⟩
theorem there_bad (h : BadAt p q w) (S : Value) : Calls Try.prog 60 #[.pointer p,S,.int .i64 q] w fun e w'=>e = .returned (.bool false)∧w = w':=by
 go_enter Try.func60,Try.ntmps60
 go_wp2_with (go_at_call 48; refine (show Calls _ _ _ _ _ from h).mono ?_; rintro e w' ⟨rfl,rfl⟩)
 go_ret
 exact ⟨rfl,rfl⟩
def pre64 (q : Int) : Int:=if q = -9223372036854775808 then q else q - 1
theorem highest_bad (h : BadAt p q w) (S : Value) (t : Int) (hq : -9223372036854775808≤q) (hq2 : q < 9223372036854775808) : Calls Try.prog 34 #[.pointer p,S,.int .i64 q,.int .i64 t] w fun e w'=>e = .returned (.int .i64 (pre64 q))∧w = w':=by
 unfold pre64
 by_cases hm : q = -9223372036854775808
 ·subst hm
  go_enter Try.func34,Try.ntmps34
  go_wp2_with (go_at_call 48; refine (show Calls _ _ _ _ _ from h).mono ?_; rintro e w' ⟨rfl,rfl⟩)
  go_ret
  exact ⟨rfl,rfl⟩
 ·have hb : (q == -9223372036854775808) = false:=by simpa using hm
  go_enter Try.func34,Try.ntmps34
  go_wp2_with (go_at_call 48; refine (show Calls _ _ _ _ _ from h).mono ?_; rintro e w' ⟨rfl,rfl⟩)
  go_ret
  exact ⟨rfl,rfl⟩
end
end Go.Proofs.Ytlhbonnminlnlaa
namespace Go.Proofs.Ytlhbonnminlnlaa
open Go.RowKit Go.Turn Go.Tame Go.Conc
structure Own1 (D : OpsD) (w0 : World) (H : Nat→Prop) (w : World) (b : Nat) (t : TypeId) (cs : Array Value) : Prop where
 blk : Blk w b t cs
 nh : ¬ H b
 ge : w0.heap.size≤b
 nr : ¬ D.RB b
section
variable {D : OpsD} {Cap : (Nat→Prop)→World→Prop} {H0 H H' : Nat→Prop} {w0 w w' y : World} {s s' : D.St} {b b' : Nat} {t t' : TypeId} {cs cs' : Array Value}
theorem Now.rlt (h : Now D Cap H0 w0 s H w) (hb : D.RB b) : b < w.heap.size:=by
 obtain ⟨c,t,r,hv⟩:=D.rbc b hb
 obtain ⟨r',k⟩:=h.rep.rb b c t r hb hv
 exact lt_of_some k
theorem Now.alloc (h : Now D Cap H0 w0 s H w) (o : Obj) : Now D Cap H0 w0 s H (w.alloc o):=⟨h.rep.alloc o,h.cap0,h.held.trans (Held.alloc H w o)⟩
theorem Now.own (h : Now D Cap H0 w0 s H w) (t : TypeId) (cs : Array Value) : Own1 D w0 H (w.alloc (.cells cs t)) w.heap.size t cs:=
 ⟨Blk.new w t cs,fun z=>Nat.lt_irrefl _ (h.rep.lt z),h.held.size,fun z=>Nat.lt_irrefl _ (h.rlt z)⟩
theorem Own1.alloc (h : Own1 D w0 H w b t cs) (o : Obj) : Own1 D w0 H (w.alloc o) b t cs:=⟨h.blk.alloc o,h.nh,h.ge,h.nr⟩
theorem Own1.set_ (h : Own1 D w0 H w b t cs) (i : Nat) (u : Value) : Own1 D w0 H (w.setCell ⟨b,i,none⟩ u) b t (cs.setIfInBounds i u):=⟨h.blk.set_ i u,h.nh,h.ge,h.nr⟩
theorem Own1.far (h : Own1 D w0 H w b t cs) (hb : b≠b') (i : Nat) (u : Value) : Own1 D w0 H (w.setCell ⟨b',i,none⟩ u) b t cs:=⟨h.blk.far hb u,h.nh,h.ge,h.nr⟩
theorem Own1.held (h : Own1 D w0 H w b t cs) (hh : Held H w H' w') : Own1 D w0 H' w' b t cs:=by
 obtain ⟨h1,h2⟩:=hh.block b cs t (0,0) h.blk h.nh (.inl (by decide))
 exact ⟨h1,h2,h.ge,h.nr⟩
theorem Own1.re {τ : Nat→Question→Nat} {n : Nat} (h : Own1 D w0 H (y.re τ n) b t cs) : Own1 D w0 H y b t cs:=⟨h.blk,h.nh,h.ge,h.nr⟩
theorem Now.set_ (h : Now D Cap H0 w0 s H w) (ho : Own1 D w0 H w b t cs) (i : Nat) (u : Value) : Now D Cap H0 w0 s H (w.setCell ⟨b,i,none⟩ u):=
 ⟨h.rep.set_ (p:=⟨b,i,none⟩) ho.nh ho.nr u,h.cap0,held_set h.held ho.ge u⟩
theorem Now.here (hk : CapK Cap) (h : Now D Cap H0 w0 s H w) : Now D Cap H w s H w:=⟨h.rep,hk _ _ _ _ h.cap0 h.held,Held.refl _ _⟩
theorem Now.on (h : Now D Cap H0 w0 s H w) (h' : Now D Cap H w s' H' w') : Now D Cap H0 w0 s' H' w':=⟨h'.rep,h.cap0,h.held.trans h'.held⟩
theorem Now.kept (h : Now D Cap H0 w0 s H w) (hk : Kept (fun _=>False) w w') : Now D Cap H0 w0 s H w':=
 ⟨RepO.law D s H w w' h.rep (fun b hb=>hk.block b (h.rep.lt hb) id) fun b c t r _ hb=>⟨r,(hk.block b (lt_of_some hb) id).trans hb⟩,h.cap0,h.held.trans ⟨hk.size,fun b c t r hb hn _=>⟨(hk.block b (lt_of_some hb) id).trans hb,hn⟩⟩⟩
theorem Own1.kept (h : Own1 D w0 H w b t cs) (hk : Kept (fun _=>False) w w') : Own1 D w0 H w' b t cs:=⟨(hk.block b h.blk.lt id).trans h.blk,h.nh,h.ge,h.nr⟩
end
theorem own_nil (w : World) (base : Nat) (t : TypeId) (size : Nat) : w.ownsRow base t size (.slice none 0 0) 0 []:=⟨by simp,.inl ⟨rfl,rfl⟩⟩
structure OutRow (D : OpsD) (w0 : World) (H : Nat→Prop) (w : World) (v : Value) (ls : List Int) : Prop where
 own : w.ownsRow w0.heap.size 2 1 v ls.length (ls.map (Value.int .i64))
 nh : ∀ b,v.ownBlock = some b→¬ H b∧¬ D.RB b
section
variable {D : OpsD} {Cap : (Nat→Prop)→World→Prop} {H0 H H' : Nat→Prop} {w0 w w' y : World} {s s' : D.St} {v : Value} {ls : List Int}
theorem OutRow.nil : OutRow D w0 H w (.slice none 0 0) []:=⟨own_nil _ _ _ _,fun b hb=>by simp [Value.ownBlock] at hb⟩
theorem OutRow.blk (h : OutRow D w0 H w v ls) {b : Nat} (hb : v.ownBlock = some b) : w0.heap.size≤b∧∃ cur,w.heap[b]? = some (.cells cur 2 (0,0)):=by
 rcases h.own.2 with ⟨e,_⟩ | ⟨g,cap,cur,e,hg,k,_⟩
 ·rw [e] at hb; simp [Value.ownBlock] at hb
 ·rw [e] at hb; simp only [Value.ownBlock,Option.some.injEq] at hb; subst hb; exact ⟨hg,cur,k⟩
theorem OutRow.held (h : OutRow D w0 H w v ls) (hh : Held H w H' w') : OutRow D w0 H' w' v ls:=by
 have key : ∀ b,v.ownBlock = some b→w'.heap[b]? = w.heap[b]?∧¬ H' b:=fun b hb=>by
  obtain ⟨_,cur,k⟩:=h.blk hb
  obtain ⟨h1,h2⟩:=hh.block b cur _ (0,0) k (h.nh b hb).1 (.inl (by decide))
  exact ⟨h1.trans k.symm,h2⟩
 exact ⟨own_same h.own fun b hb=>(key b hb).1,fun b hb=>⟨(key b hb).2,(h.nh b hb).2⟩⟩
theorem OutRow.re {τ : Nat→Question→Nat} {n : Nat} (h : OutRow D w0 H (y.re τ n) v ls) : OutRow D w0 H y v ls:=⟨h.own,h.nh⟩
theorem OutRow.kept (h : OutRow D w0 H w v ls) (hk : Kept (fun _=>False) w w') : OutRow D w0 H w' v ls:=
 ⟨own_same h.own fun b hb=>by obtain ⟨_,cur,k⟩:=h.blk hb; exact hk.block b (lt_of_some k) id,h.nh⟩
theorem Now.grown (h : Now D Cap H0 w0 s H w) {row : Option Nat} (hg : w.grownBy w' row) (hr : ∀ b,row = some b→w0.heap.size≤b∧¬ H b∧¬ D.RB b) : Now D Cap H0 w0 s H w':=by
 have same : ∀ b,b < w.heap.size→(H b∨D.RB b∨b < w0.heap.size)→w'.heap[b]? = w.heap[b]?:=fun b hb hc=>hg.block b hb fun e=>by
  obtain ⟨h1,h2,h3⟩:=hr b e.symm
  rcases hc with hc | hc | hc
  ·exact h2 hc
  ·exact h3 hc
  ·omega
 refine ⟨RepO.law D s H w w' h.rep (fun b hb=>same b (h.rep.lt hb) (.inl hb)) fun b c t r hb hx=>⟨r,(same b (lt_of_some hx) (.inr (.inl hb))).trans hx⟩,h.cap0,⟨Nat.le_trans h.held.size hg.size,fun b c t r hb hn hr=>?_⟩⟩
 obtain ⟨h1,h2⟩:=h.held.block b c t r hb hn hr
 exact ⟨(same b (lt_of_some h1) (.inr (.inr (lt_of_some hb)))).trans h1,h2⟩
end
end Go.Proofs.Ytlhbonnminlnlaa
namespace Go.Proofs.Ytlhbonnminlnlaa
open Go.RowKit
end Go.Proofs.Ytlhbonnminlnlaa
namespace Go.Proofs.Ytlhbonnminlnlaa
theorem strictL {P : Program} {c : Code} {Q : Exit→Act→World→Prop} {a : Act} {w : World} (h : c.wp P (fun e a' w'=>e = .normal∧Q .normal a' w') a w) : c.wp P Q a w:=wp_mono h (by rintro e a w ⟨rfl,h⟩; exact h)
theorem opL {P : Program} {ops : Array Oper} {Q : Exit→Act→World→Prop} {i : Nat} {K : Act→World→Prop} {a : Act} {w : World} {o : Oper} (ho : ops[i]? = some o) (hw : Region.wanted o (yielded ops a.tmps) = true) (h : o.wp P a w K Q) : wpOp P ops Q i K a w:=by
 unfold wpOp
 rw [ho]
 simp only [hw,if_true]
 exact .inl h
theorem oneL {P : Program} {ops : Array Oper} {md : Region.Mode} {Q : Exit→Act→World→Prop} {S : World→Prop} {i fuel : Nat} {listed : Array Bool} {a : Act} {w : World} {o : Oper} (hr : Region.ready md ops listed = [i]) (ho : ops[i]? = some o) (hw : Region.wanted o (yielded ops a.tmps) = true)
  (h : ∀ K : Act→World→Prop,(∀ a' w',S w'→wpAnyH P md ops Q S fuel (listed.setIfInBounds i true) a' w'→K a' w')→o.wp P a w K Q) : wpAnyH P md ops Q S (fuel + 1) listed a w:=
 wpAnyH_all hr (by simp) fun j hj=>by
  simp only [List.mem_singleton] at hj
  subst hj
  exact opL ho hw (h _ fun _ _ h1 h2=>⟨h1,h2⟩)
theorem rdL {P : Program} {ops : Array Oper} {md : Region.Mode} {Q : Exit→Act→World→Prop} {S : World→Prop} {listed : Array Bool} {a : Act} {w : World} (i fuel : Nat) (d : Tmp)
  (h : ∃ o,ops[i]? = some o∧o.dst = some d∧Region.noSelect ops = true∧Region.free md ops listed i = true∧(Region.ready md ops listed).contains i = true∧(∀ c a w,¬ Q (.panic c) a w)∧Region.wanted o (yielded ops a.tmps) = true∧S w ∧
    ∃ v,(∀ wq,S wq→(execOp a.eval o).run P wq = .ok (.value v) wq)∧wpAnyH P md ops Q S fuel (listed.setIfInBounds i true) (a.put (some d) v) w) : wpAnyH P md ops Q S (fuel + 1) listed a w:=by
 obtain ⟨o,h1,h2,h3,h4,h5,h6,h7,h8,v,h9,h10⟩:=h
 rw [← h2] at h10
 exact wpAnyH_take h1 h3 h4 h5 (fun c a w q=>absurd q (h6 c _ w)) (.inl ⟨h7,h9⟩) h8 h10
end Go.Proofs.Ytlhbonnminlnlaa
namespace Go.Proofs.Ytlhbonnminlnlaa
open Go.RowKit
def Shp (w w' : World) : Prop:=∀ (b : Nat) (c : Array Value) (t : TypeId),w.heap[b]? = some (.cells c t (0,0))→∃ c' : Array Value,w'.heap[b]? = some (.cells c' t (0,0))∧c'.size = c.size
def Pre (g : Option Nat) (m : Nat) (w w' : World) : Prop:=∀ (b : Nat) (c : Array Value) (t : TypeId),w.heap[b]? = some (.cells c t (0,0))→∃ c' : Array Value,w'.heap[b]? = some (.cells c' t (0,0))∧c'.size = c.size∧∀ j,(some b≠g∨j < m)→c'[j]? = c[j]?
section
variable {w w' w'' : World} {g : Option Nat} {m : Nat}
theorem Shp.refl (w : World) : Shp w w:=fun b c t h=>⟨c,h,rfl⟩
theorem Shp.trans (h : Shp w w') (k : Shp w' w'') : Shp w w'':=fun b c t hb=>by
 obtain ⟨c1,h1,s1⟩:=h b c t hb
 obtain ⟨c2,h2,s2⟩:=k b c1 t h1
 exact ⟨c2,h2,s2.trans s1⟩
theorem Pre.shp (h : Pre g m w w') : Shp w w':=fun b c t hb=>by
 obtain ⟨c',h1,h2,-⟩:=h b c t hb
 exact ⟨c',h1,h2⟩
theorem Pre.of_same (h : ∀ b,b < w.heap.size→w'.heap[b]? = w.heap[b]?) : Pre g m w w':=fun b c t hb=>⟨c,(h b (Blk.lt (t:=t) (cs:=c) hb)).trans hb,rfl,fun _ _=>rfl⟩
theorem Shp.kept (h : Kept (fun _=>False) w w') : Shp w w':=(Pre.of_same (g:=none) (m:=0) fun b hb=>h.block b hb id).shp
theorem Shp.setCell (b i : Nat) (u : Value) (w : World) : Shp w (w.setCell ⟨b,i,none⟩ u):=fun k c t hk=>by
 by_cases e : k = b
 ·subst e
  exact ⟨_,Blk.set_ (t:=t) (cs:=c) hk i u,by simp⟩
 ·exact ⟨c,Blk.far (t:=t) (cs:=c) hk (p:=⟨b,i,none⟩) e u,rfl⟩
end
section
variable {P : Program} (w : World)
theorem run_append_pre (base : Nat) (t ty e : TypeId) (i : TypeInfo) (z : Value) (size bytes : Nat) (ht : P.underlying t = some (.slice e)) (hi : P.info? e = some i) (hz : i.zero = some z)
  (hsize : i.size = size) (hby : i.bytes = bytes) (hzs : z.cells.size = size) (hsz : 0 < size)
  (v : Value) (n : Nat) (xs : List Value) (hown : w.ownsRow base e size v n xs)
  (A : Option Addr) (m c : Nat) (hA : A = none→c = 0) (hmc : m≤c) (news : List Value) (hl : news.length = m * size) (hnews : ∀ a,A = some a→∀ j u,news[j]? = some u→w.cell? (a.add j) = some u) (h1 : ∀ u ∈ news,u.oneCell' = true)
  (h63 : n + m≤maxLen) (hbytes : (n + m) * bytes≤140737488355328) (hbase : base≤w.heap.size) :
  ∃ v' w',(Builtin.append_ #[t,t] ty #[v,.slice A m c]).run P w = .ok v' w'∧w'.ownsRow base e size v' (n + m) (xs ++ news)∧Kept (fun b=>v.ownBlock = some b) w w'∧Pre v.ownBlock (n * size) w w' ∧
    (v'.ownBlock = v.ownBlock∨∀ b,v'.ownBlock = some b→w.heap.size≤b)∧(0 < n + m→v'≠.slice none 0 0):=by
 subst hsize
 subst hby
 cases A with
 | none =>
   obtain rfl:=hA rfl
   obtain rfl : m = 0:=by omega
   have hn : news = []:=List.eq_nil_of_length_eq_zero (by simpa using hl)
   subst hn
   have hr : (Builtin.append_ #[t,t] ty #[v,.slice none 0 0]).run P w = .ok v w:=by
    rcases hown.2 with ⟨rfl,rfl⟩ | ⟨g,cap,cur,rfl,_,_,hnc,_⟩
    ·simp [Builtin.append_,run_underlying ht,sizeOf,typeInfo,hi,Builtin.lenOf,Builtin.firstCells]
    ·simp [Builtin.append_,run_underlying ht,sizeOf,typeInfo,hi,Builtin.lenOf,Builtin.firstCells,hnc,storeCells]
   refine ⟨v,w,hr,by simpa using hown,Kept.refl _ _,Pre.of_same fun _ _=>rfl,.inl rfl,fun h e=>?_⟩
   rcases hown.2 with ⟨-,h2⟩ | ⟨g,cap,cur,hv,_⟩
   ·omega
   ·rw [e] at hv; cases hv
 | some a =>
   have hnews:=hnews a rfl
   have hsmall : n + m≤9223372036854775807:=by simp only [maxLen] at h63; omega
   have hlen : (xs ++ news).length = (n + m) * i.size:=by rw [List.length_append,hown.1,hl,Nat.add_mul]
   have grown : ∀ (old : Nat),old < n + m→∀ (S : Nat→Prop) (g : Option Nat) (k : Nat),
     (w.drew.alloc (.cells (xs.toArray ++ news.toArray ++ Builtin.zeroCells z.cells (grownCap w (n + m) old e - (n + m))) e)).ownsRow base e i.size
       (.slice (some ⟨w.heap.size,0,none⟩) (n + m) (grownCap w (n + m) old e)) (n + m) (xs ++ news) ∧
     Kept S w (w.drew.alloc (.cells (xs.toArray ++ news.toArray ++ Builtin.zeroCells z.cells (grownCap w (n + m) old e - (n + m))) e)) ∧
     Pre g k w (w.drew.alloc (.cells (xs.toArray ++ news.toArray ++ Builtin.zeroCells z.cells (grownCap w (n + m) old e - (n + m))) e)):=by
    intro old ho S g k
    have hge:=grownCap_ge w (n + m) old e
    have hcm : grownCap w (n + m) old e≤maxLen:=grownCap_le_maxLen w (n + m) old e h63
    refine ⟨⟨hlen,.inr ⟨w.heap.size,_,_,rfl,hbase,heap_alloc_new w.drew _,hge,hcm,?_,?_⟩⟩,(Kept.drew w).trans (Kept.alloc _ _),Pre.of_same fun b hb=>heap_alloc_old w.drew _ hb⟩
    ·simp only [Array.size_append,List.size_toArray,size_zeroCells,hzs,hown.1,hl,← Nat.add_mul]
     congr 1
     omega
    ·simp only [Array.toList_append,List.append_assoc]
     rw [← List.append_assoc,← hlen]
     exact List.take_left
   rcases hown.2 with ⟨rfl,rfl⟩ | ⟨g,cap,cur,rfl,hbg,hg,hnc,hcm,hcs,htake⟩
   ·have hx : xs = []:=List.eq_nil_of_length_eq_zero (by simpa using hown.1)
    subst hx
    by_cases hm : m = 0
    ·subst hm
     have hn : news = []:=List.eq_nil_of_length_eq_zero (by simpa using hl)
     subst hn
     refine ⟨.slice none 0 0,w,?_,World.ownsRow_nil w base e i.size,Kept.refl _ _,Pre.of_same fun _ _=>rfl,.inl rfl,fun h=>by omega⟩
     simp [Builtin.append_,run_underlying ht,sizeOf,typeInfo,hi,Builtin.lenOf,Builtin.firstCells,loadCells,loadCellsFrom]
    ·have hr:=run_append_nil (P:=P) w t ty e i z ht hi hz a m c news hl hnews (by omega) (by omega) (by have hb:=hbytes; simp only [Nat.zero_add] at hb; omega)
     have hgr:=grown 0 (by omega) (fun b=>(Value.slice none 0 0).ownBlock = some b) (Value.slice none 0 0).ownBlock (0 * i.size)
     simp only [Nat.zero_add,List.nil_append,Array.empty_append] at hgr ⊢
     exact ⟨_,_,hr,hgr.1,hgr.2.1,hgr.2.2,.inr fun b hb=>by cases hb; exact Nat.le_refl _,fun _ e=>by cases e⟩
   ·by_cases hroom : n + m≤cap
    ·have hfit : n * i.size + news.length≤cur.size:=by rw [hl,hcs,← Nat.add_mul]; exact Nat.mul_le_mul_right _ hroom
     have hr:=run_append_room (P:=P) w t ty e i ht hi g n cap cur hg a m c news hl hnews h1 hroom hfit
     have hsz : (cur.toList.take (n * i.size) ++ news ++ cur.toList.drop (n * i.size + news.length)).toArray.size = cur.size:=by
      simp only [List.size_toArray,List.length_append,List.length_take,List.length_drop,Array.length_toList]
      omega
     refine ⟨_,_,hr,⟨hlen,.inr ⟨g,cap,_,rfl,hbg,setRow_heap w g cur _ e _ hg,hroom,hcm,?_,?_⟩⟩,⟨rfl,rfl,rfl,by simp,fun k _ hk=>setRow_other w g k _ (fun e=>hk (by simp [Value.ownBlock,e]))⟩,fun b c t hb=>?_,.inl rfl,fun _ e=>by cases e⟩
     ·simp only [List.size_toArray,List.length_append,List.length_take,List.length_drop,Array.length_toList]
      omega
     ·rw [htake,← hlen]
      exact List.take_left
     ·by_cases e : b = g
      ·subst e
       rw [hg] at hb
       simp only [Option.some.injEq,Obj.cells.injEq] at hb
       obtain ⟨rfl,rfl,-⟩:=hb
       refine ⟨_,setRow_heap w b cur _ e _ hg,hsz,fun j hj=>?_⟩
       have hj : j < n * i.size:=by
        rcases hj with h | h
        ·exact absurd rfl h
        ·exact h
       simp [List.getElem?_append,hj]
       omega
      ·exact ⟨c,(setRow_other w g b _ e).trans hb,rfl,fun _ _=>rfl⟩
    ·have holds : ∀ j u,xs[j]? = some u→w.cell? ((⟨g,0,none⟩ : Addr).add j) = some u:=hown.cells (g:=g) rfl
     have hr:=run_append_grow (P:=P) w t ty e i z ht hi hz ⟨g,0,none⟩ n cap xs hown.1 holds a m c news hl hnews (by omega) (by omega) (growslice_fits (by omega) hbytes)
     have hgr:=grown cap (by omega) (fun b=>(Value.slice (some ⟨g,0,none⟩) n cap).ownBlock = some b) (Value.slice (some ⟨g,0,none⟩) n cap).ownBlock (n * i.size)
     exact ⟨_,_,hr,hgr.1,hgr.2.1,hgr.2.2,.inr fun b hb=>by cases hb; exact Nat.le_refl _,fun _ e=>by cases e⟩
theorem wpList_app {ops : Array Oper} {rest : List Oper} {o : Oper} {a : Act} {Q : Exit→Act→World→Prop} (hgd : o.guard = none) (s x : Operand) (t : TypeId)
  (ho : o.op = .call { callee:=.builtin .append,args:=#[s,x],argTypes:=#[t,t] })
  (base : Nat) (e : TypeId) (i : TypeInfo) (z : Value) (size bytes : Nat) (ht : P.underlying t = some (.slice e)) (hi : P.info? e = some i) (hz : i.zero = some z)
  (hsize : i.size = size) (hby : i.bytes = bytes) (hzs : z.cells.size = size) (hsz : 0 < size)
  (v : Value) (n : Nat) (xs : List Value) (hs : a.eval s = v) (hown : w.ownsRow base e size v n xs)
  (A : Option Addr) (m c : Nat) (hx : a.eval x = .slice A m c) (hA : A = none→c = 0) (hmc : m≤c) (news : List Value) (hl : news.length = m * size) (hnews : ∀ a,A = some a→∀ j u,news[j]? = some u→w.cell? (a.add j) = some u) (h1 : ∀ u ∈ news,u.oneCell' = true)
  (h63 : n + m≤maxLen) (hbytes : (n + m) * bytes≤140737488355328) (hbase : base≤w.heap.size)
  (h : ∀ v' w',w'.ownsRow base e size v' (n + m) (xs ++ news)→Kept (fun b=>v.ownBlock = some b) w w'→Pre v.ownBlock (n * size) w w'→(v'.ownBlock = v.ownBlock∨∀ b,v'.ownBlock = some b→w.heap.size≤b)→(0 < n + m→v'≠.slice none 0 0)→wpList P ops Q rest (a.put o.dst v') w') : wpList P ops Q (o :: rest) a w:=
 wpList_plain hgd fun K hK=>by
  obtain ⟨v',w',hr,h2,h3,h4,h5,h6⟩:=run_append_pre (P:=P) w base t o.type e i z size bytes ht hi hz hsize hby hzs hsz v n xs hown A m c hA hmc news hl hnews h1 h63 hbytes hbase
  unfold Oper.wp execOp
  simp only [ho,resolve,invoke,builtin,Sem.run_bind,Sem.run_pure,Result.andThen_ok,List.map_toArray,List.map_cons,List.map_nil,hs,hx,hr]
  exact hK _ _ (h v' w' h2 h3 h4 h5 h6)
end
end Go.Proofs.Ytlhbonnminlnlaa
namespace Go.Proofs.Ytlhbonnminlnlaa
open Go.RowKit Go.Turn Go.Tame Go.Conc
theorem Old.below {B : Nat} {a b c : World} (h : Old B a b) (k : Below b.heap.size b c) (hB : B≤b.heap.size) : Old B a c:=
 h.trans ⟨k.size,fun i hi=>k.block i (by omega),k.os,k.output⟩
structure OpsCells (W0 : World) (good : OpI→Prop) (w0 : World) (n : Nat) (A : Nat→Option Addr) (len : Nat→Nat) (ops : Nat→List OpI) : Prop where
 len : ∀ i,i < n→(ops i).length = min (len i) 65536
 good : ∀ i,i < n→∀ o ∈ ops i,good o
 cells : ∀ i,i < n→∀ j (h : j < (ops i).length),∃ b o cs t r,A i = some ⟨b,o,none⟩∧w0.heap[b]? = some (.cells cs t r)∧(r.2 < big∨b < W0.heap.size)∧∀ m,m < 4→cs[o + j * 4 + m]? = (ops i)[j].cells[m]?
theorem OpsCells.opsIn {I : Inner} {good : OpI→Prop} {a0 : I.A} {W0 w0 w1 : World} {n : Nat} {A : Nat→Option Addr} {len : Nat→Nat} {ops : Nat→List OpI} (h : OpsCells W0 good w0 n A len ops) (ho : Old w0.heap.size w0 w1) (hat : I.At a0 w1) (hbi : ∀ b,I.BI b→(∃ c t r,w1.heap[b]? = some (.cells c t r)∧r.2 < big)∧w0.heap.size≤b) (hbx : I.Box a0 (fun _=>False) w1) : OpsIn W0 I good a0 w1 n A len ops where
 at_:=hat
 box:=hbx
 bi:=fun b hb=>(hbi b hb).1
 len:=h.len
 good:=h.good
 cells:=fun i hi j hj=>by
  obtain ⟨b,o,cs,t,r,h1,h2,h3,h4⟩:=h.cells i hi j hj
  have hlt:=lt_of_some h2
  exact ⟨b,o,cs,t,r,h1,(ho.block b hlt).trans h2,h3,fun z=>by have:=(hbi b z).2; omega,h4⟩
structure PlayG (W0 : World) {A : Type} (sL : Nat) (stf : A→List Int) (R : Run (A × (Nat→List Ans))) (n : Nat) (w0 : World) (v : Value) (w' : World) : Prop where
 ex : ∃ (ab : Nat) (ov tv : Value) (H : Nat→Prop),w0.heap.size≤ab∧v = .agg #[.slice (some ⟨ab,0,none⟩) n n,ov,tv,.bool (decide (0 < R.m.left n))] ∧
  w'.ownsRow w0.heap.size 3 1 ov R.order.length (R.order.map (Value.int .i64)) ∧
  w'.ownsRow w0.heap.size 2 1 tv sL ((stf R.m.s.1).map (Value.int .i64)) ∧
  AnsAll w' ab n R.m.s.2 H∧(∀ (b : Nat) (c : Array Value) (t : TypeId) (r : Nat × Nat),(b < W0.heap.size∨r.2 < big)→w0.heap[b]? = some (.cells c t r)→¬ H b)∧∀ b,tv.ownBlock = some b→¬ H b
 size : w0.heap.size≤w'.heap.size
 near : ∀ (b : Nat) (c : Array Value) (t : TypeId) (r : Nat × Nat),(b < W0.heap.size∨r.2 < big)→w0.heap[b]? = some (.cells c t r)→w'.heap[b]? = some (.cells c t r)
 io : w'.os = w0.os∧w'.output = w0.output
def opCells (l : List OpI) : List Value:=l.flatMap OpI.cells
theorem opCells_get : ∀ (l : List OpI) (j m : Nat),m < 4→(opCells l)[j * 4 + m]? = l[j]?.bind fun o=>o.cells[m]?
 | [],j,m,hm=>by simp [opCells]
 | o :: l,0,m,hm=>by
   rw [show opCells (o :: l) = o.cells ++ opCells l from by simp [opCells],Nat.zero_mul,Nat.zero_add,List.getElem?_append_left (by simpa [OpI.cells] using hm)]
   rfl
 | o :: l,j + 1,m,hm=>by
   rw [show opCells (o :: l) = o.cells ++ opCells l from by simp [opCells],show (j + 1) * 4 + m = (j * 4 + m) + 4 from by omega,List.getElem?_append_right (by simp [OpI.cells]),show j * 4 + m + 4 - o.cells.length = j * 4 + m from by simp [OpI.cells],opCells_get l j m hm]
   simp
def AnsAt (w : World) (v : Value) (l : List Ans) : Prop:=∃ A c,v = .slice A l.length c∧∀ i (h : i < l.length),∃ b o lv,A = some ⟨b,o,none⟩∧w.cell? ⟨b,o + i * 3,none⟩ = some (.bool l[i].ok)∧w.cell? ⟨b,o + i * 3 + 1,none⟩ = some (.int .i64 l[i].n)∧w.cell? ⟨b,o + i * 3 + 2,none⟩ = some lv∧IntsAt w lv l[i].ls∧l[i].ls.length≤maxLen
theorem IntsAt.below {w w' : World} {v : Value} {xs : List Int} (h : IntsAt w v xs) (hk : Below w.heap.size w w') : IntsAt w' v xs:=by
 obtain ⟨A,c,e,h1⟩:=h
 refine ⟨A,c,e,fun i hi=>?_⟩
 obtain ⟨b,o,h2,h3,h4⟩:=h1 i hi
 exact ⟨b,o,h2,Nat.lt_of_lt_of_le h3 hk.size,(World.cell?_of_block (w:=w) (hk.block b h3)).trans h4⟩
theorem AnsAt.below {w w' : World} {v : Value} {l : List Ans} (h : AnsAt w v l) (hk : Below w.heap.size w w') : AnsAt w' v l:=by
 obtain ⟨A,c,e,h1⟩:=h
 refine ⟨A,c,e,fun i hi=>?_⟩
 obtain ⟨b,o,lv,h2,h3,h4,h5,h6,h7⟩:=h1 i hi
 have hb : w'.heap[b]? = w.heap[b]?:=hk.block b (lt_of_cell h3)
 exact ⟨b,o,lv,h2,(World.cell?_of_block (w:=w) hb).trans h3,(World.cell?_of_block (w:=w) hb).trans h4,(World.cell?_of_block (w:=w) hb).trans h5,h6.below hk,h7⟩
structure TraceAt (w : World) (n : Nat) (ans : Nat→List Ans) (ord sta : List Int) (A : Option Addr) (c : Nat) (ov tv : Value) : Prop where
 ord : IntsAt w ov ord∧ord.length≤maxLen
 sta : IntsAt w tv sta∧sta.length≤maxLen
 row : ∀ i,i < n→∃ b o row,A = some ⟨b,o,none⟩∧w.cell? ⟨b,o + i,none⟩ = some row∧AnsAt w row (ans i)∧(ans i).length≤maxLen
theorem TraceAt.below {w w' : World} {n : Nat} {ans : Nat→List Ans} {ord sta : List Int} {A : Option Addr} {c : Nat} {ov tv : Value} (h : TraceAt w n ans ord sta A c ov tv) (hk : Below w.heap.size w w') : TraceAt w' n ans ord sta A c ov tv:=
 ⟨⟨h.ord.1.below hk,h.ord.2⟩,⟨h.sta.1.below hk,h.sta.2⟩,fun i hi=>by
   obtain ⟨b,o,row,h1,h2,h3,h4⟩:=h.row i hi
   exact ⟨b,o,row,h1,(World.cell?_of_block (w:=w) (hk.block b (lt_of_cell h2))).trans h2,h3.below hk,h4⟩⟩
theorem own_max {w : World} {base : Nat} {e : TypeId} {size n : Nat} {v : Value} {xs : List Value} (h : w.ownsRow base e size v n xs) : n≤maxLen:=by
 rcases h.2 with ⟨_,rfl⟩ | ⟨g,cap,cur,_,_,_,h1,h2,_⟩
 ·exact Nat.zero_le _
 ·omega
theorem AnsRow.at_ {w : World} {G : Nat→Prop} : ∀ {l : List Ans} {xs : List Value},AnsRow w G l xs→∀ i (h : i < l.length),∃ lv,xs[i * 3]? = some (.bool l[i].ok)∧xs[i * 3 + 1]? = some (.int .i64 l[i].n)∧xs[i * 3 + 2]? = some lv∧LsAt w lv l[i].ls
 | [],_,_,i,h=>absurd h (Nat.not_lt_zero i)
 | a :: l,xs,⟨lv,xs',e,h1,_,h3⟩,0,_=>⟨lv,by rw [e]; rfl,by rw [e]; rfl,by rw [e]; rfl,h1⟩
 | a :: l,xs,⟨lv,xs',e,h1,_,h3⟩,i + 1,h=>by
   obtain ⟨lv',k1,k2,k3,k4⟩:=h3.at_ i (by simpa using h)
   subst e
   refine ⟨lv',?_,?_,?_,by simpa using k4⟩
   ·rw [show (i + 1) * 3 = i * 3 + 3 from by omega]; simpa using k1
   ·rw [show (i + 1) * 3 + 1 = (i * 3 + 1) + 3 from by omega]; simpa using k2
   ·rw [show (i + 1) * 3 + 2 = (i * 3 + 2) + 3 from by omega]; simpa using k3
theorem AnsAt.of_own {w : World} {G : Nat→Prop} {v : Value} {l : List Ans} {xs : List Value} (h : w.ownsRow 0 66 3 v l.length xs) (k : AnsRow w G l xs) : AnsAt w v l:=by
 rcases id h.2 with ⟨rfl,h0⟩ | ⟨g,cap,cur,rfl,_⟩
 ·exact ⟨none,0,by rw [h0],fun i hi=>by omega⟩
 ·refine ⟨_,_,rfl,fun i hi=>?_⟩
  obtain ⟨lv,k1,k2,k3,k4⟩:=k.at_ i hi
  exact ⟨g,0,lv,rfl,by rw [Nat.zero_add]; exact (h.cellAt _ (by omega)).trans k1,by rw [Nat.zero_add]; exact (h.cellAt _ (by omega)).trans k2,by rw [Nat.zero_add]; exact (h.cellAt _ (by omega)).trans k3,IntsAt.of_own k4,own_max k4⟩
def OpRow (w : World) (v : Value) (l : List OpI) : Prop:=∃ A c,v = .slice A l.length c∧l.length≤maxLen∧∀ i (h : i < l.length),∃ b o,A = some ⟨b,o,none⟩∧w.cell? ⟨b,o + i * 4,none⟩ = some (.int .i64 l[i].kind)∧w.cell? ⟨b,o + i * 4 + 1,none⟩ = some (.int .i64 l[i].a)∧w.cell? ⟨b,o + i * 4 + 2,none⟩ = some (.int .i64 l[i].b)∧w.cell? ⟨b,o + i * 4 + 3,none⟩ = some (.int .i64 l[i].c)
def ThreadsAt (w : World) (A : Option Addr) (n : Nat) (ops : Nat→List OpI) : Prop:=∀ i,i < n→∃ b o row,A = some ⟨b,o,none⟩∧w.cell? ⟨b,o + i,none⟩ = some row∧OpRow w row (ops i)
theorem OpRow.of_own {w : World} {B : Nat} {v : Value} {l : List OpI} (h : w.ownsRow B 62 4 v l.length (opCells l)) : OpRow w v l:=by
 have hm:=own_max h
 rcases id h.2 with ⟨rfl,h0⟩ | ⟨g,cap,cur,rfl,_⟩
 ·exact ⟨none,0,by rw [h0],hm,fun i hi=>by omega⟩
 ·refine ⟨_,_,rfl,hm,fun i hi=>⟨g,0,rfl,?_⟩⟩
  have key : ∀ m,m < 4→w.cell? ⟨g,0 + i * 4 + m,none⟩ = l[i].cells[m]?:=fun m hm=>by
   rw [Nat.zero_add,h.cellAt (g:=g) (i * 4 + m) (by omega),opCells_get l i m hm,List.getElem?_eq_getElem hi]
   rfl
  exact ⟨key 0 (by omega),key 1 (by omega),key 2 (by omega),key 3 (by omega)⟩
theorem OpRow.below {w w' : World} {v : Value} {l : List OpI} (h : OpRow w v l) (hk : Below w.heap.size w w') : OpRow w' v l:=by
 obtain ⟨A,c,e,hm,h1⟩:=h
 refine ⟨A,c,e,hm,fun i hi=>?_⟩
 obtain ⟨b,o,h2,h3,h4,h5,h6⟩:=h1 i hi
 have hb : w'.heap[b]? = w.heap[b]?:=hk.block b (lt_of_cell h3)
 exact ⟨b,o,h2,(World.cell?_of_block (w:=w) hb).trans h3,(World.cell?_of_block (w:=w) hb).trans h4,(World.cell?_of_block (w:=w) hb).trans h5,(World.cell?_of_block (w:=w) hb).trans h6⟩
theorem ThreadsAt.below {w w' : World} {A : Option Addr} {n : Nat} {ops : Nat→List OpI} (h : ThreadsAt w A n ops) (hk : Below w.heap.size w w') : ThreadsAt w' A n ops:=fun i hi=>by
 obtain ⟨b,o,row,h1,h2,h3⟩:=h i hi
 exact ⟨b,o,row,h1,(World.cell?_of_block (w:=w) (hk.block b (lt_of_cell h2))).trans h2,h3.below hk⟩
theorem ThreadsAt.fix {w : World} {A : Option Addr} {n : Nat} {ops : Nat→List OpI} (h : ThreadsAt w A n ops) (hn : 0 < n) : ∃ b o,A = some ⟨b,o,none⟩∧∀ i,i < n→∃ rA rc,w.cell? ⟨b,o + i,none⟩ = some (.slice rA (ops i).length rc)∧(ops i).length≤maxLen∧∀ j (h : j < (ops i).length),∃ b2 o2,rA = some ⟨b2,o2,none⟩∧w.cell? ⟨b2,o2 + j * 4,none⟩ = some (.int .i64 (ops i)[j].kind)∧w.cell? ⟨b2,o2 + j * 4 + 1,none⟩ = some (.int .i64 (ops i)[j].a)∧w.cell? ⟨b2,o2 + j * 4 + 2,none⟩ = some (.int .i64 (ops i)[j].b)∧w.cell? ⟨b2,o2 + j * 4 + 3,none⟩ = some (.int .i64 (ops i)[j].c):=by
 obtain ⟨b,o,_,rfl,_⟩:=h 0 hn
 refine ⟨b,o,rfl,fun i hi=>?_⟩
 obtain ⟨b1,o1,row,e,h2,rA,rc,rfl,h3,h4⟩:=h i hi
 cases e
 exact ⟨rA,rc,h2,h3,h4⟩
theorem TraceAt.fix {w : World} {n : Nat} {ans : Nat→List Ans} {ord sta : List Int} {A : Option Addr} {c : Nat} {ov tv : Value} (h : TraceAt w n ans ord sta A c ov tv) (hn : 0 < n) : ∃ b o,A = some ⟨b,o,none⟩∧∀ i,i < n→∃ rA rc,w.cell? ⟨b,o + i,none⟩ = some (.slice rA (ans i).length rc)∧(ans i).length≤maxLen∧∀ j (h : j < (ans i).length),∃ b2 o2 lA lc,rA = some ⟨b2,o2,none⟩∧w.cell? ⟨b2,o2 + j * 3,none⟩ = some (.bool (ans i)[j].ok)∧w.cell? ⟨b2,o2 + j * 3 + 1,none⟩ = some (.int .i64 (ans i)[j].n)∧w.cell? ⟨b2,o2 + j * 3 + 2,none⟩ = some (.slice lA (ans i)[j].ls.length lc)∧IntsAt w (.slice lA (ans i)[j].ls.length lc) (ans i)[j].ls∧(ans i)[j].ls.length≤maxLen:=by
 obtain ⟨b,o,_,rfl,_⟩:=h.row 0 hn
 refine ⟨b,o,rfl,fun i hi=>?_⟩
 obtain ⟨b1,o1,row,e,h2,⟨rA,rc,rfl,h3⟩,h4⟩:=h.row i hi
 cases e
 refine ⟨rA,rc,h2,h4,fun j hj=>?_⟩
 obtain ⟨b2,o2,lv,e,k1,k2,k3,k4,k5⟩:=h3 j hj
 obtain ⟨lA,lc,rfl,_⟩:=id k4
 exact ⟨b2,o2,lA,lc,e,k1,k2,k3,k4,k5⟩
theorem IntsAt.fix {w : World} {A : Option Addr} {n c : Nat} {xs : List Int} (h : IntsAt w (.slice A n c) xs) (hn : 0 < n) : ∃ b o,A = some ⟨b,o,none⟩∧∀ i,i < n→w.cell? ⟨b,o + i,none⟩ = some (.int .i64 (xs.getD i 0)):=by
 obtain ⟨A',c',e,h1⟩:=h
 cases e
 obtain ⟨b,o,rfl,_⟩:=h1 0 hn
 refine ⟨b,o,rfl,fun i hi=>?_⟩
 obtain ⟨b1,o1,e,_,h2⟩:=h1 i hi
 cases e
 exact h2
theorem Kept.bel {w w' : World} (h : Kept (fun _=>False) w w') : Below w.heap.size w w':=h.to_below (fun _ z=>z.elim) (Nat.le_refl _)
end Go.Proofs.Ytlhbonnminlnlaa
