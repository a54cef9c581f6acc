/- DERIVED. The document's machine of layer 13, walked: a Claim's step, all of it. -/
import Derived.Test.YtoepekcheapgmaaGe
import Derived.Test.YtoepekcheapgmaaGd
import Derived.Test.YtoepekcheapgmaaGj
import Derived.Test.YtoepekcheapgmaaGi
import Derived.Test.YtoepekcheapgmaaGh
import Derived.Maps.AppendAt
set_option linter.unusedVariables false
set_option linter.unusedSectionVars false
set_option linter.unusedSimpArgs false
namespace Go.Turn
section
variable {P : Program} {ops : Array Oper} {m : Nat}
def reachB (md : Region.Mode) (ops : Array Oper) (m : Nat) : Nat→Nat→Bool
  | 0,j=>waits md ops m j
  | f + 1,j=>waits md ops m j || (List.range ops.size).any (fun i=>waits md ops i j && reachB md ops m f i)
def lastR (md : Region.Mode) (ops : Array Oper) (m : Nat) : Bool:=decide (m < ops.size) && (List.range ops.size).all (fun i=>(ops[i]?).all fun o=>o.after.all fun e=>decide (e.on < i)) && (List.range ops.size).all (fun j=>j == m || reachB md ops m ops.size j)
theorem reach_listed {md : Region.Mode} {listed : Array Bool} (hc : Closed md ops listed) (hi : m ∈ Region.ready md ops listed) : ∀ (f j : Nat),reachB md ops m f j = true→listed.getD j false = true
  | 0,j,h=>waits_ready hi h
  | f + 1,j,h=>by
    simp only [reachB,Bool.or_eq_true,List.any_eq_true,Bool.and_eq_true] at h
    rcases h with h | ⟨x,_,h1,h2⟩
    · exact waits_ready hi h
    · exact hc.2 x j (reach_listed hc hi f x h2) h1
theorem last_of3 {md : Region.Mode} (hB : lastR md ops m = true) : ∀ (f t : Nat) (listed : Array Bool),Closed md ops listed→listed.getD m true = false→open_ listed ops.size≤f→∃ l,Region.linearise.go md ops f t listed [] = l ++ [m]∧m ∉ l:=by
  have hB':=hB
  simp only [lastR,Bool.and_eq_true,decide_eq_true_eq] at hB'
  obtain ⟨⟨hm,hb⟩,hall⟩:=hB'
  intro f
  induction f with
  | zero =>
    intro t listed hc h0 hf
    have:=open_pos (listed:=listed) ops.size hm (by rw [getD_any listed (by rw [hc.1]; exact hm) false true]; exact h0)
    omega
  | succ f ih =>
    intro t listed hc h0 hf
    simp only [Region.linearise.go]
    change ∃ l,(match (Region.ready md ops listed)[t % (Region.ready md ops listed).length]? with
      | some i=>Region.linearise.go md ops f (t / (Region.ready md ops listed).length) (listed.setIfInBounds i true) [i]
      | none=>[].reverse) = l ++ [m]∧m ∉ l
    have hne : Region.ready md ops listed≠[]:=ready_some hb hc.1 m hm (by rw [getD_any listed (by rw [hc.1]; exact hm) false true]; exact h0)
    have hlt : t % (Region.ready md ops listed).length < (Region.ready md ops listed).length:=Nat.mod_lt _ (List.length_pos_iff.2 hne)
    rw [List.getElem?_eq_getElem hlt]
    have hi:=List.getElem_mem hlt
    generalize (Region.ready md ops listed)[t % (Region.ready md ops listed).length] = i at hi
    simp only []
    rw [linearise_go_acc]
    by_cases e : i = m
    · subst e
      have key : Region.ready md ops (listed.setIfInBounds i true) = []:=by
        apply Classical.byContradiction
        intro hn
        obtain ⟨j,hj⟩:=List.exists_mem_of_ne_nil _ hn
        obtain ⟨h1,o,ho,_⟩:=mem_ready.1 hj
        have hjlt : j < ops.size:=(Array.getElem?_eq_some_iff.1 ho).1
        rw [getD_set] at h1
        split at h1
        · cases h1
        · rename_i hne'
          have hji : j≠i:=fun z=>hne' ⟨z.symm,by rw [hc.1]; exact hjlt⟩
          have h2:=(List.all_eq_true.1 hall) j (List.mem_range.2 hjlt)
          have h3 : listed.getD j false = true:=by
            simp only [Bool.or_eq_true,beq_iff_eq] at h2
            rcases h2 with h2 | h2
            · exact absurd h2 hji
            · exact reach_listed hc hi _ _ h2
          rw [getD_any listed (by rw [hc.1]; exact hjlt) true false,h3] at h1
          cases h1
      rw [go_nil key]
      exact ⟨[],rfl,by simp⟩
    · have hlt' : i < listed.size:=by
        obtain ⟨_,o,ho,_⟩:=mem_ready.1 hi
        rw [hc.1]; exact (Array.getElem?_eq_some_iff.1 ho).1
      have h2:=open_set hlt' (mem_ready.1 hi).1 ops.size
      rw [if_pos (by rw [← hc.1]; exact hlt')] at h2
      obtain ⟨l,h3,h4⟩:=ih (t / (Region.ready md ops listed).length) _ (closed_step hc hi) (by rw [getD_set,if_neg (fun h=>e h.1)]; exact h0) (by omega)
      rw [h3]
      exact ⟨i :: l,by simp,by simp [h4,Ne.symm e]⟩
theorem last_begin3 {md : Region.Mode} (hB : lastR md ops m = true) (t : Nat) : ∃ l,Region.linearise.go md ops ops.size t (Array.replicate ops.size false) [] = l ++ [m]∧m ∉ l:=by
  have hm : m < ops.size:=by simp only [lastR,Bool.and_eq_true,decide_eq_true_eq] at hB; exact hB.1.1
  have e : ∀ x d,x < ops.size→(Array.replicate ops.size false).getD x d = false:=fun x d h=>by simp [Array.getD,h]
  refine last_of3 hB ops.size t _ ⟨by simp,fun x y hx _=>?_⟩ (e m true hm) ?_
  · by_cases h : x < ops.size
    · rw [e x false h] at hx; cases hx
    · simp [Array.getD,h] at hx
  · have : ∀ n,open_ (Array.replicate ops.size false) n≤n:=fun n=>by
      induction n with
      | zero=>exact Nat.le_refl _
      | succ n ih=>simp only [open_]; split <;> omega
    exact this _
theorem wp_region_lastR {id : Nat} {Q : Exit→Act→World→Prop} {S : World→Prop} {a : Act} {w : World} (m : Nat) (hm : P.follows .mixedOrders = true) (hlast : lastR .any ops m = true) (hg : noGuard ops m = true)
    (h : wpAnyH P .any (idle ops m) (Exit.then (fun a' w'=>wpOps P ops Q [m] a' w') fun _ _ _=>False) S (idle ops m).size (Array.replicate (idle ops m).size false) a w.drew) : (Code.region id ops true).wp P Q a w:=by
  refine wp_region_draw fun t=>?_
  rw [show Region.schedule (P.follows .mixedOrders) ops t = Region.linearise.go .any ops ops.size t (Array.replicate ops.size false) [] from by simp [Region.schedule,hm,Region.linearise]]
  obtain ⟨l,hl,hml⟩:=last_begin3 hlast t
  have hmlt : m < ops.size:=by simp only [lastR,Bool.and_eq_true,decide_eq_true_eq] at hlast; exact hlast.1.1
  have hs : (idle ops m).size = ops.size:=by simp [idle]
  have h1:=wpAny_sound _ t _ _ _ (wpAny_of_held _ _ _ _ h)
  rw [hs,idle_go,hl,wpOps_split,idle_wp hg l hml] at h1
  rw [hl,wpOps_split]
  refine wpOps_mono' (fun a' w' hz=>?_) (fun e a w he hz=>?_) l a _ h1
  · obtain ⟨o,ho⟩ : ∃ o,ops[m]? = some o:=⟨_,Array.getElem?_eq_getElem hmlt⟩
    have ho' : (idle ops m)[m]? = some { o with dst:=none,op:=.move (.const undef),guard:=none }:=by simp [idle,Array.getElem?_modify,ho]
    have hr : (execOp a'.eval { o with dst:=none,op:=.move (.const undef),guard:=none }).run P w' = .ok (.value undef) w':=by simp [execOp,go_sem,Act.eval]
    have hz' : wpOps P (idle ops m) (Exit.then (fun a' w'=>wpOps P ops Q [m] a' w') fun _ _ _=>False) [m] a' w':=hz
    simp only [wpOps,ho',Region.wanted,if_true] at hz'
    rcases hz' with hz' | ⟨_,a2,w2,hz'⟩
    · rw [Oper.wp,hr,Oper.upon_value] at hz'
      have : wpOps P ops Q [m] a' w':=hz'
      exact this
    · exact hz'.elim
  · cases e with
    | normal=>exact absurd rfl he
    | _=>exact hz.elim
theorem wp_region_lastQ {id : Nat} {Q : Exit→Act→World→Prop} {a : Act} {w : World} (m : Nat) (hm : P.follows .mixedOrders = true) (hlast : lastR .any ops m = true) (hg : noGuard ops m = true) (hB : Region.lexB .any (idle ops m) = true)
    (h : wpQuiet P (idle ops m) (fun w'=>∃ n,w' = w.drewN n) (fun a'=>∀ w',(∃ n,w' = w.drewN n)→wpOps P ops Q [m] a' w') (idle ops m).toList a) : (Code.region id ops true).wp P Q a w:=by
  refine wp_region_draw fun t=>?_
  rw [show Region.schedule (P.follows .mixedOrders) ops t = Region.linearise.go .any ops ops.size t (Array.replicate ops.size false) [] from by simp [Region.schedule,hm,Region.linearise]]
  obtain ⟨l,hl,hml⟩:=last_begin3 hlast t
  have hmlt : m < ops.size:=by simp only [lastR,Bool.and_eq_true,decide_eq_true_eq] at hlast; exact hlast.1.1
  have hs : (idle ops m).size = ops.size:=by simp [idle]
  simp only [Region.lexB,Bool.and_eq_true] at hB
  have h1 : wpOps P (idle ops m) (Exit.then (fun a' w'=>wpOps P ops Q [m] a' w') fun _ _ _=>False) (Region.linearise.go .any (idle ops m) (idle ops m).size t (Array.replicate (idle ops m).size false) []) a w.drew:=by
    refine wpAny_sound _ _ _ _ _ (wpAny_of_quiet (C:=fun w'=>∃ n,w' = w.drewN n) (Q:=fun a'=>∀ w',(∃ n,w' = w.drewN n)→wpOps P ops Q [m] a' w') (fun _ _ hc hk=>hk _ hc) _ _ _ _ ⟨1,rfl⟩ ?_)
    have:=wpAnyQ_lex (C:=fun w'=>∃ n,w' = w.drewN n) (md:=.any) hB.1 (idle ops m).toList 0 (Array.replicate (idle ops m).size false) a (by simp) (by simpa using hB.2) h
    simpa using this
  rw [hs,idle_go,hl,wpOps_split,idle_wp hg l hml] at h1
  rw [hl,wpOps_split]
  refine wpOps_mono' (fun a' w' hz=>?_) (fun e a w he hz=>?_) l a _ h1
  · obtain ⟨o,ho⟩ : ∃ o,ops[m]? = some o:=⟨_,Array.getElem?_eq_getElem hmlt⟩
    have ho' : (idle ops m)[m]? = some { o with dst:=none,op:=.move (.const undef),guard:=none }:=by simp [idle,Array.getElem?_modify,ho]
    have hr : (execOp a'.eval { o with dst:=none,op:=.move (.const undef),guard:=none }).run P w' = .ok (.value undef) w':=by simp [execOp,go_sem,Act.eval]
    have hz' : wpOps P (idle ops m) (Exit.then (fun a' w'=>wpOps P ops Q [m] a' w') fun _ _ _=>False) [m] a' w':=hz
    simp only [wpOps,ho',Region.wanted,if_true] at hz'
    rcases hz' with hz' | ⟨_,a2,w2,hz'⟩
    · rw [Oper.wp,hr,Oper.upon_value] at hz'
      have : wpOps P ops Q [m] a' w':=hz'
      exact this
    · exact hz'.elim
  · cases e with
    | normal=>exact absurd rfl he
    | _=>exact hz.elim
end
end Go.Turn
namespace Go.Turn
section
variable {P : Program} {ops : Array Oper} {Q : Exit→Act→World→Prop} {S : World→Prop}
end
end Go.Turn
namespace Go.Proofs.Ytoepekcheapgmaa
open Go.RowKit Go.Turn Go.Tame Go.Conc
structure MulS where
  st : Nat→Int
  va : Nat→Int
  cur : Int
  seen : Int
structure MulX (I : MIds) (S : MulS) (O : Nat→Prop) (w : World) : Prop where
  mul : Blk w I.mb 81 #[.pointer (some ⟨I.rb,0,none⟩),.int .i64 I.first,.pointer (some ⟨I.cb,0,none⟩),.pointer (some ⟨I.eb,0,none⟩)]
  ring : RingAt w I.rb I.gb I.n S.st S.va
  cw : Blk w I.cb 186 #[.int .i64 S.cur]
  sw : Blk w I.eb 186 #[.int .i64 S.seen]
  d1 : I.gb≠I.mb∧I.gb≠I.cb∧I.gb≠I.eb
  d2 : I.cb≠I.mb∧I.cb≠I.eb∧I.cb≠I.rb
  d3 : I.eb≠I.mb∧I.eb≠I.rb
  own : ∀ b,O b→b≠I.mb∧b≠I.rb∧b≠I.gb∧b≠I.cb∧b≠I.eb
  f0 : 0≤I.first
  f1 : I.first < 4611686018427387904
  c0 : -1≤S.cur
  c1 : S.cur < 4611686018427387904
section
variable {I : MIds} {S : MulS} {O : Nat→Prop} {w w' : World}
theorem MulX.kept {Z : Nat→Prop} (h : MulX I S O w) (k : Kept Z w w') (h1 : ¬ Z I.mb) (h2 : ¬ Z I.rb) (h3 : ¬ Z I.gb) (h4 : ¬ Z I.cb) (h5 : ¬ Z I.eb) : MulX I S O w':=
  ⟨h.mul.kept k h1,h.ring.kept k h2 h3,h.cw.kept k h4,h.sw.kept k h5,h.d1,h.d2,h.d3,h.own,h.f0,h.f1,h.c0,h.c1⟩
theorem MulX.step (h : MulX I S O w) (k : Kept O w w') : MulX I S O w':=
  h.kept k (fun z=>(h.own _ z).1 rfl) (fun z=>(h.own _ z).2.1 rfl) (fun z=>(h.own _ z).2.2.1 rfl) (fun z=>(h.own _ z).2.2.2.1 rfl) (fun z=>(h.own _ z).2.2.2.2 rfl)
theorem MulX.keep {Z : Nat→Prop} (h : MulX I S O w) (k : Kept Z w w') (hz : ∀ b,b < w.heap.size→¬ Z b) : MulX I S O w':=
  h.kept k (hz _ h.mul.lt) (hz _ h.ring.rlt) (hz _ h.ring.glt) (hz _ h.cw.lt) (hz _ h.sw.lt)
end
set_option maxRecDepth 100000 in
theorem wload_x (X : Stepper) (hs : X.Steps Try.prog 79) (t b : Nat) (v : Int) (w : World) (h : Blk w b 186 #[.int .i64 v]) (hb : ¬ X.own b) (A : X.at_ t w) :
    Calls Try.prog 49 #[.pointer (some ⟨b,0,none⟩),X.v] w fun e w'=>e = .returned (.int .i64 v)∧Kept X.own w w'∧w'.heap.size = w.heap.size∧X.at_ (t + 1) w':=by
  have HH:=Lib.hid (And.intro h hb)
  clear h hb
  go_enter Try.func49,Try.ntmps49
  go_wp2_with (go_at_call 79; refine (hs t w A).mono ?_; rintro e w1 ⟨rfl,a1,k1,z1⟩)
  have c1:=(HH.out.1.kept k1 HH.out.2).cell 0
  simp only [List.getElem?_toArray,List.getElem?_cons_zero] at c1
  have H1:=Lib.hid (And.intro k1 (And.intro z1 a1))
  clear k1 z1 a1
  go_wp2_with (go_at_call 62; refine (atomic_load _ _ _ c1).mono ?_; rintro e w' ⟨rfl,hw'⟩; subst hw')
  go_ret
  exact ⟨rfl,H1.out⟩
set_option maxRecDepth 100000 in
theorem wstore_x (X : Stepper) (hs : X.Steps Try.prog 79) (t b : Nat) (v u : Int) (w : World) (h : Blk w b 186 #[.int .i64 u]) (hb : ¬ X.own b) (A : X.at_ t w) :
    Calls Try.prog 68 #[.pointer (some ⟨b,0,none⟩),X.v,.int .i64 v] w fun e w'=>e = .returned (.tuple #[])∧Blk w' b 186 #[.int .i64 v]∧Kept (fun c=>c = b∨X.own c) w w'∧w'.heap.size = w.heap.size∧X.at_ (t + 1) w':=by
  have HH:=Lib.hid (And.intro h hb)
  clear h hb
  go_enter Try.func68,Try.ntmps68
  go_wp2_with (go_at_call 79; refine (hs t w A).mono ?_; rintro e w1 ⟨rfl,a1,k1,z1⟩)
  have hb1:=HH.out.1.kept k1 HH.out.2
  have c1:=hb1.cell 0
  have y1:=hb1.frozen 0
  simp only [List.getElem?_toArray,List.getElem?_cons_zero] at c1
  have H1:=Lib.hid (And.intro k1 (And.intro z1 (And.intro a1 hb1)))
  clear k1 z1 a1 hb1
  go_wp2_with (go_at_call 78; refine (atomic_store _ v u _ c1 y1).mono ?_; rintro e w' ⟨rfl,rfl⟩)
  go_end0
  obtain ⟨k1,z1,a1,hb1⟩:=H1.out
  have ks:=Kept.setCell (S:=fun c=>c = b) w1 (p:=⟨b,0,none⟩) rfl (.int .i64 v)
  refine ⟨rfl,hb1.set_ 0 _,(k1.mono fun _ _ z=>.inr z).trans (ks.mono fun _ _ z=>.inl z),by simpa [World.setCell] using z1,X.keep a1 ks fun c hc e=>HH.out.2 (e ▸ hc)⟩
set_option maxRecDepth 100000 in
theorem wcas_x (X : Stepper) (hs : X.Steps Try.prog 79) (t b : Nat) (v u : Int) (w : World) (h : Blk w b 186 #[.int .i64 u]) (hb : ¬ X.own b) (A : X.at_ t w) :
    Calls Try.prog 52 #[.pointer (some ⟨b,0,none⟩),X.v,.int .i64 u,.int .i64 v] w fun e w'=>e = .returned (.bool true)∧Blk w' b 186 #[.int .i64 v]∧Kept (fun c=>c = b∨X.own c) w w'∧w'.heap.size = w.heap.size∧X.at_ (t + 1) w':=by
  have HH:=Lib.hid (And.intro h hb)
  clear h hb
  go_enter Try.func52,Try.ntmps52
  go_wp2_with (go_at_call 79; refine (hs t w A).mono ?_; rintro e w1 ⟨rfl,a1,k1,z1⟩)
  have hb1:=HH.out.1.kept k1 HH.out.2
  have c1:=hb1.cell 0
  have y1:=hb1.frozen 0
  simp only [List.getElem?_toArray,List.getElem?_cons_zero] at c1
  have H1:=Lib.hid (And.intro k1 (And.intro z1 (And.intro a1 hb1)))
  clear k1 z1 a1 hb1
  go_wp2_with (go_at_call 81; refine (atomic_cas _ u v u _ c1 y1).mono ?_; rintro e w' ⟨rfl,hw'⟩; rw [show (u == u) = true by simp] at hw' ⊢; rw [if_pos rfl] at hw'; subst hw')
  go_ret
  obtain ⟨k1,z1,a1,hb1⟩:=H1.out
  have ks:=Kept.setCell (S:=fun c=>c = b) w1 (p:=⟨b,0,none⟩) rfl (.int .i64 v)
  refine ⟨rfl,hb1.set_ 0 _,(k1.mono fun _ _ z=>.inr z).trans (ks.mono fun _ _ z=>.inl z),by simpa [World.setCell] using z1,X.keep a1 ks fun c hc e=>HH.out.2 (e ▸ hc)⟩
abbrev FrX : Type:=MulS→Int→Int→Bool × Int × Nat
structure FreeX (X : Stepper) (I : MIds) (hval : Value) (fr : FrX) : Prop where
  law : ∀ (t : Nat) (S : MulS) (w : World),MulX I S X.own w→X.at_ t w→∀ n : Int,1≤n→n≤I.n→S.cur + n < 4611686018427387904 →
    Calls Try.prog 50 #[.pointer (some ⟨I.mb,0,none⟩),X.v,hval,.int .i64 S.cur,.int .i64 n] w fun e w'=>e = .returned (.bool (fr S S.cur n).1)∧MulX I { S with seen:=(fr S S.cur n).2.1 } X.own w'∧Kept (fun b=>b = I.eb∨X.own b) w w'∧w'.heap.size = w.heap.size∧X.at_ (t + (fr S S.cur n).2.2) w'
def wrX (st : Nat→Int) (n : Nat) (fs : Int) : Nat→Int→Bool × Nat
  | 0,_=>(true,0)
  | m + 1,q=>if fs≤q then (if st (q % n).toNat = 2 * (q / n) then ((wrX st n fs m (q + 1)).1,(wrX st n fs m (q + 1)).2 + 1) else (false,1)) else wrX st n fs m (q + 1)
set_option maxHeartbeats 2000000 in
set_option maxRecDepth 100000 in
theorem written_x (X : Stepper) (hs2 : X.Steps Try.prog 85) (I : MIds) (t : Nat) (S : MulS) (w : World) (h : MulX I S X.own w) (A : X.at_ t w) (m : Nat) (hm : m≤I.n) (hcn : S.cur + m < 4611686018427387904) :
    Calls Try.prog 51 #[.pointer (some ⟨I.mb,0,none⟩),X.v,.int .i64 S.cur,.int .i64 m] w fun e w'=>e = .returned (.bool (wrX S.st I.n I.first m (S.cur + 1 - I.n)).1)∧Kept X.own w w'∧w'.heap.size = w.heap.size∧X.at_ (t + (wrX S.st I.n I.first m (S.cur + 1 - I.n)).2) w':=by
  have hp:=h.ring.pos
  have hmo:=h.ring.most
  have hc0:=h.c0
  have hf0:=h.f0
  have hf1:=h.f1
  have b0 : w.cell? ⟨I.mb,0,none⟩ = some (.pointer (some ⟨I.rb,0,none⟩)):=h.mul.cell 0
  have r0:=h.ring.ring
  obtain ⟨st,va,c,g⟩:=S
  dsimp only at hc0 hcn ⊢
  have HH:=Lib.hid h
  have HA:=Lib.hid A
  clear h A
  go_enter Try.func51,Try.ntmps51
  go_wp2_with (go_at_call 23; refine (multi_sizeM _ _ _ _ _ _ b0 r0).mono ?_; rintro e w' ⟨rfl,hw'⟩; subst hw')
  clear b0 r0
  obtain ⟨q0,hq0⟩ : ∃ q0,q0 = c + 1 - (I.n : Int):=⟨_,rfl⟩
  rw [← hq0]
  have HQ:=Lib.hid hq0
  clear hq0
  go_loopw [9] (fun q wr=>∃ j : Nat,j≤m∧q = .int .i64 (q0 + j)∧Kept X.own w wr∧wr.heap.size = w.heap.size∧∃ k,X.at_ (t + k) wr∧(wrX st I.n I.first m q0).1 = (wrX st I.n I.first (m - j) (q0 + j)).1∧(wrX st I.n I.first m q0).2 = k + (wrX st I.n I.first (m - j) (q0 + j)).2) (fun q _=>(c + m + 1 - intOf q).toNat)
  case atStart=>exact ⟨0,Nat.zero_le _,by simp,Kept.refl _ _,rfl,0,HA.out,by simp,by simp⟩
  case round =>
    obtain ⟨j,hj,rfl,hk,hz,k,ha,e1,e2⟩:=hrel
    obtain ⟨q,hq⟩ : ∃ q,q = q0 + (j : Int):=⟨_,rfl⟩
    rw [← hq]
    have HE:=Lib.hid (And.intro hk (And.intro hz (And.intro ha (And.intro e1 e2))))
    have hqb : -65536≤q∧q < 4611686018427387904:=by have:=HQ.out; omega
    have hqr : q = c + 1 - I.n + j:=by have:=HQ.out; omega
    have HJ:=Lib.hid (And.intro hq hqr)
    have H1:=Lib.hid (HH.out.step hk)
    have b0 : wr.cell? ⟨I.mb,0,none⟩ = some (.pointer (some ⟨I.rb,0,none⟩)):=H1.out.mul.cell 0
    have b1 : wr.cell? ⟨I.mb,1,none⟩ = some (.int .i64 I.first):=H1.out.mul.cell 1
    have r0:=H1.out.ring.ring
    by_cases hlt : j < m
    · have d1 : decide (q≤c + (m : Int) - I.n) = true:=decide_eq_true (by omega)
      have hqm : q≤c + m:=by omega
      have hNX:=Lib.hid (show m - j = (m - (j + 1)) + 1 by omega)
      clear hk hz ha e1 e2 hq hqr
      by_cases hf : I.first≤q
      · have d2 : decide (I.first≤q) = true:=decide_eq_true hf
        go_wp2_with (go_at_call 23; refine (multi_sizeM _ _ _ _ _ _ b0 r0).mono ?_; rintro e w' ⟨rfl,hw'⟩; subst hw')
        refine (there_x X hs2 (t + k) I.rb I.gb I.n st va q _ H1.out.ring (by omega) hqb.2 HE.out.2.2.1 (fun z=>(H1.out.own _ z).2.1 rfl) (fun z=>(H1.out.own _ z).2.2.1 rfl)).mono ?_
        rintro e w2 ⟨rfl,k2,z2,a2⟩
        by_cases hst : st (q % I.n).toNat = 2 * (q / I.n)
        · rw [show (st (q % (I.n : Int)).toNat == 2 * (q / I.n)) = true by simpa using hst]
          have H2:=Lib.hid (And.intro k2 (And.intro z2 (And.intro a2 hst)))
          clear k2 z2 a2 hst b0 b1 r0 d2
          go_wp2
          go_roundw
          case rel =>
            obtain ⟨hk,hz,ha,e1,e2⟩:=HE.out
            obtain ⟨k2,z2,a2,hst⟩:=H2.out
            have hq:=HJ.out.1
            have e3 : wrX st I.n I.first (m - j) (q0 + j) = ((wrX st I.n I.first (m - (j + 1)) (q + 1)).1,(wrX st I.n I.first (m - (j + 1)) (q + 1)).2 + 1):=by
              rw [hNX.out,← hq]
              show (if I.first≤q then (if st (q % I.n).toNat = 2 * (q / I.n) then _ else _) else _) = _
              rw [if_pos hf,if_pos hst]
            have e4 : q0 + ((j + 1 : Nat) : Int) = q + 1:=by omega
            refine ⟨j + 1,hlt,by rw [e4],hk.trans k2,z2.trans hz,k + 1,a2,?_,?_⟩
            · rw [e4,e1,e3]
            · rw [e4,e2,e3]; show _ + (_ + 1) = _; omega
          case measure=>simp [intOf]; omega
        · rw [show (st (q % (I.n : Int)).toNat == 2 * (q / I.n)) = false by simpa using hst]
          have H2:=Lib.hid (And.intro k2 (And.intro z2 (And.intro a2 hst)))
          clear k2 z2 a2 hst b0 b1 r0 d2
          go_wp2
          go_ret
          obtain ⟨hk,hz,ha,e1,e2⟩:=HE.out
          obtain ⟨k2,z2,a2,hst⟩:=H2.out
          have e3 : wrX st I.n I.first (m - j) (q0 + j) = (false,1):=by
            rw [hNX.out,← HJ.out.1]
            show (if I.first≤q then (if st (q % I.n).toNat = 2 * (q / I.n) then _ else _) else _) = _
            rw [if_pos hf,if_neg hst]
          rw [← HQ.out,e1,e2,e3]
          exact ⟨rfl,hk.trans k2,z2.trans hz,a2⟩
      · have d2 : decide (I.first≤q) = false:=decide_eq_false hf
        go_wp2_with (go_at_call 23; refine (multi_sizeM _ _ _ _ _ _ b0 r0).mono ?_; rintro e w' ⟨rfl,hw'⟩; subst hw')
        clear b0 r0 b1
        go_roundw
        case rel =>
          obtain ⟨hk,hz,ha,e1,e2⟩:=HE.out
          have hq:=HJ.out.1
          have e3 : wrX st I.n I.first (m - j) (q0 + j) = wrX st I.n I.first (m - (j + 1)) (q + 1):=by
            rw [hNX.out,← hq]
            show (if I.first≤q then (if st (q % I.n).toNat = 2 * (q / I.n) then _ else _) else _) = _
            rw [if_neg (by omega)]
          have e4 : q0 + ((j + 1 : Nat) : Int) = q + 1:=by omega
          exact ⟨j + 1,hlt,by rw [e4],hk,hz,k,ha,by rw [e4,e1,e3],by rw [e4,e2,e3]⟩
        case measure=>simp [intOf]; omega
    · obtain rfl : j = m:=by omega
      have d1 : decide (q≤c + (j : Int) - I.n) = false:=decide_eq_false (by omega)
      clear hk hz ha e1 e2 hq hqr
      go_wp2_with (go_at_call 23; refine (multi_sizeM _ _ _ _ _ _ b0 r0).mono ?_; rintro e w' ⟨rfl,hw'⟩; subst hw')
      go_ret
      obtain ⟨hk,hz,ha,e1,e2⟩:=HE.out
      rw [Nat.sub_self] at e1 e2
      rw [← HQ.out,e1,e2]
      exact ⟨rfl,hk,hz,ha⟩
def claimX (fr : FrX) (N : Nat) (fs : Int) (S : MulS) (m : Int) : Int × Int × MulS × Nat:=
  if m < 1∨(N : Int) < m then (0,1,S,0)
  else if 4611686018427387904≤S.cur + m then (0,8,S,1)
  else if (fr S S.cur m).1 = false then (0,3,{ S with seen:=(fr S S.cur m).2.1 },1 + (fr S S.cur m).2.2)
  else if (wrX S.st N fs m.toNat (S.cur + 1 - N)).1 = false then (0,3,{ S with seen:=(fr S S.cur m).2.1 },1 + (fr S S.cur m).2.2 + (wrX S.st N fs m.toNat (S.cur + 1 - N)).2 + 1)
  else (S.cur + m,0,{ S with seen:=(fr S S.cur m).2.1,cur:=S.cur + m },1 + (fr S S.cur m).2.2 + (wrX S.st N fs m.toNat (S.cur + 1 - N)).2 + 1)
theorem MulX.setCur {X : Stepper} {I : MIds} {S : MulS} {w w' : World} (h : MulX I S X.own w) {c : Int} (s2 : Blk w' I.cb 186 #[.int .i64 c]) (k2 : Kept (fun b=>b = I.cb∨X.own b) w w') (h0 : -1≤c) (h1 : c < 4611686018427387904) : MulX I { S with cur:=c } X.own w':=by
  have no : ∀ b,b≠I.cb→¬ X.own b→¬ (b = I.cb∨X.own b):=fun b h1 h2 z=>z.elim h1 h2
  have o:=h.own
  exact ⟨h.mul.kept k2 (no _ h.d2.1.symm fun z=>(o _ z).1 rfl),h.ring.kept k2 (no _ h.d2.2.2.symm fun z=>(o _ z).2.1 rfl) (no _ h.d1.2.1 fun z=>(o _ z).2.2.1 rfl),s2,h.sw.kept k2 (no _ h.d2.2.1.symm fun z=>(o _ z).2.2.2.2 rfl),h.d1,h.d2,h.d3,o,h.f0,h.f1,h0,h1⟩
def OutM (I : MIds) (O : Nat→Prop) (b : Nat) : Prop:=b = I.cb∨b = I.eb∨b = I.gb∨O b
set_option maxHeartbeats 2000000 in
set_option maxRecDepth 100000 in
theorem claim_x (X : Stepper) (hs : X.Steps Try.prog 79) (hs2 : X.Steps Try.prog 85) (I : MIds) {hval : Value} {fr : FrX} (hF : FreeX X I hval fr) (t : Nat) (S : MulS) (w : World) (h : MulX I S X.own w) (A : X.at_ t w) (n : Int) :
    Calls Try.prog 18 #[.pointer (some ⟨I.mb,0,none⟩),X.v,hval,.int .i64 n] w fun e w'=>e = .returned (.tuple #[.int .i64 (claimX fr I.n I.first S n).1,.int .i64 (claimX fr I.n I.first S n).2.1])∧MulX I (claimX fr I.n I.first S n).2.2.1 X.own w'∧Kept (OutM I X.own) w w'∧w'.heap.size = w.heap.size∧X.at_ (t + (claimX fr I.n I.first S n).2.2.2) w':=by
  have hp:=h.ring.pos
  have hmo:=h.ring.most
  have hc0:=h.c0
  have hc1:=h.c1
  have b0 : w.cell? ⟨I.mb,0,none⟩ = some (.pointer (some ⟨I.rb,0,none⟩)):=h.mul.cell 0
  have r0:=h.ring.ring
  have HH:=Lib.hid h
  have HA:=Lib.hid A
  clear h A
  unfold claimX
  by_cases h1 : n < 1
  · rw [if_pos (.inl h1)]
    have d1 : decide (n < 1) = true:=decide_eq_true h1
    go_enter Try.func18,Try.ntmps18
    go_wp2_with (go_at_call 23; refine (multi_sizeM _ _ _ _ _ _ b0 r0).mono ?_; rintro e w' ⟨rfl,hw'⟩; subst hw')
    go_ret2
    exact ⟨rfl,HH.out,Kept.refl _ _,rfl,HA.out⟩
  have d1 : decide (n < 1) = false:=decide_eq_false h1
  by_cases h2 : (I.n : Int) < n
  · rw [if_pos (.inr h2)]
    have d2 : decide ((I.n : Int) < n) = true:=decide_eq_true h2
    go_enter Try.func18,Try.ntmps18
    go_wp2_with (go_at_call 23; refine (multi_sizeM _ _ _ _ _ _ b0 r0).mono ?_; rintro e w' ⟨rfl,hw'⟩; subst hw')
    go_ret2
    exact ⟨rfl,HH.out,Kept.refl _ _,rfl,HA.out⟩
  have d2 : decide ((I.n : Int) < n) = false:=decide_eq_false h2
  rw [if_neg (by omega)]
  obtain ⟨m,rfl⟩ : ∃ m : Nat,n = m:=⟨n.toNat,by omega⟩
  have hm1 : 1≤m:=by omega
  have hm2 : m≤I.n:=by omega
  clear h1 h2
  rw [Int.toNat_natCast]
  have HFR:=Lib.hid (hF.law)
  by_cases h3 : 4611686018427387904≤S.cur + (m : Int)
  · rw [if_pos h3]
    have d3 : decide (4611686018427387904≤S.cur + (m : Int)) = true:=decide_eq_true h3
    go_enter Try.func18,Try.ntmps18
    go_wp2_with (go_at_call 23; refine (multi_sizeM _ _ _ _ _ _ b0 r0).mono ?_; rintro e w' ⟨rfl,hw'⟩; subst hw')
    clear b0 r0
    go_loopw [10] (fun _ wr=>wr = w) (fun _ _=>0)
    case atStart=>trivial
    case round =>
      subst hrel
      have b2 : World.cell? _ ⟨I.mb,2,none⟩ = some (.pointer (some ⟨I.cb,0,none⟩)):=HH.out.mul.cell 2
      go_wp2_with fail
      refine (wload_x X hs t I.cb _ _ HH.out.cw (fun z=>(HH.out.own _ z).2.2.2.1 rfl) HA.out).mono ?_
      rintro e w1 ⟨rfl,k1,z1,a1⟩
      have H1:=Lib.hid (And.intro k1 (And.intro z1 a1))
      clear k1 z1 a1 b2
      go_wp2
      go_ret2
      exact ⟨rfl,HH.out.step H1.out.1,H1.out.1.mono fun _ _ z=>.inr (.inr (.inr z)),H1.out.2.1,H1.out.2.2⟩
  rw [if_neg h3]
  have d3 : decide (4611686018427387904≤S.cur + (m : Int)) = false:=decide_eq_false h3
  obtain ⟨fb,fs,fk,hfr⟩ : ∃ fb fs fk,fr S S.cur m = (fb,fs,fk):=⟨_,_,_,rfl⟩
  obtain ⟨wb,wk,hwr⟩ : ∃ wb wk,wrX S.st I.n I.first m (S.cur + 1 - I.n) = (wb,wk):=⟨_,_,rfl⟩
  rw [hfr,hwr]
  have HE:=Lib.hid (And.intro hfr hwr)
  clear hfr hwr
  dsimp only
  cases fb with
  | false =>
    rw [if_pos rfl]
    go_enter Try.func18,Try.ntmps18
    go_wp2_with (go_at_call 23; refine (multi_sizeM _ _ _ _ _ _ b0 r0).mono ?_; rintro e w' ⟨rfl,hw'⟩; subst hw')
    clear b0 r0
    go_loopw [10] (fun _ wr=>wr = w) (fun _ _=>0)
    case atStart=>trivial
    case round =>
      subst hrel
      have b2 : World.cell? _ ⟨I.mb,2,none⟩ = some (.pointer (some ⟨I.cb,0,none⟩)):=HH.out.mul.cell 2
      go_wp2_with fail
      refine (wload_x X hs t I.cb _ _ HH.out.cw (fun z=>(HH.out.own _ z).2.2.2.1 rfl) HA.out).mono ?_
      rintro e w1 ⟨rfl,k1,z1,a1⟩
      have H1:=Lib.hid (And.intro (HH.out.step k1) (And.intro k1 (And.intro z1 a1)))
      clear k1 z1 a1 b2
      go_wp2_with fail
      have hfl:=HFR.out (t + 1) S w1 H1.out.1 H1.out.2.2.2 m (by omega) (by omega) (by omega)
      rw [HE.out.1] at hfl
      refine hfl.mono ?_
      clear hfl
      rintro e w2 ⟨rfl,m2,k2,z2,a2⟩
      dsimp only at m2 a2
      have H2:=Lib.hid (And.intro m2 (And.intro k2 (And.intro z2 a2)))
      clear m2 k2 z2 a2
      have kk2 : Kept (OutM I X.own) _ w2:=(H1.out.2.1.mono fun _ _ z=>.inr (.inr (.inr z))).trans (H2.out.2.1.mono fun _ _ z=>z.elim (fun e=>.inr (.inl e)) fun z=>.inr (.inr (.inr z)))
      have HK2:=Lib.hid kk2
      clear kk2
      dsimp only
      go_wp2
      go_ret2
      exact ⟨rfl,H2.out.1,HK2.out,H2.out.2.2.1.trans H1.out.2.2.1,by have:=H2.out.2.2.2; rwa [Nat.add_assoc] at this⟩
  | true =>
  rw [if_neg (by decide)]
  cases wb with
  | false =>
    rw [if_pos rfl]
    go_enter Try.func18,Try.ntmps18
    go_wp2_with (go_at_call 23; refine (multi_sizeM _ _ _ _ _ _ b0 r0).mono ?_; rintro e w' ⟨rfl,hw'⟩; subst hw')
    clear b0 r0
    go_loopw [10] (fun _ wr=>wr = w) (fun _ _=>0)
    case atStart=>trivial
    case round =>
      subst hrel
      have b2 : World.cell? _ ⟨I.mb,2,none⟩ = some (.pointer (some ⟨I.cb,0,none⟩)):=HH.out.mul.cell 2
      go_wp2_with fail
      refine (wload_x X hs t I.cb _ _ HH.out.cw (fun z=>(HH.out.own _ z).2.2.2.1 rfl) HA.out).mono ?_
      rintro e w1 ⟨rfl,k1,z1,a1⟩
      have H1:=Lib.hid (And.intro (HH.out.step k1) (And.intro k1 (And.intro z1 a1)))
      clear k1 z1 a1 b2
      go_wp2_with fail
      have hfl:=HFR.out (t + 1) S w1 H1.out.1 H1.out.2.2.2 m (by omega) (by omega) (by omega)
      rw [HE.out.1] at hfl
      refine hfl.mono ?_
      clear hfl
      rintro e w2 ⟨rfl,m2,k2,z2,a2⟩
      dsimp only at m2 a2
      have H2:=Lib.hid (And.intro m2 (And.intro k2 (And.intro z2 a2)))
      clear m2 k2 z2 a2
      have kk2 : Kept (OutM I X.own) _ w2:=(H1.out.2.1.mono fun _ _ z=>.inr (.inr (.inr z))).trans (H2.out.2.1.mono fun _ _ z=>z.elim (fun e=>.inr (.inl e)) fun z=>.inr (.inr (.inr z)))
      have HK2:=Lib.hid kk2
      clear kk2
      dsimp only
      go_wp2_with fail
      have hwl:=written_x X hs2 I (t + 1 + fk) { S with seen:=fs } w2 H2.out.1 H2.out.2.2.2 m hm2 (by show S.cur + _ < _; omega)
      dsimp only at hwl
      rw [HE.out.2] at hwl
      refine hwl.mono ?_
      clear hwl
      rintro e w3 ⟨rfl,k3,z3,a3⟩
      have m3:=H2.out.1.step k3
      have b2 : w3.cell? ⟨I.mb,2,none⟩ = some (.pointer (some ⟨I.cb,0,none⟩)):=m3.mul.cell 2
      have H3:=Lib.hid (And.intro m3 (And.intro k3 (And.intro z3 a3)))
      clear m3 k3 z3 a3
      dsimp only
      go_wp2_with fail
      refine (wload_x X hs _ I.cb S.cur _ H3.out.1.cw (fun z=>(HH.out.own _ z).2.2.2.1 rfl) H3.out.2.2.2).mono ?_
      rintro e w4 ⟨rfl,k4,z4,a4⟩
      have H4:=Lib.hid (And.intro k4 (And.intro z4 a4))
      clear k4 z4 a4 b2
      go_wp2
      go_ret2
      refine ⟨rfl,H3.out.1.step H4.out.1,(HK2.out.trans (H3.out.2.1.mono fun _ _ z=>.inr (.inr (.inr z)))).trans (H4.out.1.mono fun _ _ z=>.inr (.inr (.inr z))),H4.out.2.1.trans (H3.out.2.2.1.trans (H2.out.2.2.1.trans H1.out.2.2.1)),?_⟩
      have:=H4.out.2.2
      rw [show t + (1 + fk + wk + 1) = t + 1 + fk + wk + 1 by omega]
      exact this
  | true =>
    rw [if_neg (by decide)]
    go_enter Try.func18,Try.ntmps18
    go_wp2_with (go_at_call 23; refine (multi_sizeM _ _ _ _ _ _ b0 r0).mono ?_; rintro e w' ⟨rfl,hw'⟩; subst hw')
    clear b0 r0
    go_loopw [10] (fun _ wr=>wr = w) (fun _ _=>0)
    case atStart=>trivial
    case round =>
      subst hrel
      have b2 : World.cell? _ ⟨I.mb,2,none⟩ = some (.pointer (some ⟨I.cb,0,none⟩)):=HH.out.mul.cell 2
      go_wp2_with fail
      refine (wload_x X hs t I.cb _ _ HH.out.cw (fun z=>(HH.out.own _ z).2.2.2.1 rfl) HA.out).mono ?_
      rintro e w1 ⟨rfl,k1,z1,a1⟩
      have H1:=Lib.hid (And.intro (HH.out.step k1) (And.intro k1 (And.intro z1 a1)))
      clear k1 z1 a1 b2
      go_wp2_with fail
      have hfl:=HFR.out (t + 1) S w1 H1.out.1 H1.out.2.2.2 m (by omega) (by omega) (by omega)
      rw [HE.out.1] at hfl
      refine hfl.mono ?_
      clear hfl
      rintro e w2 ⟨rfl,m2,k2,z2,a2⟩
      dsimp only at m2 a2
      have H2:=Lib.hid (And.intro m2 (And.intro k2 (And.intro z2 a2)))
      clear m2 k2 z2 a2
      have kk2 : Kept (OutM I X.own) _ w2:=(H1.out.2.1.mono fun _ _ z=>.inr (.inr (.inr z))).trans (H2.out.2.1.mono fun _ _ z=>z.elim (fun e=>.inr (.inl e)) fun z=>.inr (.inr (.inr z)))
      have HK2:=Lib.hid kk2
      clear kk2
      dsimp only
      go_wp2_with fail
      have hwl:=written_x X hs2 I (t + 1 + fk) { S with seen:=fs } w2 H2.out.1 H2.out.2.2.2 m hm2 (by show S.cur + _ < _; omega)
      dsimp only at hwl
      rw [HE.out.2] at hwl
      refine hwl.mono ?_
      clear hwl
      rintro e w3 ⟨rfl,k3,z3,a3⟩
      have m3:=H2.out.1.step k3
      have b2 : w3.cell? ⟨I.mb,2,none⟩ = some (.pointer (some ⟨I.cb,0,none⟩)):=m3.mul.cell 2
      have H3:=Lib.hid (And.intro m3 (And.intro k3 (And.intro z3 a3)))
      clear m3 k3 z3 a3
      dsimp only
      go_wp2_with fail
      refine (wcas_x X hs _ I.cb (S.cur + m) S.cur _ H3.out.1.cw (fun z=>(HH.out.own _ z).2.2.2.1 rfl) H3.out.2.2.2).mono ?_
      rintro e w4 ⟨rfl,s4,k4,z4,a4⟩
      have H4:=Lib.hid (And.intro s4 (And.intro k4 (And.intro z4 a4)))
      clear s4 k4 z4 a4 b2
      go_wp2
      go_ret2
      refine ⟨rfl,(H3.out.1.setCur H4.out.1 H4.out.2.1 (by omega) (by omega)),(HK2.out.trans (H3.out.2.1.mono fun _ _ z=>.inr (.inr (.inr z)))).trans (H4.out.2.1.mono fun _ _ z=>z.elim .inl fun z=>.inr (.inr (.inr z))),H4.out.2.2.1.trans (H3.out.2.2.1.trans (H2.out.2.2.1.trans H1.out.2.2.1)),?_⟩
      have:=H4.out.2.2.2
      rw [show t + (1 + fk + wk + 1) = t + 1 + fk + wk + 1 by omega]
      exact this
def putS (S : MulS) (n : Nat) (q v : Int) : MulS:={ S with st:=upd S.st (q % n).toNat (2 * (q / n)),va:=upd S.va (q % n).toNat v }
def putsS (n : Nat) : MulS→Int→List Int→MulS
  | S,_,[]=>S
  | S,q,v :: vs=>putsS n (putS S n q v) (q + 1) vs
theorem MulX.put {X : Stepper} {I : MIds} {S : MulS} {w w' : World} (h : MulX I S X.own w) {q v : Int} (r : RingAt w' I.rb I.gb I.n (upd S.st (q % I.n).toNat (2 * (q / I.n))) (upd S.va (q % I.n).toNat v)) (k2 : Kept (fun b=>b = I.gb∨X.own b) w w') : MulX I (putS S I.n q v) X.own w':=by
  have no : ∀ b,b≠I.gb→¬ X.own b→¬ (b = I.gb∨X.own b):=fun b h1 h2 z=>z.elim h1 h2
  have o:=h.own
  exact ⟨h.mul.kept k2 (no _ h.d1.1.symm fun z=>(o _ z).1 rfl),r,h.cw.kept k2 (no _ h.d1.2.1.symm fun z=>(o _ z).2.2.2.1 rfl),h.sw.kept k2 (no _ h.d1.2.2.symm fun z=>(o _ z).2.2.2.2 rfl),h.d1,h.d2,h.d3,o,h.f0,h.f1,h.c0,h.c1⟩
set_option maxRecDepth 100000 in
theorem write_x (X : Stepper) (hs2 : X.Steps Try.prog 85) (I : MIds) (t : Nat) (S : MulS) (w : World) (h : MulX I S X.own w) (A : X.at_ t w) (q v : Int) (h0 : 0≤q) (h1 : q < 4611686018427387904) :
    Calls Try.prog 21 #[.pointer (some ⟨I.mb,0,none⟩),X.v,.int .i64 q,.int .i64 v] w fun e w'=>e = .returned (.int .i64 0)∧MulX I (putS S I.n q v) X.own w'∧Kept (fun b=>b = I.gb∨X.own b) w w'∧w'.heap.size = w.heap.size∧X.at_ (t + 3) w':=by
  have b0 : w.cell? ⟨I.mb,0,none⟩ = some (.pointer (some ⟨I.rb,0,none⟩)):=h.mul.cell 0
  have HH:=Lib.hid h
  have HA:=Lib.hid A
  clear h A
  go_enter Try.func21,Try.ntmps21
  go_wp2_with (go_at_call 53; refine (multi_noM _ _ _ b0).mono ?_; rintro e w' ⟨rfl,hw'⟩; subst hw')
  refine (put_x X hs2 t I.rb I.gb I.n S.st S.va q v _ HH.out.ring h0 h1 HA.out (fun z=>(HH.out.own _ z).2.1 rfl) (fun z=>(HH.out.own _ z).2.2.1 rfl)).mono ?_
  rintro e w1 ⟨rfl,r1,k1,z1,a1⟩
  have H1:=Lib.hid (And.intro r1 (And.intro k1 (And.intro z1 a1)))
  clear r1 k1 z1 a1
  go_wp2
  go_ret
  exact ⟨rfl,HH.out.put H1.out.1 H1.out.2.1,H1.out.2.1,H1.out.2.2.1,H1.out.2.2.2⟩
theorem write_badx (X : Stepper) (I : MIds) (S : MulS) (w : World) (h : MulX I S X.own w) (q v : Int) (hq : ¬ InB q) :
    Calls Try.prog 21 #[.pointer (some ⟨I.mb,0,none⟩),X.v,.int .i64 q,.int .i64 v] w fun e w'=>e = .returned (.int .i64 1)∧w = w':=by
  have b0 : w.cell? ⟨I.mb,0,none⟩ = some (.pointer (some ⟨I.rb,0,none⟩)):=h.mul.cell 0
  have hb:=bad_at ⟨I.rb,0,none⟩ _ _ _ q w h.ring.ring hq
  have HH:=Lib.hid hb
  clear h hb
  go_enter Try.func21,Try.ntmps21
  go_wp2_with (first | (go_at_call 53; refine (multi_noM _ _ _ b0).mono ?_; rintro e w' ⟨rfl,hw'⟩; subst hw') | (go_at_call 55; refine (put_bad HH.out X.v v).mono ?_; rintro e w' ⟨rfl,hw'⟩; subst hw'))
  go_ret
  exact ⟨rfl,rfl⟩
set_option maxRecDepth 100000 in
theorem cursor_x (X : Stepper) (hs : X.Steps Try.prog 79) (I : MIds) (t : Nat) (S : MulS) (w : World) (h : MulX I S X.own w) (A : X.at_ t w) :
    Calls Try.prog 30 #[.pointer (some ⟨I.mb,0,none⟩),X.v] w fun e w'=>e = .returned (.int .i64 S.cur)∧Kept X.own w w'∧w'.heap.size = w.heap.size∧X.at_ (t + 1) w':=by
  have b0 : w.cell? ⟨I.mb,0,none⟩ = some (.pointer (some ⟨I.rb,0,none⟩)):=h.mul.cell 0
  have b2 : w.cell? ⟨I.mb,2,none⟩ = some (.pointer (some ⟨I.cb,0,none⟩)):=h.mul.cell 2
  have HH:=Lib.hid h
  have HA:=Lib.hid A
  clear h A
  go_enter Try.func30,Try.ntmps30
  go_wp2_with (go_at_call 53; refine (multi_noM _ _ _ b0).mono ?_; rintro e w' ⟨rfl,hw'⟩; subst hw')
  refine (wload_x X hs t I.cb S.cur _ HH.out.cw (fun z=>(HH.out.own _ z).2.2.2.1 rfl) HA.out).mono ?_
  rintro e w1 ⟨rfl,k1,z1,a1⟩
  have H1:=Lib.hid (And.intro k1 (And.intro z1 a1))
  clear k1 z1 a1
  go_wp2
  go_ret
  exact ⟨rfl,H1.out⟩
def pubX (n : Nat) (S : MulS) (q : Int) : Int × Nat:=
  if q = -9223372036854775808 then (q,0) else if q < 0∨4611686018427387904≤q then (q - 1,0) else if q≤S.cur then ((highR S.st n (highN n q S.cur) q).1,1 + (highR S.st n (highN n q S.cur) q).2) else (q - 1,1)
set_option maxHeartbeats 1000000 in
set_option maxRecDepth 100000 in
theorem pub_x (X : Stepper) (hs : X.Steps Try.prog 79) (hs2 : X.Steps Try.prog 85) (I : MIds) (t : Nat) (S : MulS) (w : World) (h : MulX I S X.own w) (A : X.at_ t w) (q : Int) (h0 : -9223372036854775808≤q) (h1 : q < 9223372036854775808) :
    Calls Try.prog 20 #[.pointer (some ⟨I.mb,0,none⟩),X.v,.int .i64 q] w fun e w'=>e = .returned (.int .i64 (pubX I.n S q).1)∧Kept X.own w w'∧w'.heap.size = w.heap.size∧X.at_ (t + (pubX I.n S q).2) w':=by
  have b0 : w.cell? ⟨I.mb,0,none⟩ = some (.pointer (some ⟨I.rb,0,none⟩)):=h.mul.cell 0
  have hc1:=h.c1
  have HH:=Lib.hid h
  have HA:=Lib.hid A
  clear h A
  unfold pubX
  by_cases e1 : q = -9223372036854775808
  · rw [if_pos e1]
    have d1 : (q == -9223372036854775808) = true:=by simpa using e1
    clear e1
    go_enter Try.func20,Try.ntmps20
    go_wp2_with (go_at_call 53; refine (multi_noM _ _ _ b0).mono ?_; rintro e w' ⟨rfl,hw'⟩; subst hw')
    go_ret
    exact ⟨rfl,Kept.refl _ _,rfl,HA.out⟩
  rw [if_neg e1]
  have d1 : (q == -9223372036854775808) = false:=by simpa using e1
  have hq1 : -9223372036854775808 < q:=by omega
  clear e1
  by_cases e2 : q < 0
  · rw [if_pos (.inl e2)]
    have d2 : decide (q < 0) = true:=decide_eq_true e2
    go_enter Try.func20,Try.ntmps20
    go_wp2_with (go_at_call 53; refine (multi_noM _ _ _ b0).mono ?_; rintro e w' ⟨rfl,hw'⟩; subst hw')
    go_ret
    exact ⟨rfl,Kept.refl _ _,rfl,HA.out⟩
  have d2 : decide (q < 0) = false:=decide_eq_false e2
  by_cases e3 : 4611686018427387904≤q
  · rw [if_pos (.inr e3)]
    have d3 : decide (4611686018427387904≤q) = true:=decide_eq_true e3
    go_enter Try.func20,Try.ntmps20
    go_wp2_with (go_at_call 53; refine (multi_noM _ _ _ b0).mono ?_; rintro e w' ⟨rfl,hw'⟩; subst hw')
    go_ret
    exact ⟨rfl,Kept.refl _ _,rfl,HA.out⟩
  have d3 : decide (4611686018427387904≤q) = false:=decide_eq_false e3
  rw [if_neg (by omega)]
  have b2 : w.cell? ⟨I.mb,2,none⟩ = some (.pointer (some ⟨I.cb,0,none⟩)):=HH.out.mul.cell 2
  have hS:=And.intro b0 b2
  have key : ∀ w',MulX I S X.own w'→w'.cell? ⟨I.mb,0,none⟩ = some (.pointer (some ⟨I.rb,0,none⟩))∧w'.cell? ⟨I.mb,2,none⟩ = some (.pointer (some ⟨I.cb,0,none⟩)):=fun w' h=>⟨h.mul.cell 0,h.mul.cell 2⟩
  have HKEY:=Lib.hid key
  clear b2 key
  go_enter Try.func20,Try.ntmps20
  go_wp2_with (go_at_call 53; refine (multi_noM _ _ _ b0).mono ?_; rintro e w' ⟨rfl,hw'⟩; subst hw')
  rename_i K0 hK0
  clear b0
  refine strictL ?_
  refine wp_region_held (S:=fun w'=>w'.cell? ⟨I.mb,0,none⟩ = some (.pointer (some ⟨I.rb,0,none⟩))∧w'.cell? ⟨I.mb,2,none⟩ = some (.pointer (some ⟨I.cb,0,none⟩))) (by kernel_rfl) ?_
  simp only [List.size_toArray,List.length_cons,List.length_nil,Nat.reduceAdd]
  have HWD:=Lib.hid (show ({ w with drawn:=w.drawn + 1 } : World) = w.drewN 1 from rfl)
  have m0 : MulX I S X.own ({ w with drawn:=w.drawn + 1 } : World):=HH.out.kept (Kept.drewN (fun _=>False) w 1) id id id id id
  have A0 : X.at_ t ({ w with drawn:=w.drawn + 1 } : World):=X.keep HA.out (Kept.drewN (fun _=>False) w 1) fun _ _ h=>h
  have K0' : Kept X.own w ({ w with drawn:=w.drawn + 1 } : World):=Kept.drewN _ w 1
  have z0 : ({ w with drawn:=w.drawn + 1 } : World).heap.size = w.heap.size:=rfl
  have hS0:=HKEY.out _ m0
  clear HWD hS
  generalize ({ w with drawn:=w.drawn + 1 } : World) = wd at m0 A0 K0' z0 hS0 ⊢
  have HS:=Lib.hid hS0
  have H0:=Lib.hid (And.intro m0 (And.intro K0' (And.intro z0 A0)))
  clear m0 K0' z0 A0 hS0
  refine rdL 0 13 24 ?_
  refine ⟨_,rfl,rfl,by kernel_rfl,by kernel_rfl,by kernel_rfl,(fun c a w h=>by cases h.1),rfl,HS.out,?_⟩
  apply Exists.intro
  refine ⟨fun wq hw=>?_,?_⟩
  · obtain ⟨hw1,hw2⟩:=hw
    go_simp
    rfl
  simp only [Act.put,List.setIfInBounds_toArray,List.set_cons_zero,List.set_cons_succ]
  refine rdL 1 12 25 ?_
  refine ⟨_,rfl,rfl,by kernel_rfl,by kernel_rfl,by kernel_rfl,(fun c a w h=>by cases h.1),rfl,HS.out,?_⟩
  apply Exists.intro
  refine ⟨fun wq hw=>?_,?_⟩
  · obtain ⟨hw1,hw2⟩:=hw
    go_simp
    rfl
  simp only [Act.put,List.setIfInBounds_toArray,List.set_cons_zero,List.set_cons_succ]
  refine rdL 2 11 26 ?_
  refine ⟨_,rfl,rfl,by kernel_rfl,by kernel_rfl,by kernel_rfl,(fun c a w h=>by cases h.1),rfl,HS.out,?_⟩
  apply Exists.intro
  refine ⟨fun wq hw=>?_,?_⟩
  · obtain ⟨hw1,hw2⟩:=hw
    go_simp
    rfl
  simp only [Act.put,List.setIfInBounds_toArray,List.set_cons_zero,List.set_cons_succ]
  refine rdL 3 10 27 ?_
  refine ⟨_,rfl,rfl,by kernel_rfl,by kernel_rfl,by kernel_rfl,(fun c a w h=>by cases h.1),rfl,HS.out,?_⟩
  apply Exists.intro
  refine ⟨fun wq hw=>?_,?_⟩
  · obtain ⟨hw1,hw2⟩:=hw
    go_simp
    rfl
  simp only [Act.put,List.setIfInBounds_toArray,List.set_cons_zero,List.set_cons_succ]
  refine rdL 4 9 28 ?_
  refine ⟨_,rfl,rfl,by kernel_rfl,by kernel_rfl,by kernel_rfl,(fun c a w h=>by cases h.1),rfl,HS.out,?_⟩
  apply Exists.intro
  refine ⟨fun wq hw=>?_,?_⟩
  · obtain ⟨hw1,hw2⟩:=hw
    go_simp
    rfl
  simp only [Act.put,List.setIfInBounds_toArray,List.set_cons_zero,List.set_cons_succ]
  refine rdL 5 8 29 ?_
  refine ⟨_,rfl,rfl,by kernel_rfl,by kernel_rfl,by kernel_rfl,(fun c a w h=>by cases h.1),rfl,HS.out,?_⟩
  apply Exists.intro
  refine ⟨fun wq hw=>?_,?_⟩
  · obtain ⟨hw1,hw2⟩:=hw
    go_simp
    rfl
  simp only [Act.put,List.setIfInBounds_toArray,List.set_cons_zero,List.set_cons_succ]
  refine rdL 6 7 30 ?_
  refine ⟨_,rfl,rfl,by kernel_rfl,by kernel_rfl,by kernel_rfl,(fun c a w h=>by cases h.1),rfl,HS.out,?_⟩
  apply Exists.intro
  refine ⟨fun wq hw=>?_,?_⟩
  · obtain ⟨hw1,hw2⟩:=hw
    go_simp
    rfl
  simp only [Act.put,List.setIfInBounds_toArray,List.set_cons_zero,List.set_cons_succ]
  refine rdL 7 6 31 ?_
  refine ⟨_,rfl,rfl,by kernel_rfl,by kernel_rfl,by kernel_rfl,(fun c a w h=>by cases h.1),rfl,HS.out,?_⟩
  apply Exists.intro
  refine ⟨fun wq hw=>?_,?_⟩
  · obtain ⟨hw1,hw2⟩:=hw
    go_simp
    rfl
  simp only [Act.put,List.setIfInBounds_toArray,List.set_cons_zero,List.set_cons_succ]
  refine rdL 8 5 32 ?_
  refine ⟨_,rfl,rfl,by kernel_rfl,by kernel_rfl,by kernel_rfl,(fun c a w h=>by cases h.1),rfl,HS.out,?_⟩
  apply Exists.intro
  refine ⟨fun wq hw=>?_,?_⟩
  · obtain ⟨hw1,hw2⟩:=hw
    go_simp
    rfl
  simp only [Act.put,List.setIfInBounds_toArray,List.set_cons_zero,List.set_cons_succ]
  refine rdL 9 4 33 ?_
  refine ⟨_,rfl,rfl,by kernel_rfl,by kernel_rfl,by kernel_rfl,(fun c a w h=>by cases h.1),rfl,HS.out,?_⟩
  apply Exists.intro
  refine ⟨fun wq hw=>?_,?_⟩
  · obtain ⟨hw1,hw2⟩:=hw
    go_simp
    rfl
  simp only [Act.put,List.setIfInBounds_toArray,List.set_cons_zero,List.set_cons_succ]
  refine rdL 10 3 34 ?_
  refine ⟨_,rfl,rfl,by kernel_rfl,by kernel_rfl,by kernel_rfl,(fun c a w h=>by cases h.1),rfl,HS.out,?_⟩
  apply Exists.intro
  refine ⟨fun wq hw=>?_,?_⟩
  · obtain ⟨hw1,hw2⟩:=hw
    go_simp
    rfl
  simp only [Act.put,List.setIfInBounds_toArray,List.set_cons_zero,List.set_cons_succ]
  refine oneL (i:=11) (fuel:=2) (by kernel_rfl) rfl rfl fun K' hK'=>?_
  unfold Oper.wp
  go_simp
  refine (wload_x X hs t I.cb S.cur _ H0.out.1.cw (fun z=>(HH.out.own _ z).2.2.2.1 rfl) H0.out.2.2.2).mono ?_
  rintro e w1 ⟨rfl,k1,z1,a1⟩
  dsimp only
  have m1:=H0.out.1.step k1
  refine hK' _ _ (HKEY.out _ m1) ?_
  clear hK' K' HS
  have H1:=Lib.hid (And.intro m1 (And.intro (H0.out.2.1.trans k1) (And.intro (z1.trans H0.out.2.2.1) a1)))
  clear m1 k1 z1 a1 H0
  try simp only [Act.put,List.setIfInBounds_toArray,List.set_cons_zero,List.set_cons_succ]
  refine oneL (i:=12) (fuel:=1) (by kernel_rfl) rfl rfl fun K' hK'=>?_
  unfold Oper.wp
  go_simp
  by_cases hle : q≤S.cur
  · refine (highest_x X hs2 (t + 1) I.rb I.gb I.n S.st S.va q S.cur _ H1.out.1.ring (by omega) (by omega) hle (by omega) H1.out.2.2.2 (fun z=>(HH.out.own _ z).2.1 rfl) (fun z=>(HH.out.own _ z).2.2.1 rfl)).mono ?_
    rintro e w2 ⟨rfl,k2,z2,a2⟩
    dsimp only
    have m2:=H1.out.1.step k2
    refine hK' _ _ (HKEY.out _ m2) ?_
    clear hK' K'
    have H2:=Lib.hid (And.intro m2 (And.intro (H1.out.2.1.trans k2) (And.intro (z2.trans H1.out.2.2.1) a2)))
    clear m2 k2 z2 a2 H1
    try simp only [Act.put,List.setIfInBounds_toArray,List.set_cons_zero,List.set_cons_succ]
    refine oneL (i:=13) (fuel:=0) (by kernel_rfl) rfl rfl fun K' hK'=>?_
    unfold Oper.wp
    go_simp
    refine hK' _ _ (HKEY.out _ H2.out.1) ?_
    clear hK' K'
    refine wpAnyH_done (by kernel_rfl) ⟨rfl,?_⟩ _
    refine hK0 _ _ ?_
    clear hK0 K0
    go_wp2
    go_ret
    exact ⟨rfl,H2.out.2.1,H2.out.2.2.1,by have:=H2.out.2.2.2; rwa [Nat.add_assoc] at this⟩
  · refine (highest_less ⟨I.rb,0,none⟩ _ I.n I.n X.v q S.cur _ H1.out.1.ring.ring H1.out.1.ring.pos (by omega) (by omega) (by omega)).mono ?_
    rintro e w2 ⟨rfl,rfl⟩
    dsimp only
    rw [show pre64 q = q - 1 from if_neg (by omega)]
    refine hK' _ _ (HKEY.out _ H1.out.1) ?_
    clear hK' K'
    try simp only [Act.put,List.setIfInBounds_toArray,List.set_cons_zero,List.set_cons_succ]
    refine oneL (i:=13) (fuel:=0) (by kernel_rfl) rfl rfl fun K' hK'=>?_
    unfold Oper.wp
    go_simp
    refine hK' _ _ (HKEY.out _ H1.out.1) ?_
    clear hK' K'
    refine wpAnyH_done (by kernel_rfl) ⟨rfl,?_⟩ _
    refine hK0 _ _ ?_
    clear hK0 K0
    go_wp2
    go_ret
    exact ⟨rfl,H1.out.2.1,H1.out.2.2.1,H1.out.2.2.2⟩
def offerX (fr : FrX) (N : Nat) (fs : Int) (S : MulS) (vs : List Int) : Int × Int × MulS × Nat:=
  if (claimX fr N fs S vs.length).2.1 = 0 then ((claimX fr N fs S vs.length).1,0,putsS N (claimX fr N fs S vs.length).2.2.1 ((claimX fr N fs S vs.length).1 - vs.length + 1) vs,(claimX fr N fs S vs.length).2.2.2 + 3 * vs.length)
  else (0,(claimX fr N fs S vs.length).2.1,(claimX fr N fs S vs.length).2.2)
theorem claimX_ok {fr : FrX} {N : Nat} {fs : Int} {S : MulS} {m : Int} (h : (claimX fr N fs S m).2.1 = 0) : 1≤m∧m≤N∧S.cur + m < 4611686018427387904∧(claimX fr N fs S m).1 = S.cur + m:=by
  unfold claimX at h ⊢
  by_cases h1 : m < 1∨(N : Int) < m
  · rw [if_pos h1] at h; exact absurd h (show ¬ ((1 : Int) = 0) by decide)
  rw [if_neg h1] at h ⊢
  by_cases h2 : 4611686018427387904≤S.cur + m
  · rw [if_pos h2] at h; exact absurd h (show ¬ ((8 : Int) = 0) by decide)
  rw [if_neg h2] at h ⊢
  by_cases h3 : (fr S S.cur m).1 = false
  · rw [if_pos h3] at h; exact absurd h (show ¬ ((3 : Int) = 0) by decide)
  rw [if_neg h3] at h ⊢
  by_cases h4 : (wrX S.st N fs m.toNat (S.cur + 1 - N)).1 = false
  · rw [if_pos h4] at h; exact absurd h (show ¬ ((3 : Int) = 0) by decide)
  rw [if_neg h4]
  exact ⟨by omega,by omega,by omega,rfl⟩
structure RdX (I : MIds) (O : Nat→Prop) (w : World) (A : Option Addr) (vs : List Int) : Prop where
  cell : ∀ i,i < vs.length→∃ b o,A = some ⟨b,o,none⟩∧¬ OutM I O b∧w.cell? ⟨b,o + i,none⟩ = some (.int .i64 (vs.getD i 0))
theorem RdX.kept {I : MIds} {O : Nat→Prop} {w w' : World} {A : Option Addr} {vs : List Int} (h : RdX I O w A vs) (k : Kept (OutM I O) w w') : RdX I O w' A vs:=
  ⟨fun i hi=>by
    obtain ⟨b,o,h1,h2,h3⟩:=h.cell i hi
    exact ⟨b,o,h1,h2,(World.cell?_of_block (w:=w) (a:=⟨b,o + i,none⟩) (k.block b (lt_of_cell h3) h2)).trans h3⟩⟩
set_option maxHeartbeats 2000000 in
set_option maxRecDepth 100000 in
theorem offer_x (X : Stepper) (hs : X.Steps Try.prog 79) (hs2 : X.Steps Try.prog 85) (I : MIds) {hval : Value} {fr : FrX} (hF : FreeX X I hval fr) (t : Nat) (S : MulS) (w : World) (h : MulX I S X.own w) (A : X.at_ t w) (vA : Option Addr) (vc : Nat) (vs : List Int) (hv : RdX I X.own w vA vs) (hvl : vs.length≤maxLen) :
    Calls Try.prog 19 #[.pointer (some ⟨I.mb,0,none⟩),X.v,hval,.slice vA vs.length vc] w fun e w'=>e = .returned (.tuple #[.int .i64 (offerX fr I.n I.first S vs).1,.int .i64 (offerX fr I.n I.first S vs).2.1])∧MulX I (offerX fr I.n I.first S vs).2.2.1 X.own w'∧Kept (OutM I X.own) w w'∧w'.heap.size = w.heap.size∧X.at_ (t + (offerX fr I.n I.first S vs).2.2.2) w':=by
  have hc0:=h.c0
  have hmo:=h.ring.most
  have hcl:=claim_x X hs hs2 I hF t S w h A vs.length
  have HV:=Lib.hid hv
  have HCL:=Lib.hid hcl
  have HOK:=Lib.hid (claimX_ok (fr:=fr) (N:=I.n) (fs:=I.first) (S:=S) (m:=vs.length))
  clear h A hv hcl
  unfold offerX
  unfold maxLen at hvl
  obtain ⟨x,e,S',k,hr⟩ : ∃ x e S' k,claimX fr I.n I.first S vs.length = (x,e,S',k):=⟨_,_,_,_,rfl⟩
  have hcl:=HCL.out
  have hok:=HOK.out
  rw [hr] at hcl hok ⊢
  dsimp only at hcl hok ⊢
  have HCL:=Lib.hid hcl
  have HOK:=Lib.hid hok
  clear hcl hok hr
  obtain ⟨n,hn⟩ : ∃ n,n = vs.length:=⟨_,rfl⟩
  have HN:=Lib.hid hn
  rw [← hn] at hvl HCL HOK ⊢
  clear hn
  by_cases he : e = 0
  · subst he
    rw [if_pos rfl]
    obtain ⟨hx0,hx1⟩ : (0 : Int)≤x - n + 1∧x < 4611686018427387904:=by obtain ⟨o1,o2,o3,o4⟩:=HOK.out rfl; omega
    have hn16 : n≤65536:=by obtain ⟨o1,o2,o3,o4⟩:=HOK.out rfl; omega
    clear HOK hvl
    go_enter Try.func19,Try.ntmps19
    go_wp2_with fail
    refine HCL.out.mono ?_
    rintro e w1 ⟨rfl,m1,k1,z1,a1⟩
    have H1:=Lib.hid (And.intro m1 (And.intro k1 (And.intro z1 a1)))
    clear m1 k1 z1 a1
    go_wp2
    go_loopw [30] (fun i wr=>∃ j : Nat,j≤n∧i = .int .i64 j∧∃ T,MulX I T X.own wr∧putsS I.n T (x - n + 1 + j) (vs.drop j) = putsS I.n S' (x - n + 1) vs∧Kept (OutM I X.own) w wr∧wr.heap.size = w.heap.size∧X.at_ (t + (k + 3 * j)) wr) (fun i _=>n - (intOf i).toNat)
    case atStart=>exact ⟨0,Nat.zero_le _,rfl,S',H1.out.1,by simp,H1.out.2.1,H1.out.2.2.1,H1.out.2.2.2⟩
    case round =>
      obtain ⟨j,hj,rfl,T,mT,eT,kT,zT,aT⟩:=hrel
      have HT:=Lib.hid (And.intro mT (And.intro eT (And.intro kT (And.intro zT aT))))
      have HRD:=Lib.hid (HV.out.kept kT)
      clear mT eT kT zT aT
      by_cases hlt : j < n
      · obtain ⟨g,o,rfl,hno,hc⟩:=HRD.out.cell j (by have:=HN.out; omega)
        have hjl : j < vs.length:=by have:=HN.out; omega
        have hdr:=List.drop_eq_getElem_cons hjl
        obtain ⟨v,hv⟩ : ∃ v,v = vs.getD j 0:=⟨_,rfl⟩
        rw [← hv] at hc
        have HW:=Lib.hid (And.intro hv hdr)
        clear hv hdr hno
        go_wp2_with fail
        refine (write_x X hs2 I _ T _ HT.out.1 HT.out.2.2.2.2 (x - n + 1 + j) v (by omega) (by omega)).mono ?_
        rintro e w2 ⟨rfl,m2,k2,z2,a2⟩
        have H2:=Lib.hid (And.intro m2 (And.intro k2 (And.intro z2 a2)))
        clear m2 k2 z2 a2 hc
        go_wp2
        go_roundw
        case rel =>
          obtain ⟨mT,eT,kT,zT,aT⟩:=HT.out
          obtain ⟨m2,k2,z2,a2⟩:=H2.out
          obtain ⟨hv,hdr⟩:=HW.out
          refine ⟨j + 1,by omega,by go_num,_,m2,?_,kT.trans (k2.mono fun _ _ z=>z.elim (fun e=>.inr (.inr (.inl e))) fun z=>.inr (.inr (.inr z))),z2.trans zT,by rw [show t + (k + 3 * (j + 1)) = t + (k + 3 * j) + 3 by omega]; exact a2⟩
          rw [← eT,hdr,show vs[j] = v by rw [hv,List.getD_eq_getElem?_getD,List.getElem?_eq_getElem hjl]; rfl]
          show _ = putsS I.n (putS T I.n (x - n + 1 + j) v) (x - n + 1 + j + 1) (vs.drop (j + 1))
          congr 1
          omega
        case measure=>simp [intOf]; omega
      · obtain rfl : j = n:=by omega
        go_wp2
        go_ret2
        obtain ⟨mT,eT,kT,zT,aT⟩:=HT.out
        rw [List.drop_eq_nil_of_le (by have:=HN.out; omega)] at eT
        have eT : T = putsS I.n S' (x - j + 1) vs:=eT
        rw [← eT]
        exact ⟨rfl,mT,kT,zT,aT⟩
  · rw [if_neg he]
    have hd : (e == 0) = false:=by simpa using he
    have hd2 : (e != 0) = true:=by simpa using he
    clear he HOK
    go_enter Try.func19,Try.ntmps19
    go_wp2_with fail
    refine HCL.out.mono ?_
    rintro e' w1 ⟨rfl,m1,k1,z1,a1⟩
    have H1:=Lib.hid (And.intro m1 (And.intro k1 (And.intro z1 a1)))
    clear m1 k1 z1 a1
    go_wp2
    go_ret2
    exact ⟨rfl,H1.out⟩
end Go.Proofs.Ytoepekcheapgmaa
namespace Go.Proofs.Ytoepekcheapgmaa
open Go.RowKit
structure Row where
  e : TypeId
  sz : Nat
  v : Value
  n : Nat
  f : Nat→Value
def cellsN (m : Nat) (f : Nat→Value) : List Value:=(List.range m).map f
theorem cellsN_get {m j : Nat} {f : Nat→Value} (h : j < m) : (cellsN m f)[j]? = some (f j):=by simp [cellsN,h]
theorem cellsN_len (m : Nat) (f : Nat→Value) : (cellsN m f).length = m:=by simp [cellsN]
theorem cellsN_congr {m : Nat} {f g : Nat→Value} (h : ∀ k,k < m→f k = g k) : cellsN m f = cellsN m g:=List.map_congr_left fun k hk=>h k (List.mem_range.1 hk)
theorem cellsN_set {m j : Nat} {f : Nat→Value} {u : Value} : (cellsN m f).set j u = cellsN m (fun k=>if k = j then u else f k):=by
  apply List.ext_getElem?
  intro k
  simp only [List.getElem?_set,cellsN_len]
  by_cases hk : k < m
  · rw [cellsN_get hk,cellsN_get hk]
    by_cases e : j = k
    · subst e; simp [hk]
    · simp [e,Ne.symm e]
  · rw [List.getElem?_eq_none (by rw [cellsN_len]; omega),List.getElem?_eq_none (by rw [cellsN_len]; omega)]
    by_cases e : j = k
    · subst e; simp [hk]
    · simp [e]
theorem cellsN_app {m k : Nat} {f g : Nat→Value} : cellsN m f ++ cellsN k g = cellsN (m + k) (fun j=>if j < m then f j else g (j - m)):=by
  apply List.ext_getElem?
  intro j
  simp only [List.getElem?_append,cellsN_len]
  by_cases hj : j < m
  · simp only [hj,if_true,cellsN_get hj,cellsN_get (show j < m + k by omega)]
  · simp only [hj,if_false]
    by_cases hk : j - m < k
    · rw [cellsN_get hk,cellsN_get (show j < m + k by omega)]; simp [hj]
    · rw [List.getElem?_eq_none (by rw [cellsN_len]; omega),List.getElem?_eq_none (by rw [cellsN_len]; omega)]
def Row.At (d : Row) (B : Nat) (w : World) : Prop:=w.ownsRow B d.e d.sz d.v d.n (cellsN (d.n * d.sz) d.f)
theorem Row.At.same {d : Row} {B : Nat} {w w' : World} (h : d.At B w) (hs : ∀ b,d.v.ownBlock = some b→w'.heap[b]? = w.heap[b]?) : d.At B w':=by
  obtain ⟨h1,h2⟩:=h
  refine ⟨h1,?_⟩
  rcases h2 with h2 | ⟨g,cap,cur,e,hg,hh,r⟩
  · exact .inl h2
  · exact .inr ⟨g,cap,cur,e,hg,(hs g (by rw [e]; rfl)).trans hh,r⟩
def Row.nil (e : TypeId) (sz : Nat) (f : Nat→Value) : Row:=⟨e,sz,.slice none 0 0,0,f⟩
structure Mems {ρ : Type} (B : Nat) (R : ρ→Option Row) (w : World) : Prop where
  ex : ∃ lab : Nat→Option ρ,∀ r d,R r = some d→d.At B w∧∀ b,d.v.ownBlock = some b→lab b = some r
section
variable {ρ : Type} [DecidableEq ρ] {B : Nat} {R R' : ρ→Option Row} {w w' : World}
theorem Mems.at_ (h : Mems B R w) {r : ρ} {d : Row} (hr : R r = some d) : d.At B w:=by
  obtain ⟨lab,h⟩:=h.ex
  exact (h r d hr).1
theorem Mems.cell (h : Mems B R w) {r : ρ} {e : TypeId} {sz g cap n : Nat} {f : Nat→Value} (hr : R r = some ⟨e,sz,.slice (some ⟨g,0,none⟩) n cap,n,f⟩) {j : Nat} (hj : j < n * sz) : w.cell? ⟨g,j,none⟩ = some (f j):=by
  have:=(h.at_ hr).cellAt (g:=g) j hj
  rw [this]
  exact cellsN_get hj
theorem Mems.frozen (h : Mems B R w) {r : ρ} {e : TypeId} {sz g cap n : Nat} {f : Nat→Value} (hr : R r = some ⟨e,sz,.slice (some ⟨g,0,none⟩) n cap,n,f⟩) (j : Nat) : w.frozen? ⟨g,j,none⟩ = false:=World.ownsRow.frozenAt (h.at_ hr) j
theorem Mems.lt (h : Mems B R w) {r : ρ} {d : Row} (hr : R r = some d) {b : Nat} (hb : d.v.ownBlock = some b) : B≤b∧b < w.heap.size:=World.ownsRow.lt (h.at_ hr) b hb
theorem Mems.same (h : Mems B R w) (hs : ∀ b,b < w.heap.size→w'.heap[b]? = w.heap[b]?) : Mems B R w':=by
  obtain ⟨lab,k⟩:=h.ex
  exact ⟨lab,fun r d hr=>⟨(k r d hr).1.same fun b hb=>hs b (h.lt hr hb).2,(k r d hr).2⟩⟩
theorem Mems.drewN (h : Mems B R w) (n : Nat) : Mems B R (w.drewN n):=h.same fun _ _=>rfl
theorem Mems.alloc (h : Mems B R w) (o : Obj) : Mems B R (w.alloc o):=h.same fun b hb=>Below.heap_alloc _ _ _ hb
theorem Mems.mono (h : Mems B R w) (hm : ∀ r d,R' r = some d→R r = some d) : Mems B R' w:=by
  obtain ⟨lab,k⟩:=h.ex
  exact ⟨lab,fun r d hr=>k r d (hm r d hr)⟩
theorem Mems.dropped (h : Mems B R w) (hm : ∀ r d,R' r = some d→R r = some d∨(d.v = .slice none 0 0∧d.n = 0)) : Mems B R' w:=by
  obtain ⟨lab,k⟩:=h.ex
  refine ⟨lab,fun r d hr=>?_⟩
  rcases hm r d hr with h1 | ⟨h1,h2⟩
  · exact k r d h1
  · refine ⟨⟨by simp [h2,cellsN],.inl ⟨h1,h2⟩⟩,fun b hb=>by rw [h1] at hb; cases hb⟩
theorem Mems.set (h : Mems B R w) {r : ρ} {e : TypeId} {sz g cap n : Nat} {f f' : Nat→Value} (hr : R r = some ⟨e,sz,.slice (some ⟨g,0,none⟩) n cap,n,f⟩) (j : Nat) (u : Value)
    (hr' : R' r = some ⟨e,sz,.slice (some ⟨g,0,none⟩) n cap,n,f'⟩) (hf : ∀ k,k < n * sz→f' k = if k = j then u else f k) (ho : ∀ r',r'≠r→R' r' = R r') : Mems B R' (w.setCell ⟨g,j,none⟩ u):=by
  obtain ⟨lab,k⟩:=h.ex
  refine ⟨lab,fun r1 d hd=>?_⟩
  by_cases e1 : r1 = r
  · subst e1
    rw [hr'] at hd
    cases hd
    refine ⟨?_,(k r1 _ hr).2⟩
    have:=(World.ownsRow.stored (k r1 _ hr).1 j u).1
    rw [cellsN_set] at this
    unfold Row.At
    rw [cellsN_congr hf]
    exact this
  · rw [ho r1 e1] at hd
    obtain ⟨k1,k2⟩:=k r1 d hd
    refine ⟨k1.same fun b hb=>Below.heap_setCell _ _ _ _ fun z=>?_,k2⟩
    have l1:=k2 b hb
    have l2:=(k r _ hr).2 g rfl
    rw [show b = g from z,l2] at l1
    cases l1
    exact e1 rfl
theorem Mems.app (h : Mems B R w) {r : ρ} {d d' : Row} (hr : R r = some d) (hr' : R' r = some d') (ho : ∀ r',r'≠r→R' r' = R r')
    (hg : w.grownBy w' d.v.ownBlock) (hn : d'.At B w') (hv : d'.v.ownBlock = d.v.ownBlock∨d'.v.ownBlock = some w.heap.size) : Mems B R' w':=by
  obtain ⟨lab,k⟩:=h.ex
  refine ⟨fun b=>if d'.v.ownBlock = some b then some r else lab b,fun r1 d1 hd=>?_⟩
  by_cases e1 : r1 = r
  · subst e1
    rw [hr'] at hd
    cases hd
    exact ⟨hn,fun b hb=>by simp [hb]⟩
  · rw [ho r1 e1] at hd
    obtain ⟨k1,k2⟩:=k r1 d1 hd
    have hne : ∀ b,d1.v.ownBlock = some b→d.v.ownBlock≠some b:=fun b hb z=>by
      have l1:=k2 b hb
      have l2:=(k r _ hr).2 b z
      rw [l2] at l1
      cases l1
      exact e1 rfl
    refine ⟨k1.same fun b hb=>hg.block b (h.lt hd hb).2 fun z=>hne b hb z.symm,fun b hb=>?_⟩
    have : d'.v.ownBlock≠some b:=fun z=>by
      rcases hv with hv | hv
      · exact hne b hb (hv ▸ z)
      · rw [hv] at z
        cases z
        have:=(h.lt hd hb).2
        omega
    simp [this,k2 b hb]
theorem Mems.new (h : Mems B R w) {r : ρ} {d' : Row} (hr' : R' r = some d') (ho : ∀ r',r'≠r→R' r' = R r') (hs : ∀ b,b < w.heap.size→w'.heap[b]? = w.heap[b]?) (hn : d'.At B w') (hv : ∀ b,d'.v.ownBlock = some b→w.heap.size≤b) : Mems B R' w':=by
  obtain ⟨lab,k⟩:=h.ex
  refine ⟨fun b=>if d'.v.ownBlock = some b then some r else lab b,fun r1 d1 hd=>?_⟩
  by_cases e1 : r1 = r
  · subst e1
    rw [hr'] at hd
    cases hd
    exact ⟨hn,fun b hb=>by simp [hb]⟩
  · rw [ho r1 e1] at hd
    obtain ⟨k1,k2⟩:=k r1 d1 hd
    refine ⟨k1.same fun b hb=>hs b (h.lt hd hb).2,fun b hb=>?_⟩
    have : d'.v.ownBlock≠some b:=fun z=>by have:=hv b z; have:=(h.lt hd hb).2; omega
    simp [this,k2 b hb]
end
theorem wp_cut {P : Program} {x y : Code} {Q : Exit→Act→World→Prop} {a : Act} {w : World} (h : ∀ K : Act→World→Prop,Hid (∀ a' w',y.wp P Q a' w'→K a' w')→x.wp P (Exit.then K Q) a w) : (Code.seq x y).wp P Q a w:=
  wp_seq (h _ (Lib.hid fun _ _ h=>h))
end Go.Proofs.Ytoepekcheapgmaa
namespace Go.Proofs.Ytoepekcheapgmaa
open Go.RowKit
theorem same_from_eq {xs ys : List Int} (hl : xs.length = ys.length) (h : ∀ i,i < xs.length→xs.getD i 0 = ys.getD i 0) : xs = ys:=by
  apply List.ext_getElem hl
  intro i h1 h2
  have:=h i h1
  simpa [List.getD_eq_getElem?_getD,h1,h2] using this
theorem same_numbers (a b : Value) (xs ys : List Int) (w : World) (ha : IntsAt w a xs) (hb : IntsAt w b ys) (hx : xs.length≤maxLen) : Calls Try.prog 27 #[a,b] w fun e w'=>e = .returned (.bool (decide (xs = ys)))∧∃ k,w.drewN k = w':=by
  obtain ⟨A,c,rfl,hA⟩:=ha
  obtain ⟨B,d,rfl,hB⟩:=hb
  unfold maxLen at hx
  by_cases hl : xs.length = ys.length
  · have HL:=Lib.hid hl
    have hne : ((xs.length : Int) != (ys.length : Int)) = false:=by simp [hl]
    have HA:=Lib.hid hA
    have HB:=Lib.hid hB
    clear hl hA hB
    go_enter Try.func27,Try.ntmps27
    go_wp2
    go_loopw [5] (fun i wr=>∃ j : Nat,j≤xs.length∧i = .int .i64 j∧(∀ i,i < j→xs.getD i 0 = ys.getD i 0)∧∃ k,w.drewN k = wr) (fun i _=>xs.length - (intOf i).toNat)
    case atStart=>exact ⟨0,Nat.zero_le _,rfl,fun i hi=>absurd hi (by omega),0,rfl⟩
    case round =>
      obtain ⟨j,hj,rfl,hs,k,rfl⟩:=hrel
      have HS:=Lib.hid hs
      clear hs
      by_cases hlt : j < xs.length
      · obtain ⟨b1,o1,rfl,_,e1⟩:=HA.out j hlt
        obtain ⟨b2,o2,rfl,_,e2⟩:=HB.out j (by rw [← HL.out]; exact hlt)
        have hlt' : j < ys.length:=by rw [← HL.out]; exact hlt
        obtain ⟨x,hx'⟩ : ∃ x,x = xs.getD j 0:=⟨_,rfl⟩
        obtain ⟨y,hy'⟩ : ∃ y,y = ys.getD j 0:=⟨_,rfl⟩
        rw [← hx'] at e1
        rw [← hy'] at e2
        have HX:=Lib.hid hx'
        have HY:=Lib.hid hy'
        have b0 : (0 : Int)≤j:=by omega
        have b1' : (j : Int) < xs.length:=by omega
        have b2' : (j : Int) < ys.length:=by omega
        clear hx' hy'
        go_wp2_with fail
        by_cases hxy : x = y
        · subst hxy
          go_quiet (fail)
          go_wp2
          go_roundw
          case rel => 
            refine ⟨j + 1,by omega,by go_num,fun i hi=>?_,_,rfl⟩
            by_cases h : i = j
            · subst h; rw [← HX.out,← HY.out]
            · exact HS.out i (by omega)
          case measure=>simp [intOf]; omega
        · have hne' : (x != y) = true:=by rw [bne_iff_ne]; exact hxy
          go_quiet (fail)
          go_wp2
          go_ret
          refine ⟨?_,_,(World.drewN_drewN ..).symm⟩
          have : ¬ xs = ys:=fun e=>hxy (by rw [HX.out,HY.out,e])
          simp [this]
      · go_wp2
        go_ret
        refine ⟨?_,_,rfl⟩
        have : xs = ys:=same_from_eq HL.out (fun i hi=>HS.out i (by omega))
        simp [this]
  · have hne : ((xs.length : Int) != (ys.length : Int)) = true:=by rw [bne_iff_ne]; omega
    go_enter Try.func27,Try.ntmps27
    go_wp2
    go_ret
    exact ⟨by simp; intro e; exact hl (by rw [e]),0,rfl⟩
end Go.Proofs.Ytoepekcheapgmaa
namespace Go.Proofs.Ytoepekcheapgmaa
open Go.RowKit Go.Turn
structure Pl13 where
  mb : Nat
  wb : Nat
  kb : Nat
  o : Nat
  sz : Nat
  T : TypeId
  sb : Nat
  sc : Nat
  vb : Nat
  vc : Nat
  n : Nat
  fs : Int
structure Who13 where
  gate : Bool
  vI : Value
  mem : List Int
  ver : Int
  vN : Value
  num : List Int
structure Cl13 where
  N : Int
  Ph : Int
  C : Int
  G : Int
  L : Int
  Q : Int
  list : List Int
  I : Nat
  done : Bool
  last : Int
  err : Int
inductive Rn13 where
  | M | S | V | W | I | N | K | L | X (k : Nat)
  deriving DecidableEq
def numsRow (e : TypeId) (v : Value) (xs : List Int) : Row:=⟨e,1,v,xs.length,fun j=>.int .i64 (xs.getD j 0)⟩
def mF (P : Pl13) (s : MulS) : Nat→Value
  | 0=>.int .i64 P.n
  | 1=>.slice (some ⟨P.sb,0,none⟩) P.n P.sc
  | 2=>.slice (some ⟨P.vb,0,none⟩) P.n P.vc
  | 3=>.int .i64 P.fs
  | 4=>.int .i64 s.cur
  | _=>.int .i64 s.seen
def wF (u : Who13) : Nat→Value
  | 0=>.bool u.gate
  | 1=>u.vI
  | 2=>.int .i64 u.ver
  | _=>u.vN
def kF (c : Cl13) (vL : Value) : Nat→Value
  | 0=>.int .i64 c.N
  | 1=>.int .i64 c.Ph
  | 2=>.int .i64 c.C
  | 3=>.int .i64 c.G
  | 4=>.int .i64 c.L
  | 5=>.int .i64 c.Q
  | 6=>vL
  | 7=>.int .i64 c.I
  | 8=>.bool c.done
  | 9=>.int .i64 c.last
  | _=>.int .i64 c.err
def inF (o m : Nat) (g f : Nat→Value) : Nat→Value:=fun j=>if o≤j∧j < o + m then g (j - o) else f j
theorem inF_at {o m i : Nat} {g f : Nat→Value} (h : i < m) : inF o m g f (o + i) = g i:=by
  unfold inF
  rw [if_pos (by omega),Nat.add_sub_cancel_left]
theorem inF_set {o m i : Nat} {g g' f : Nat→Value} {u : Value} (h : i < m) (hg : ∀ j,j < m→g' j = if j = i then u else g j) (j : Nat) : inF o m g' f j = if j = o + i then u else inF o m g f j:=by
  unfold inF
  by_cases h1 : o≤j∧j < o + m
  · rw [if_pos h1,if_pos h1,hg _ (by omega)]
    by_cases h2 : j = o + i
    · rw [if_pos h2,if_pos (by omega)]
    · rw [if_neg h2,if_neg (by omega)]
  · rw [if_neg h1,if_neg h1,if_neg (by omega)]
def mulR (P : Pl13) (s : MulS) (E : Rn13→Option Row) : Rn13→Option Row
  | .M=>some ⟨76,6,.slice (some ⟨P.mb,0,none⟩) 1 1,1,mF P s⟩
  | .S=>some ⟨2,1,.slice (some ⟨P.sb,0,none⟩) P.n P.sc,P.n,fun j=>.int .i64 (s.st j)⟩
  | .V=>some ⟨2,1,.slice (some ⟨P.vb,0,none⟩) P.n P.vc,P.n,fun j=>.int .i64 (s.va j)⟩
  | r=>E r
def whoR (P : Pl13) (u : Who13) (E : Rn13→Option Row) : Rn13→Option Row
  | .W=>some ⟨62,4,.slice (some ⟨P.wb,0,none⟩) 1 1,1,wF u⟩
  | .I=>some (numsRow 3 u.vI u.mem)
  | .N=>some (numsRow 2 u.vN u.num)
  | r=>E r
def clR (P : Pl13) (c : Cl13) (vL : Value) (f : Nat→Value) (X : Nat→Option Row) : Rn13→Option Row
  | .K=>some ⟨P.T,P.sz,.slice (some ⟨P.kb,0,none⟩) 1 1,1,inF P.o 11 (kF c vL) f⟩
  | .L=>some (numsRow 3 vL c.list)
  | .X k=>X k
  | _=>none
structure Pl13.Ok (P : Pl13) (s : MulS) : Prop where
  n0 : 0 < P.n
  n1 : P.n≤65536
  f0 : 0≤P.fs
  f1 : P.fs < 4611686018427387904
  c0 : -1≤s.cur
  c1 : s.cur < 4611686018427387904
def Cl13.wide (n : Nat) (c : Cl13) (known : Int) : Bool:=decide (known < c.C + c.N - n)
def Cl13.seen (n : Nat) (fs : Int) (c : Cl13) : Cl13:={ c with Q:=max (c.C + 1) (fs + n),Ph:=if c.C + c.N < max (c.C + 1) (fs + n) then 8 else 6 }
def Cl13.listed (c : Cl13) (l : List Int) : Cl13:={ c with list:=l,I:=0,L:=c.C,Ph:=if l.length = 0 then 5 else 4 }
def Cl13.refuse (c : Cl13) (e : Int) : Cl13:={ c with done:=true,err:=e }
def Cl13.ph (c : Cl13) (p : Int) : Cl13:={ c with Ph:=p }
def firstC (n : Nat) (fs : Int) (s : MulS) (u : Who13) (c : Cl13) : Cl13:=
  if c.Ph = 1 then (if 4611686018427387904≤s.cur + c.N then ({ c with C:=s.cur,Ph:=2 } : Cl13).refuse 8 else { c with C:=s.cur,Ph:=2 })
  else if c.Ph = 2 then (if c.wide n s.seen = false then ({ c with G:=s.seen } : Cl13).seen n fs else if u.gate then { c with G:=s.seen,Ph:=3 } else ({ c with G:=s.seen } : Cl13).listed u.mem)
  else c.listed u.mem
def stepC (n : Nat) (fs : Int) (s : MulS) (u : Who13) (c : Cl13) : MulS × Cl13:=
  if c.Ph = 1∨c.Ph = 2∨c.Ph = 3 then (s,firstC n fs s u c)
  else if c.Ph = 4 then (s,{ c with L:=min c.L (u.num.getD (c.list.getD c.I 0).toNat 0),I:=c.I + 1,Ph:=if c.I + 1 = c.list.length then 5 else 4 })
  else if c.Ph = 5 then ({ s with seen:=c.L },if c.wide n c.L then c.refuse 3 else c.seen n fs)
  else if c.Ph = 6 then (s,if s.st ((c.Q - n) % n).toNat = 2 * ((c.Q - n) / n) then { c with Q:=c.Q + 1,Ph:=if c.C + c.N < c.Q + 1 then 8 else 6 } else c.ph 7)
  else if c.Ph = 7 then (s,if s.cur = c.C then (c.ph 1).refuse 3 else c.ph 1)
  else if s.cur = c.C then ({ s with cur:=c.C + c.N },{ c with Ph:=1,last:=c.C + c.N,done:=true }) else (s,c.ph 1)
structure Cl13.Ok (P : Pl13) (u : Who13) (c : Cl13) : Prop where
  n0 : 1≤c.N
  n1 : c.N≤P.n
  p0 : 1≤c.Ph
  p1 : c.Ph≤8
  c0 : c.Ph≠1→-1≤c.C∧c.C + c.N < 4611686018427387904
  l0 : c.Ph = 4→c.I < c.list.length∧∀ x ∈ c.list,0≤x∧x < u.num.length
  q0 : c.Ph = 6→P.fs + P.n≤c.Q∧c.Q≤c.C + c.N
  mem : ∀ x ∈ u.mem,0≤x∧x < u.num.length
  nums : u.num.length≤65536
  mems : u.mem.length≤65536
section
variable {P : Pl13} {B : Nat} {s : MulS} {E : Rn13→Option Row} {w w' : World}
theorem mcell (h : Mems B (mulR P s E) w) (i : Nat) (hi : i < 6) : w.cell? ⟨P.mb,i,none⟩ = some (mF P s i):=h.cell (r:=.M) rfl (by omega)
theorem mfroz (h : Mems B (mulR P s E) w) (i : Nat) : w.frozen? ⟨P.mb,i,none⟩ = false:=h.frozen (r:=.M) rfl i
theorem stcell (h : Mems B (mulR P s E) w) (i : Nat) (hi : i < P.n) : w.cell? ⟨P.sb,i,none⟩ = some (.int .i64 (s.st i)):=h.cell (r:=.S) rfl (by omega)
theorem vacell (h : Mems B (mulR P s E) w) (i : Nat) (hi : i < P.n) : w.cell? ⟨P.vb,i,none⟩ = some (.int .i64 (s.va i)):=h.cell (r:=.V) rfl (by omega)
theorem stfroz (h : Mems B (mulR P s E) w) (i : Nat) : w.frozen? ⟨P.sb,i,none⟩ = false:=h.frozen (r:=.S) rfl i
theorem vafroz (h : Mems B (mulR P s E) w) (i : Nat) : w.frozen? ⟨P.vb,i,none⟩ = false:=h.frozen (r:=.V) rfl i
theorem mset (h : Mems B (mulR P s E) w) {s' : MulS} (i : Nat) (u : Value) (hi : i < 6) (hs : s'.st = s.st∧s'.va = s.va) (hg : ∀ j,j < 6→mF P s' j = if j = i then u else mF P s j) : Mems B (mulR P s' E) (w.setCell ⟨P.mb,i,none⟩ u):=
  h.set (r:=.M) (f':=mF P s') rfl i u rfl (fun k hk=>hg k (by omega)) fun r hr=>by cases r <;> first | exact absurd rfl hr | rfl | (simp only [mulR,hs.1,hs.2])
theorem mset_cur (h : Mems B (mulR P s E) w) (v : Int) : Mems B (mulR P { s with cur:=v } E) (w.setCell ⟨P.mb,4,none⟩ (.int .i64 v)):=
  mset h 4 _ (by omega) ⟨rfl,rfl⟩ fun j hj=>by rcases j with _ | _ | _ | _ | _ | _ | j <;> first | rfl | omega
theorem mset_seen (h : Mems B (mulR P s E) w) (v : Int) : Mems B (mulR P { s with seen:=v } E) (w.setCell ⟨P.mb,5,none⟩ (.int .i64 v)):=
  mset h 5 _ (by omega) ⟨rfl,rfl⟩ fun j hj=>by rcases j with _ | _ | _ | _ | _ | _ | j <;> first | rfl | omega
theorem stset (h : Mems B (mulR P s E) w) (i : Nat) (v : Int) : Mems B (mulR P { s with st:=upd s.st i v } E) (w.setCell ⟨P.sb,i,none⟩ (.int .i64 v)):=
  h.set (r:=.S) (f':=fun j=>.int .i64 (upd s.st i v j)) rfl i _ rfl (fun k hk=>by by_cases e : k = i <;> simp [upd,e]) fun r hr=>by cases r <;> first | exact absurd rfl hr | rfl
theorem vaset (h : Mems B (mulR P s E) w) (i : Nat) (v : Int) : Mems B (mulR P { s with va:=upd s.va i v } E) (w.setCell ⟨P.vb,i,none⟩ (.int .i64 v)):=
  h.set (r:=.V) (f':=fun j=>.int .i64 (upd s.va i v j)) rfl i _ rfl (fun k hk=>by by_cases e : k = i <;> simp [upd,e]) fun r hr=>by cases r <;> first | exact absurd rfl hr | rfl
end
abbrev allR (P : Pl13) (s : MulS) (u : Who13) (c : Cl13) (vL : Value) (f : Nat→Value) (X : Nat→Option Row) : Rn13→Option Row:=mulR P s (whoR P u (clR P c vL f X))
section
variable {P : Pl13} {B : Nat} {s : MulS} {u : Who13} {c : Cl13} {vL : Value} {f : Nat→Value} {X : Nat→Option Row} {w w' : World}
theorem wcell {E : Rn13→Option Row} (h : Mems B (mulR P s (whoR P u E)) w) (i : Nat) (hi : i < 4) : w.cell? ⟨P.wb,i,none⟩ = some (wF u i):=h.cell (r:=.W) rfl (by omega)
theorem kcell (h : Mems B (allR P s u c vL f X) w) (hz : P.o + 11≤P.sz) (i : Nat) (hi : i < 11) : w.cell? ⟨P.kb,P.o + i,none⟩ = some (kF c vL i):=by
  have:=h.cell (r:=.K) rfl (show P.o + i < 1 * P.sz by omega)
  rw [this,inF_at hi]
theorem kfroz (h : Mems B (allR P s u c vL f X) w) (i : Nat) : w.frozen? ⟨P.kb,i,none⟩ = false:=h.frozen (r:=.K) rfl i
theorem kset (h : Mems B (allR P s u c vL f X) w) {c' : Cl13} (i : Nat) (v : Value) (hi : i < 11) (hl : c'.list = c.list) (hg : ∀ j,j < 11→kF c' vL j = if j = i then v else kF c vL j) : Mems B (allR P s u c' vL f X) (w.setCell ⟨P.kb,P.o + i,none⟩ v):=
  h.set (r:=.K) (f':=inF P.o 11 (kF c' vL) f) rfl (P.o + i) v rfl (fun k hk=>inF_set hi hg k) fun r hr=>by cases r <;> first | exact absurd rfl hr | rfl | (simp only [mulR,whoR,clR,hl])
end
end Go.Proofs.Ytoepekcheapgmaa
namespace Go.Proofs.Ytoepekcheapgmaa
open Go.RowKit Go.Turn
def GoodQ (q : Int) : Prop:=0≤q∧q < 4611686018427387904
instance (q : Int) : Decidable (GoodQ q):=by unfold GoodQ; infer_instance
theorem good13_ok (q : Int) (w : World) : Calls Try.prog 88 #[.int .i64 q] w fun e w'=>e = .returned (.bool (decide (GoodQ q)))∧w = w':=by
  by_cases h0 : 0≤q
  · by_cases h1 : q < 4611686018427387904
    · have hg : decide (GoodQ q) = true:=decide_eq_true ⟨h0,h1⟩
      rw [hg]
      clear hg
      go_enter Try.func88,Try.ntmps88
      go_wp2
      go_ret
      try exact ⟨rfl,rfl⟩
    · have hg : decide (GoodQ q) = false:=decide_eq_false fun h=>h1 h.2
      rw [hg]
      clear hg
      go_enter Try.func88,Try.ntmps88
      go_wp2
      go_ret
      try exact ⟨rfl,rfl⟩
  · have hg : decide (GoodQ q) = false:=decide_eq_false fun h=>h0 h.1
    rw [hg]
    clear hg
    go_enter Try.func88,Try.ntmps88
    go_wp2
    go_ret
    try exact ⟨rfl,rfl⟩
section
variable {P : Pl13} {B : Nat} {s : MulS} {E : Rn13→Option Row} {w w' : World}
theorem slot13_ok (h : Mems B (mulR P s E) w) (k : P.Ok s) (q : Int) (g : GoodQ q) : Calls Try.prog 100 #[.pointer (some ⟨P.mb,0,none⟩),.int .i64 q] w fun e w'=>e = .returned (.int .i64 (q % (P.n : Int)))∧w = w':=by
  obtain ⟨g0,g1⟩:=g
  have c0:=mcell h 0 (by omega)
  simp only [mF] at c0
  have n0:=k.n0
  have n1:=k.n1
  generalize P.n = n at *
  have hb0 : 0≤q % (n : Int):=Int.emod_nonneg _ (by omega)
  have hb1 : q % (n : Int) < n:=Int.emod_lt_of_pos _ (by omega)
  have hq : Int.tmod q n = q % (n : Int):=Int.tmod_eq_emod_of_nonneg g0
  have hz : ((n : Int) == 0) = false:=by simp; omega
  clear h k
  go_enter Try.func100,Try.ntmps100
  go_wp2
  go_ret
  try exact ⟨rfl,rfl⟩
theorem lap13_ok (h : Mems B (mulR P s E) w) (k : P.Ok s) (q : Int) (g : GoodQ q) : Calls Try.prog 101 #[.pointer (some ⟨P.mb,0,none⟩),.int .i64 q] w fun e w'=>e = .returned (.int .i64 (q / (P.n : Int)))∧w = w':=by
  obtain ⟨g0,g1⟩:=g
  have c0:=mcell h 0 (by omega)
  simp only [mF] at c0
  have n0:=k.n0
  have n1:=k.n1
  generalize P.n = n at *
  have hd0 : 0≤q / (n : Int):=Int.ediv_nonneg g0 (by omega)
  have hd1 : q / (n : Int)≤q:=Int.ediv_le_self _ g0
  have hq : Int.tdiv q n = q / (n : Int):=Int.tdiv_eq_ediv_of_nonneg g0
  have hz : ((n : Int) == 0) = false:=by simp; omega
  clear h k
  go_enter Try.func101,Try.ntmps101
  go_wp2
  go_ret
  try exact ⟨rfl,rfl⟩
set_option maxRecDepth 100000 in
theorem there13_ok (h : Mems B (mulR P s E) w) (k : P.Ok s) (q : Int) (g : GoodQ q) : Calls Try.prog 108 #[.pointer (some ⟨P.mb,0,none⟩),.int .i64 q] w fun e w'=>e = .returned (.bool (decide (s.st (q % (P.n : Int)).toNat = 2 * (q / (P.n : Int)))))∧∃ nq,w' = w.drewN nq:=by
  obtain ⟨g0,g1⟩:=id g
  have c1:=mcell h 1 (by omega)
  simp only [mF] at c1
  have n0:=k.n0
  have n1:=k.n1
  have hb0 : 0≤q % (P.n : Int):=Int.emod_nonneg _ (by omega)
  have hb1 : q % (P.n : Int) < P.n:=Int.emod_lt_of_pos _ (by omega)
  have hd0 : 0≤q / (P.n : Int):=Int.ediv_nonneg g0 (by omega)
  have hd1 : q / (P.n : Int)≤q:=Int.ediv_le_self _ g0
  have cs:=stcell h (q % (P.n : Int)).toNat (by omega)
  obtain ⟨j,hj⟩ : ∃ j : Nat,q % (P.n : Int) = j:=⟨_,(Int.toNat_of_nonneg hb0).symm⟩
  obtain ⟨l,hl⟩ : ∃ l,q / (P.n : Int) = l:=⟨_,rfl⟩
  have HM:=Lib.hid h
  have HK:=Lib.hid k
  have HG:=Lib.hid g
  rw [hj,Int.toNat_natCast] at cs ⊢
  rw [hl]
  have HS:=Lib.hid (show ∀ z,Mems B (mulR P s E) z→Calls Try.prog 100 #[.pointer (some ⟨P.mb,0,none⟩),.int .i64 q] z fun e w'=>e = .returned (.int .i64 j)∧z = w' from fun z hz=>hj ▸ slot13_ok hz k q g)
  have HL:=Lib.hid (show ∀ z,Mems B (mulR P s E) z→Calls Try.prog 101 #[.pointer (some ⟨P.mb,0,none⟩),.int .i64 q] z fun e w'=>e = .returned (.int .i64 l)∧z = w' from fun z hz=>hl ▸ lap13_ok hz k q g)
  rw [hj] at hb0 hb1
  rw [hl] at hd0 hd1
  obtain ⟨sv,hsv⟩ : ∃ sv,sv = s.st j:=⟨_,rfl⟩
  rw [← hsv] at cs ⊢
  have hd : ((sv == 2 * l) : Bool) = decide (sv = 2 * l):=by by_cases e : sv = 2 * l <;> simp [e]
  rw [← hd]
  clear h k g hj hl hsv hd
  go_enter Try.func108,Try.ntmps108
  go_wp2
  go_quiet (first | (go_at_call 100; exact quietS (HS.out _ (HM.out.drewN _))) | (go_at_call 101; exact quietS (HL.out _ (HM.out.drewN _))))
  go_wp2
  go_ret
  exact ⟨rfl,_,rfl⟩
end
section
variable {P : Pl13} {B : Nat} {s : MulS} {u : Who13} {c : Cl13} {vL : Value} {f : Nat→Value} {X : Nat→Option Row} {w w' : World}
theorem wide13_ok (h : Mems B (allR P s u c vL f X) w) (k : P.Ok s) (hz : P.o + 11≤P.sz) (h0 : -1≤c.C) (h1 : c.C < 4611686018427387904) (h2 : 1≤c.N) (h3 : c.N≤P.n) (known : Int) : Calls Try.prog 105 #[.pointer (some ⟨P.mb,0,none⟩),.pointer (some ⟨P.kb,P.o,none⟩),.int .i64 known] w fun e w'=>e = .returned (.bool (c.wide P.n known))∧∃ nq,w' = w.drewN nq:=by
  have c0:=mcell h 0 (by omega)
  have k0:=kcell h hz 0 (by omega)
  have k2:=kcell h hz 2 (by omega)
  simp only [mF,kF,Nat.add_zero] at c0 k0 k2
  have n0:=k.n0
  have n1:=k.n1
  clear h k hz
  unfold Cl13.wide
  go_enter Try.func105,Try.ntmps105
  go_wp2
  go_quiet (fail)
  go_wp2
  go_ret
  exact ⟨rfl,_,rfl⟩
theorem refuse13_ok (h : Mems B (allR P s u c vL f X) w) (hz : P.o + 11≤P.sz) (hB : B≤P.kb) (er : Int) : Calls Try.prog 106 #[.pointer (some ⟨P.kb,P.o,none⟩),.int .i64 er] w fun e w'=>e = .returned (.tuple #[])∧Mems B (allR P s u (c.refuse er) vL f X) w'∧Below B w w':=by
  have k8:=kcell h hz 8 (by omega)
  have f8:=kfroz h (P.o + 8)
  have h1 : Mems B (allR P s u { c with done:=true } vL f X) (w.setCell ⟨P.kb,P.o + 8,none⟩ (.bool true)):=kset h 8 _ (by omega) rfl fun j hj=>by rcases j with _ | _ | _ | _ | _ | _ | _ | _ | _ | _ | _ | j <;> first | rfl | omega
  have b1 : Below B w (w.setCell ⟨P.kb,P.o + 8,none⟩ (.bool true)):=(Below.refl B w).setCell hB _
  have k10:=kcell h1 hz 10 (by omega)
  have f10:=kfroz h1 (P.o + 10)
  have h2 : Mems B (allR P s u (c.refuse er) vL f X) ((w.setCell ⟨P.kb,P.o + 8,none⟩ (.bool true)).setCell ⟨P.kb,P.o + 10,none⟩ (.int .i64 er)):=kset h1 10 _ (by omega) rfl fun j hj=>by rcases j with _ | _ | _ | _ | _ | _ | _ | _ | _ | _ | _ | j <;> first | rfl | omega
  have b2:=b1.setCell (p:=⟨P.kb,P.o + 10,none⟩) hB (.int .i64 er)
  have H:=Lib.hid (And.intro h2 b2)
  simp only [kF] at k8 k10
  clear h h1 h2 b1 b2
  go_enter Try.func106,Try.ntmps106
  refine wp_cut fun K hK=>?_
  go_wp2
  refine hK.out _ _ ?_
  clear hK K k8 f8
  generalize World.setCell w _ _ = w1 at *
  go_wp2
  go_end0
  exact ⟨rfl,H.out⟩
end
end Go.Proofs.Ytoepekcheapgmaa
namespace Go.Proofs.Ytoepekcheapgmaa
open Go.RowKit Go.Turn
section
variable {P : Pl13} {B : Nat} {s : MulS} {u : Who13} {c : Cl13} {vL : Value} {f : Nat→Value} {X : Nat→Option Row} {w w' : World}
set_option maxHeartbeats 1000000 in
set_option maxRecDepth 100000 in
theorem seen13_ok (h : Mems B (allR P s u c vL f X) w) (k : P.Ok s) (hz : P.o + 11≤P.sz) (hB : B≤P.kb) (h0 : -1≤c.C) (h1 : c.C < 4611686018427387904) (h2 : 1≤c.N) (h3 : c.N≤P.n) : Calls Try.prog 107 #[.pointer (some ⟨P.mb,0,none⟩),.pointer (some ⟨P.kb,P.o,none⟩)] w fun e w'=>e = .returned (.tuple #[])∧Mems B (allR P s u (c.seen P.n P.fs) vL f X) w'∧Below B w w':=by
  have n0:=k.n0
  have n1:=k.n1
  have f0:=k.f0
  have f1:=k.f1
  have HM:=Lib.hid (And.intro h (Below.refl B w))
  clear h k
  unfold Cl13.seen
  obtain ⟨q,hq⟩ : ∃ q,q = max (c.C + 1) (P.fs + P.n):=⟨_,rfl⟩
  rw [← hq]
  have hmx : (if c.C + 1 < P.fs + (P.n : Int) then P.fs + (P.n : Int) else c.C + 1) = q:=by rw [hq]; split <;> omega
  have hq0 : 0≤q:=by omega
  have hq1 : q < 4611686018427453440:=by omega
  have HQ:=Lib.hid hq
  clear hq
  go_enter Try.func107,Try.ntmps107
  have m0:=mcell HM.out.1 0 (by omega)
  simp only [mF] at m0
  have m3:=mcell HM.out.1 3 (by omega)
  simp only [mF] at m3
  have k2:=kcell HM.out.1 hz 2 (by omega)
  simp only [kF,Nat.add_zero] at k2
  refine wp_cut fun K hK=>?_
  refine wp_region_lastQ 19 (by kernel_rfl) (by kernel_rfl) (by kernel_rfl) (by kernel_rfl) ?_
  simp only [idle,List.modify_toArray,List.modify_succ_cons,List.modify_zero_cons,List.size_toArray,List.length_cons,List.length_nil,Nat.reduceAdd]
  repeat (go_big_quiet_step (fail))
  refine wpQuiet_nil ?_
  rintro _ ⟨nq,rfl⟩
  refine wpOps_list (m:=19) rfl ?_
  have hmd:=Lib.hid (And.intro (HM.out.1.drewN nq) (HM.out.2.trans (Below.drewN (Below.refl B _) nq)))
  clear HM
  have HM:=hmd
  clear hmd
  generalize World.drewN _ nq = w1 at *
  clear m0 m3 k2
  have k5:=kcell HM.out.1 hz 5 (by omega)
  simp only [kF,Nat.add_zero] at k5
  have f5:=kfroz HM.out.1 (P.o + 5)
  go_wp2
  refine hK.out _ _ ?_
  clear hK K
  clear k5 f5
  have hm:=Lib.hid (And.intro (kset (c':={ c with Q:=q }) HM.out.1 5 (.int .i64 q) (by omega) rfl (fun j hj=>by rcases j with _ | _ | _ | _ | _ | _ | _ | _ | _ | _ | _ | j <;> first | rfl | omega)) (HM.out.2.setCell (p:=⟨P.kb,P.o + 5,none⟩) hB (.int .i64 q)))
  clear HM
  have HM:=hm
  clear hm
  generalize World.setCell _ _ _ = w2 at *
  refine wp_cut fun K hK=>?_
  have k1:=kcell HM.out.1 hz 1 (by omega)
  simp only [kF,Nat.add_zero] at k1
  have f1:=kfroz HM.out.1 (P.o + 1)
  go_wp2
  refine hK.out _ _ ?_
  clear hK K
  clear k1 f1
  have hm:=Lib.hid (And.intro (kset (c':={ c with Q:=q,Ph:=6 }) HM.out.1 1 (.int .i64 6) (by omega) rfl (fun j hj=>by rcases j with _ | _ | _ | _ | _ | _ | _ | _ | _ | _ | _ | j <;> first | rfl | omega)) (HM.out.2.setCell (p:=⟨P.kb,P.o + 1,none⟩) hB (.int .i64 6)))
  clear HM
  have HM:=hm
  clear hm
  generalize World.setCell _ _ _ = w3 at *
  have k5:=kcell HM.out.1 hz 5 (by omega)
  simp only [kF,Nat.add_zero] at k5
  have k2:=kcell HM.out.1 hz 2 (by omega)
  simp only [kF,Nat.add_zero] at k2
  have k0:=kcell HM.out.1 hz 0 (by omega)
  simp only [kF,Nat.add_zero] at k0
  refine wp_cut fun K hK=>?_
  go_quiet (fail)
  have hmd:=Lib.hid (And.intro (HM.out.1.drewN nq) (HM.out.2.trans (Below.drewN (Below.refl B _) nq)))
  clear HM
  have HM:=hmd
  clear hmd
  generalize World.drewN _ nq = w4 at *
  refine hK.out _ _ ?_
  clear hK K
  clear k5 k2 k0
  have k1:=kcell HM.out.1 hz 1 (by omega)
  simp only [kF,Nat.add_zero] at k1
  have f1:=kfroz HM.out.1 (P.o + 1)
  by_cases hlt : c.C + c.N < q
  · have d1 : decide (c.C + c.N < q) = true:=decide_eq_true hlt
    rw [if_pos hlt]
    go_wp2
    go_end0
    refine ⟨rfl,?_,HM.out.2.setCell hB _⟩
    exact kset (c':={ c with Q:=q,Ph:=8 }) HM.out.1 1 _ (by omega) rfl (fun j hj=>by rcases j with _ | _ | _ | _ | _ | _ | _ | _ | _ | _ | _ | j <;> first | rfl | omega)
  · have d1 : decide (c.C + c.N < q) = false:=decide_eq_false hlt
    rw [if_neg hlt]
    go_wp2
    go_end0
    exact ⟨rfl,HM.out⟩
end
end Go.Proofs.Ytoepekcheapgmaa
namespace Go.Proofs.Ytoepekcheapgmaa
open Go.RowKit Go.Turn
theorem Try.infoint13 : (Try.prog.info? 3).map (fun i=>(i.zero,i.size,i.bytes)) = some (some (.int .i64 0),1,8):=by kernel_rfl
theorem cells_map (xs : List Int) : xs.map (Value.int .i64) = cellsN (xs.length * 1) (fun j=>.int .i64 (xs.getD j 0)):=by
  rw [Nat.mul_one]
  apply List.ext_getElem?
  intro j
  by_cases hj : j < xs.length
  · rw [cellsN_get hj]; simp [hj]
  · rw [List.getElem?_eq_none (by simp; omega),List.getElem?_eq_none (by rw [cellsN_len]; omega)]
theorem numsRow_own {e : TypeId} {v : Value} {xs : List Int} {B : Nat} {w : World} : (numsRow e v xs).At B w ↔ w.ownsRow B e 1 v xs.length (xs.map (.int .i64)):=by
  rw [cells_map]; exact Iff.rfl
section
variable {P : Pl13} {B : Nat} {s : MulS} {u : Who13} {c : Cl13} {vL : Value} {f : Nat→Value} {X : Nat→Option Row} {w w' : World}
theorem klist_nil (h : Mems B (allR P s u c vL f X) w) : Mems B (allR P s u { c with list:=[] } (.slice none 0 0) f X) (w.setCell ⟨P.kb,P.o + 6,none⟩ (.slice none 0 0)):=by
  have h1 : Mems B (fun r=>if r = .K then some ⟨P.T,P.sz,.slice (some ⟨P.kb,0,none⟩) 1 1,1,inF P.o 11 (kF c (.slice none 0 0)) f⟩ else allR P s u c vL f X r) (w.setCell ⟨P.kb,P.o + 6,none⟩ (.slice none 0 0)):=
    h.set (r:=.K) (f':=inF P.o 11 (kF c (.slice none 0 0)) f) rfl (P.o + 6) _ rfl (fun k hk=>inF_set (by omega) (fun j hj=>by rcases j with _ | _ | _ | _ | _ | _ | _ | _ | _ | _ | _ | j <;> first | rfl | omega) k) fun r hr=>by simp [hr]
  refine h1.dropped fun r d hr=>?_
  cases r with
  | L=>cases hr; exact .inr ⟨rfl,rfl⟩
  | K =>
    refine .inl ?_
    cases hr
    rw [if_pos rfl]
    have : kF c (.slice none 0 0) = kF { c with list:=[] } (.slice none 0 0):=by funext j; rcases j with _ | _ | _ | _ | _ | _ | _ | _ | _ | _ | _ | j <;> rfl
    rw [this]
  | _=>exact .inl hr
theorem klist_new (h : Mems B (allR P s u { c with list:=[] } (.slice none 0 0) f X) w) (hz : P.o + 11≤P.sz) {l : List Int} {v' : Value} (hown : w'.ownsRow B 3 1 v' l.length (l.map (.int .i64))) (hk : Kept (fun _=>False) w w') (hv : ∀ b,v'.ownBlock = some b→w.heap.size≤b) :
    w'.cell? ⟨P.kb,P.o + 6,none⟩ = some (.slice none 0 0)∧w'.frozen? ⟨P.kb,P.o + 6,none⟩ = false∧Mems B (allR P s u { c with list:=l } v' f X) (w'.setCell ⟨P.kb,P.o + 6,none⟩ v'):=by
  have h1 : Mems B (fun r=>if r = .L then some (numsRow 3 v' l) else allR P s u { c with list:=[] } (.slice none 0 0) f X r) w':=
    h.new (r:=.L) (d':=numsRow 3 v' l) rfl (fun r hr=>by simp [hr]) (fun b hb=>hk.block b hb id) (numsRow_own.2 hown) hv
  have h0:=h.same (w':=w') fun b hb=>hk.block b hb id
  refine ⟨kcell h0 hz 6 (by omega),kfroz h0 _,?_⟩
  refine h1.set (r:=.K) (f':=inF P.o 11 (kF { c with list:=l } v') f) (g:=P.kb) (e:=P.T) (sz:=P.sz) (cap:=1) (n:=1) (f:=inF P.o 11 (kF { c with list:=[] } (.slice none 0 0)) f) rfl (P.o + 6) v' rfl (fun k hk=>inF_set (by omega) (fun j hj=>by rcases j with _ | _ | _ | _ | _ | _ | _ | _ | _ | _ | _ | j <;> first | rfl | omega) k) fun r hr=>?_
  cases r <;> first | exact absurd rfl hr | rfl
set_option maxHeartbeats 1000000 in
set_option maxRecDepth 100000 in
theorem listed13_ok (h : Mems B (allR P s u c vL f X) w) (hz : P.o + 11≤P.sz) (hB : B≤P.kb) (hm : u.mem.length≤65536) : Calls Try.prog 110 #[.pointer (some ⟨P.kb,P.o,none⟩),u.vI] w fun e w'=>e = .returned (.tuple #[])∧(∃ vL',Mems B (allR P s u (c.listed u.mem) vL' f X) w')∧Below B w w':=by
  obtain ⟨i0,hi0,hz0,hz1,hz2⟩:=info_parts Try.infoint13
  have hI:=numsRow_own.1 (h.at_ (r:=.I) (d:=numsRow 3 u.vI u.mem) rfl)
  obtain ⟨A,cp,hvI⟩:=own_slice hI
  have hmc : u.mem.length≤cp∧(A = none→cp = 0):=by
    rw [hvI] at hI
    rcases hI.2 with ⟨h1,h2⟩ | ⟨g,cap,cur,h1,_,_,h3,_⟩
    · injection h1 with z1 z2 z3; exact ⟨by omega,fun _=>z3⟩
    · cases h1; exact ⟨h3,fun z=>by cases z⟩
  have HM:=Lib.hid (And.intro h (Below.refl B w))
  have hBs : B≤w.heap.size:=by have:=(h.lt (r:=.K) rfl (b:=P.kb) rfl); omega
  rw [hvI]
  have HVI:=Lib.hid hvI
  unfold Cl13.listed
  clear h hI hvI
  obtain ⟨L,hL⟩ : ∃ L,L = u.mem.length:=⟨_,rfl⟩
  rw [← hL] at hm hmc ⊢
  have HL:=Lib.hid hL
  obtain ⟨hmc,hA⟩:=hmc
  have HA:=Lib.hid hA
  clear hL hA
  go_enter Try.func110,Try.ntmps110
  refine wp_cut fun K hK=>?_
  have k6:=kcell HM.out.1 hz 6 (by omega)
  simp only [kF,Nat.add_zero] at k6
  have f6:=kfroz HM.out.1 (P.o + 6)
  go_wp2
  refine hK.out _ _ ?_
  clear hK K
  clear k6 f6
  have hmn:=Lib.hid (And.intro (klist_nil HM.out.1) (HM.out.2.setCell (p:=⟨P.kb,P.o + 6,none⟩) hB (.slice none 0 0)))
  clear HM
  have HM:=hmn
  clear hmn
  have hBs : B≤(w.setCell ⟨P.kb,P.o + 6,none⟩ (.slice none 0 0)).heap.size:=by simpa [World.setCell] using hBs
  generalize World.setCell _ _ _ = w1 at *
  have hI1:=numsRow_own.1 (HM.out.1.at_ (r:=.I) (d:=numsRow 3 u.vI u.mem) rfl)
  have hc : Hid (∀ a,A = some a→∀ j v,(u.mem.map (Value.int .i64))[j]? = some v→w1.cell? (a.add j) = some v):=Lib.hid fun a ha j v hv=>by
    rw [HVI.out] at hI1
    obtain rfl:=ha
    rcases hI1.2 with ⟨h1,h2⟩ | ⟨g,cap,cur,h1,_⟩
    · cases h1
    · cases h1
      have hj : j < u.mem.length:=by
        rcases Nat.lt_or_ge j u.mem.length with hlt | hge
        · exact hlt
        · rw [List.getElem?_eq_none (by simpa using hge)] at hv; cases hv
      have:=hI1.cellAt (g:=g) j (by omega)
      rw [show (⟨g,0,none⟩ : Addr).add j = ⟨g,j,none⟩ from by unfold Addr.add; by_cases h4 : j = 0 <;> simp [h4],this,hv]
  have hone : Hid (∀ v ∈ u.mem.map (Value.int .i64),v.oneCell' = true):=Lib.hid fun v hv=>by
    obtain ⟨x,_,rfl⟩:=List.mem_map.1 hv
    rfl
  have hnil : Hid (w1.ownsRow B 3 1 (.slice none 0 0) 0 ([] : List Value)):=Lib.hid ⟨by simp,.inl ⟨rfl,rfl⟩⟩
  clear hI1
  refine wp_cut fun K hK=>?_
  have k6:=kcell HM.out.1 hz 6 (by omega)
  simp only [kF,Nat.add_zero] at k6
  go_wp2_with (at_builtin; refine wpList_app _ rfl _ _ 24 rfl B 3 i0 (.int .i64 0) 1 8 Try.underlying24 hi0 hz0 hz1 hz2 rfl (by decide) _ _ _ rfl hnil.out A L cp rfl HA.out hmc (u.mem.map (.int .i64)) (by simp [HL.out]) hc.out hone.out (by unfold maxLen; omega) (by omega) hBs ?_)
  intro v1 w2 h1 k1 p1 ob1 ne1
  have hl1 : w2.ownsRow B 3 1 v1 u.mem.length (u.mem.map (.int .i64)):=by simpa [HL.out] using h1
  obtain ⟨g1,g2,g3⟩:=klist_new (c:=c) HM.out.1 hz hl1 (k1.mono fun b _ z=>by cases z) (fun b hb=>by
    rcases ob1 with z | z
    · rw [z] at hb; cases hb
    · exact z b hb)
  obtain ⟨A1,c1',rfl⟩:=own_slice hl1
  have b2 : Below B w1 w2:=k1.to_below (fun b z=>by cases z) hBs
  have hmn:=Lib.hid (And.intro g3 ((HM.out.2.trans b2).setCell (p:=⟨P.kb,P.o + 6,none⟩) hB (.slice A1 u.mem.length c1')))
  rw [← HL.out] at hmn g3
  clear HM h1 k1 p1 ob1 ne1 hl1 g3 b2 k6
  have HM:=hmn
  clear hmn
  rw [← HL.out]
  go_wp2
  refine hK.out _ _ ?_
  clear hK K
  clear g1 g2
  generalize World.setCell _ _ _ = w3 at *
  refine wp_cut fun K hK=>?_
  have k7:=kcell HM.out.1 hz 7 (by omega)
  simp only [kF,Nat.add_zero] at k7
  have f7:=kfroz HM.out.1 (P.o + 7)
  go_wp2
  refine hK.out _ _ ?_
  clear hK K
  clear k7 f7
  have hm:=Lib.hid (And.intro (kset (c':={ c with list:=u.mem,I:=0 }) HM.out.1 7 (.int .i64 0) (by omega) rfl (fun j hj=>by rcases j with _ | _ | _ | _ | _ | _ | _ | _ | _ | _ | _ | j <;> first | rfl | omega)) (HM.out.2.setCell (p:=⟨P.kb,P.o + 7,none⟩) hB (.int .i64 0)))
  clear HM
  have HM:=hm
  clear hm
  generalize World.setCell _ _ _ = w4 at *
  have k2:=kcell HM.out.1 hz 2 (by omega)
  simp only [kF,Nat.add_zero] at k2
  have k4:=kcell HM.out.1 hz 4 (by omega)
  simp only [kF,Nat.add_zero] at k4
  have f4:=kfroz HM.out.1 (P.o + 4)
  refine wp_cut fun K hK=>?_
  go_wp2
  refine hK.out _ _ ?_
  clear hK K
  clear k2 k4 f4
  have hm:=Lib.hid (And.intro (kset (c':={ c with list:=u.mem,I:=0,L:=c.C }) HM.out.1 4 (.int .i64 c.C) (by omega) rfl (fun j hj=>by rcases j with _ | _ | _ | _ | _ | _ | _ | _ | _ | _ | _ | j <;> first | rfl | omega)) (HM.out.2.setCell (p:=⟨P.kb,P.o + 4,none⟩) hB (.int .i64 c.C)))
  clear HM
  have HM:=hm
  clear hm
  generalize World.setCell _ _ _ = w5 at *
  have k1:=kcell HM.out.1 hz 1 (by omega)
  simp only [kF,Nat.add_zero] at k1
  have f1:=kfroz HM.out.1 (P.o + 1)
  refine wp_cut fun K hK=>?_
  go_wp2
  refine hK.out _ _ ?_
  clear hK K
  clear k1 f1
  have hm:=Lib.hid (And.intro (kset (c':={ c with list:=u.mem,I:=0,L:=c.C,Ph:=4 }) HM.out.1 1 (.int .i64 4) (by omega) rfl (fun j hj=>by rcases j with _ | _ | _ | _ | _ | _ | _ | _ | _ | _ | _ | j <;> first | rfl | omega)) (HM.out.2.setCell (p:=⟨P.kb,P.o + 1,none⟩) hB (.int .i64 4)))
  clear HM
  have HM:=hm
  clear hm
  generalize World.setCell _ _ _ = w6 at *
  have k6:=kcell HM.out.1 hz 6 (by omega)
  simp only [kF,Nat.add_zero] at k6
  by_cases h0 : L = 0
  · have d1 : ((L : Int) == 0) = true:=by simpa using h0
    rw [if_pos h0]
    clear h0
    have k1:=kcell HM.out.1 hz 1 (by omega)
    simp only [kF,Nat.add_zero] at k1
    have f1:=kfroz HM.out.1 (P.o + 1)
    go_wp2
    go_end0
    refine ⟨rfl,⟨.slice A1 L c1',?_⟩,HM.out.2.setCell hB _⟩
    exact kset (c':={ c with list:=u.mem,I:=0,L:=c.C,Ph:=5 }) HM.out.1 1 _ (by omega) rfl (fun j hj=>by rcases j with _ | _ | _ | _ | _ | _ | _ | _ | _ | _ | _ | j <;> first | rfl | omega)
  · have d1 : ((L : Int) == 0) = false:=by simpa using h0
    rw [if_neg h0]
    clear h0
    go_wp2
    go_end0
    exact ⟨rfl,⟨_,HM.out.1⟩,HM.out.2⟩
end
end Go.Proofs.Ytoepekcheapgmaa
namespace Go.Proofs.Ytoepekcheapgmaa
open Go.RowKit Go.Turn
def Left13 (P : Pl13) (B : Nat) (s : MulS) (u : Who13) (c : Cl13) (f : Nat→Value) (X : Nat→Option Row) (w w' : World) : Prop:=(∃ vL',Mems B (allR P s u c vL' f X) w')∧Below B w w'
section
variable {P : Pl13} {B : Nat} {s : MulS} {u : Who13} {c : Cl13} {vL : Value} {f : Nat→Value} {X : Nat→Option Row} {w w' : World}
theorem Left13.here (h : Mems B (allR P s u c vL f X) w'∧Below B w w') : Left13 P B s u c f X w w':=⟨⟨_,h.1⟩,h.2⟩
set_option maxHeartbeats 2000000 in
set_option maxRecDepth 100000 in
theorem first13_1 (h : Mems B (allR P s u c vL f X) w) (k : P.Ok s) (ho : c.Ok P u) (hz : P.o + 11≤P.sz) (hB : B≤P.kb) (hp : c.Ph = 1) : Calls Try.prog 104 #[.pointer (some ⟨P.mb,0,none⟩),.pointer (some ⟨P.kb,P.o,none⟩),.pointer (some ⟨P.wb,0,none⟩)] w fun e w'=>e = .returned (.tuple #[])∧Left13 P B s u (firstC P.n P.fs s u c) f X w w':=by
  have n0:=k.n0
  have n1:=k.n1
  have f0:=k.f0
  have f1:=k.f1
  have cu0:=k.c0
  have cu1:=k.c1
  have HP:=Lib.hid k
  have HO:=Lib.hid ho
  have HM:=Lib.hid (And.intro h (Below.refl B w))
  have HPH:=Lib.hid hp
  have N0:=ho.n0
  have N1:=ho.n1
  clear h k ho
  unfold firstC
  rw [if_pos hp]
  have k1:=kcell HM.out.1 hz 1 (by omega)
  simp only [kF,Nat.add_zero] at k1
  rw [hp] at k1
  clear hp
  have m4:=mcell HM.out.1 4 (by omega)
  simp only [mF] at m4
  have k2:=kcell HM.out.1 hz 2 (by omega)
  simp only [kF,Nat.add_zero] at k2
  have f2:=kfroz HM.out.1 (P.o + 2)
  go_enter Try.func104,Try.ntmps104
  refine wp_cut fun K hK=>?_
  go_wp2
  refine hK.out _ _ ?_
  clear hK K
  refine wp_block ?_
  refine wp_cut fun K hK=>?_
  go_wp2
  refine hK.out _ _ ?_
  clear hK K
  refine wp_cond_true rfl ?_
  refine wp_cut fun K hK=>?_
  go_wp2
  refine hK.out _ _ ?_
  clear hK K
  clear k1 m4 k2 f2
  have hm:=Lib.hid (And.intro (kset (c':={ c with C:=s.cur }) HM.out.1 2 (.int .i64 s.cur) (by omega) rfl (fun j hj=>by rcases j with _ | _ | _ | _ | _ | _ | _ | _ | _ | _ | _ | j <;> first | rfl | omega)) (HM.out.2.setCell (p:=⟨P.kb,P.o + 2,none⟩) hB (.int .i64 s.cur)))
  clear HM
  have HM:=hm
  clear hm
  generalize World.setCell _ _ _ = w1 at *
  have k1:=kcell HM.out.1 hz 1 (by omega)
  simp only [kF,Nat.add_zero] at k1
  have f1:=kfroz HM.out.1 (P.o + 1)
  refine wp_cut fun K hK=>?_
  go_wp2
  refine hK.out _ _ ?_
  clear hK K
  clear k1 f1
  have hm:=Lib.hid (And.intro (kset (c':={ c with C:=s.cur,Ph:=2 }) HM.out.1 1 (.int .i64 2) (by omega) rfl (fun j hj=>by rcases j with _ | _ | _ | _ | _ | _ | _ | _ | _ | _ | _ | j <;> first | rfl | omega)) (HM.out.2.setCell (p:=⟨P.kb,P.o + 1,none⟩) hB (.int .i64 2)))
  clear HM
  have HM:=hm
  clear hm
  generalize World.setCell _ _ _ = w2 at *
  have k2:=kcell HM.out.1 hz 2 (by omega)
  simp only [kF,Nat.add_zero] at k2
  have k0:=kcell HM.out.1 hz 0 (by omega)
  simp only [kF,Nat.add_zero] at k0
  refine wp_cut fun K hK=>?_
  go_quiet (fail)
  have hmd:=Lib.hid (And.intro (HM.out.1.drewN nq) (HM.out.2.trans (Below.drewN (Below.refl B _) nq)))
  clear HM
  have HM:=hmd
  clear hmd
  generalize World.drewN _ nq = w3 at *
  refine hK.out _ _ ?_
  clear hK K
  clear k2 k0
  by_cases hlt : 4611686018427387904≤s.cur + c.N
  · have d1 : decide (4611686018427387904≤s.cur + c.N) = true:=decide_eq_true hlt
    rw [if_pos hlt]
    go_wp2_with (go_at_call 106; refine (refuse13_ok HM.out.1 hz hB 8).mono ?_; rintro e w' ⟨rfl,hm,hb⟩)
    go_end0
    exact ⟨rfl,.here ⟨hm,HM.out.2.trans hb⟩⟩
  · have d1 : decide (4611686018427387904≤s.cur + c.N) = false:=decide_eq_false hlt
    rw [if_neg hlt]
    go_wp2
    go_end0
    exact ⟨rfl,.here HM.out⟩
set_option maxHeartbeats 2000000 in
set_option maxRecDepth 100000 in
theorem first13_2 (h : Mems B (allR P s u c vL f X) w) (k : P.Ok s) (ho : c.Ok P u) (hz : P.o + 11≤P.sz) (hB : B≤P.kb) (hp : c.Ph = 2) : Calls Try.prog 104 #[.pointer (some ⟨P.mb,0,none⟩),.pointer (some ⟨P.kb,P.o,none⟩),.pointer (some ⟨P.wb,0,none⟩)] w fun e w'=>e = .returned (.tuple #[])∧Left13 P B s u (firstC P.n P.fs s u c) f X w w':=by
  obtain ⟨hc0,hc1⟩:=ho.c0 (by omega)
  have n0:=k.n0
  have n1:=k.n1
  have f0:=k.f0
  have f1:=k.f1
  have cu0:=k.c0
  have cu1:=k.c1
  have HP:=Lib.hid k
  have HO:=Lib.hid ho
  have HM:=Lib.hid (And.intro h (Below.refl B w))
  have HPH:=Lib.hid hp
  have N0:=ho.n0
  have N1:=ho.n1
  clear h k ho
  unfold firstC
  rw [if_neg (show ¬ c.Ph = 1 by omega),if_pos hp]
  have k1:=kcell HM.out.1 hz 1 (by omega)
  simp only [kF,Nat.add_zero] at k1
  rw [hp] at k1
  clear hp
  have m5:=mcell HM.out.1 5 (by omega)
  simp only [mF] at m5
  have k3:=kcell HM.out.1 hz 3 (by omega)
  simp only [kF,Nat.add_zero] at k3
  have f3:=kfroz HM.out.1 (P.o + 3)
  go_enter Try.func104,Try.ntmps104
  refine wp_cut fun K hK=>?_
  go_wp2
  refine hK.out _ _ ?_
  clear hK K
  refine wp_block ?_
  refine wp_cut fun K hK=>?_
  go_wp2
  refine hK.out _ _ ?_
  clear hK K
  refine wp_cond_false rfl ?_
  refine wp_cut fun K hK=>?_
  go_wp2
  refine hK.out _ _ ?_
  clear hK K
  refine wp_cond_true rfl ?_
  refine wp_cut fun K hK=>?_
  go_wp2
  refine hK.out _ _ ?_
  clear hK K
  clear k1 m5 k3 f3
  have hm:=Lib.hid (And.intro (kset (c':={ c with G:=s.seen }) HM.out.1 3 (.int .i64 s.seen) (by omega) rfl (fun j hj=>by rcases j with _ | _ | _ | _ | _ | _ | _ | _ | _ | _ | _ | j <;> first | rfl | omega)) (HM.out.2.setCell (p:=⟨P.kb,P.o + 3,none⟩) hB (.int .i64 s.seen)))
  clear HM
  have HM:=hm
  clear hm
  generalize World.setCell _ _ _ = w1 at *
  refine wp_block ?_
  have k3:=kcell HM.out.1 hz 3 (by omega)
  simp only [kF,Nat.add_zero] at k3
  refine wp_cut fun K hK=>?_
  go_wp2_with (go_at_call 105; refine (wide13_ok HM.out.1 HP.out hz (by omega) (show c.C < _ by omega) N0 N1 s.seen).mono ?_; rintro e w' ⟨rfl,nq,hw'⟩; subst hw')
  refine hK.out _ _ ?_
  clear hK K
  have hmd:=Lib.hid (And.intro (HM.out.1.drewN nq) (HM.out.2.trans (Below.drewN (Below.refl B _) nq)))
  clear HM k3
  have HM:=hmd
  clear hmd
  generalize World.drewN _ nq = w2 at *
  rw [show ({ c with G:=s.seen } : Cl13).wide P.n s.seen = c.wide P.n s.seen from rfl]
  cases hw : c.wide P.n s.seen with
  | false =>
    rw [if_pos rfl]
    refine wp_cond_true rfl ?_
    go_wp2_with (go_at_call 107; refine (seen13_ok HM.out.1 HP.out hz hB (by omega) (show c.C < _ by omega) N0 N1).mono ?_; rintro e w' ⟨rfl,hm,hb⟩)
    go_end0
    exact ⟨rfl,.here ⟨hm,HM.out.2.trans hb⟩⟩
  | true =>
    rw [if_neg (by decide)]
    refine wp_cond_false rfl ?_
    have q0:=wcell HM.out.1 0 (by omega)
    have q1:=wcell HM.out.1 1 (by omega)
    simp only [wF] at q0 q1
    refine wp_cut fun K hK=>?_
    go_wp2
    refine hK.out _ _ ?_
    clear hK K
    cases hg : u.gate with
    | true =>
      rw [if_pos rfl]
      rw [hg] at q0
      refine wp_cond_true rfl ?_
      have k1:=kcell HM.out.1 hz 1 (by omega)
      simp only [kF,Nat.add_zero] at k1
      have f1:=kfroz HM.out.1 (P.o + 1)
      go_wp2
      go_end0
      exact ⟨rfl,.here (vL:=vL) ⟨kset (c':={ c with G:=s.seen,Ph:=3 }) HM.out.1 1 (.int .i64 3) (by omega) rfl (fun j hj=>by rcases j with _ | _ | _ | _ | _ | _ | _ | _ | _ | _ | _ | j <;> first | rfl | omega),HM.out.2.setCell hB (.int .i64 3)⟩⟩
    | false =>
      rw [if_neg (by decide)]
      rw [hg] at q0
      refine wp_cond_false rfl ?_
      go_wp2_with (go_at_call 110; refine (listed13_ok HM.out.1 hz hB HO.out.mems).mono ?_; rintro e w' ⟨rfl,hm,hb⟩)
      go_end0
      exact ⟨rfl,hm,HM.out.2.trans hb⟩
set_option maxHeartbeats 2000000 in
set_option maxRecDepth 100000 in
theorem first13_3 (h : Mems B (allR P s u c vL f X) w) (k : P.Ok s) (ho : c.Ok P u) (hz : P.o + 11≤P.sz) (hB : B≤P.kb) (hp : c.Ph = 3) : Calls Try.prog 104 #[.pointer (some ⟨P.mb,0,none⟩),.pointer (some ⟨P.kb,P.o,none⟩),.pointer (some ⟨P.wb,0,none⟩)] w fun e w'=>e = .returned (.tuple #[])∧Left13 P B s u (firstC P.n P.fs s u c) f X w w':=by
  have n0:=k.n0
  have n1:=k.n1
  have f0:=k.f0
  have f1:=k.f1
  have cu0:=k.c0
  have cu1:=k.c1
  have HP:=Lib.hid k
  have HO:=Lib.hid ho
  have HM:=Lib.hid (And.intro h (Below.refl B w))
  have HPH:=Lib.hid hp
  have N0:=ho.n0
  have N1:=ho.n1
  clear h k ho
  unfold firstC
  rw [if_neg (show ¬ c.Ph = 1 by omega),if_neg (show ¬ c.Ph = 2 by omega)]
  have k1:=kcell HM.out.1 hz 1 (by omega)
  simp only [kF,Nat.add_zero] at k1
  rw [hp] at k1
  clear hp
  have q1:=wcell HM.out.1 1 (by omega)
  simp only [wF] at q1
  go_enter Try.func104,Try.ntmps104
  refine wp_cut fun K hK=>?_
  go_wp2
  refine hK.out _ _ ?_
  clear hK K
  refine wp_block ?_
  refine wp_cut fun K hK=>?_
  go_wp2
  refine hK.out _ _ ?_
  clear hK K
  refine wp_cond_false rfl ?_
  refine wp_cut fun K hK=>?_
  go_wp2
  refine hK.out _ _ ?_
  clear hK K
  refine wp_cond_false rfl ?_
  go_wp2_with (go_at_call 110; refine (listed13_ok HM.out.1 hz hB HO.out.mems).mono ?_; rintro e w' ⟨rfl,hm,hb⟩)
  go_end0
  exact ⟨rfl,hm,HM.out.2.trans hb⟩
end
end Go.Proofs.Ytoepekcheapgmaa
namespace Go.Proofs.Ytoepekcheapgmaa
open Go.RowKit Go.Turn
theorem min_if (y L : Int) : (if y < L then y else L) = min L y:=by split <;> omega
theorem quietD {P : Program} {f : FuncId} {args : Array Value} {w : World} {n : Nat} {v : Value}
    (h : Calls P f args (w.drewN n) fun e w'=>e = .returned v∧∃ m,w' = (w.drewN n).drewN m) : Calls P f args (w.drewN n) fun e w''=>e = .returned v∧∃ m,w'' = w.drewN m:=
  h.mono fun _ _ ⟨he,m,hm⟩=>⟨he,n + m,hm.trans (by simp [World.drewN,Nat.add_assoc])⟩
theorem row_slice {e : TypeId} {v : Value} {xs : List Int} {B : Nat} {w : World} (h : (numsRow e v xs).At B w) (h0 : 0 < xs.length) : ∃ g cap,v = .slice (some ⟨g,0,none⟩) xs.length cap∧xs.length≤cap∧cap≤maxLen:=by
  rcases h.2 with ⟨_,h2⟩ | ⟨g,cap,cur,h1,_,_,h3,h4,_⟩
  · have : xs.length = 0:=h2
    omega
  · exact ⟨g,cap,h1,h3,h4⟩
section
variable {P : Pl13} {B : Nat} {s : MulS} {u : Who13} {c : Cl13} {vL : Value} {f : Nat→Value} {X : Nat→Option Row} {w w' : World}
set_option maxHeartbeats 2000000 in
set_option maxRecDepth 100000 in
theorem step13_1 (h : Mems B (allR P s u c vL f X) w) (k : P.Ok s) (ho : c.Ok P u) (hz : P.o + 11≤P.sz) (hB : B≤P.kb) (hBm : B≤P.mb) (hp : c.Ph = 1) : Calls Try.prog 87 #[.pointer (some ⟨P.mb,0,none⟩),.pointer (some ⟨P.kb,P.o,none⟩),.pointer (some ⟨P.wb,0,none⟩)] w fun e w'=>e = .returned (.tuple #[])∧Left13 P B (stepC P.n P.fs s u c).1 u (stepC P.n P.fs s u c).2 f X w w':=by
  have hf:=first13_1 h k ho hz hB hp
  have HF:=Lib.hid hf
  have HM:=Lib.hid h
  clear hf h k ho
  unfold stepC
  rw [if_pos (show c.Ph = 1∨c.Ph = 2∨c.Ph = 3 by omega)]
  have k1:=kcell HM.out hz 1 (by omega)
  simp only [kF] at k1
  rw [hp] at k1
  clear hp
  go_enter Try.func87,Try.ntmps87
  go_wp2_with (go_at_call 104; refine HF.out.mono ?_; rintro e w' ⟨rfl,hm⟩)
  go_end0
  exact ⟨rfl,hm⟩
set_option maxHeartbeats 2000000 in
set_option maxRecDepth 100000 in
theorem step13_2 (h : Mems B (allR P s u c vL f X) w) (k : P.Ok s) (ho : c.Ok P u) (hz : P.o + 11≤P.sz) (hB : B≤P.kb) (hBm : B≤P.mb) (hp : c.Ph = 2) : Calls Try.prog 87 #[.pointer (some ⟨P.mb,0,none⟩),.pointer (some ⟨P.kb,P.o,none⟩),.pointer (some ⟨P.wb,0,none⟩)] w fun e w'=>e = .returned (.tuple #[])∧Left13 P B (stepC P.n P.fs s u c).1 u (stepC P.n P.fs s u c).2 f X w w':=by
  have hf:=first13_2 h k ho hz hB hp
  have HF:=Lib.hid hf
  have HM:=Lib.hid h
  clear hf h k ho
  unfold stepC
  rw [if_pos (show c.Ph = 1∨c.Ph = 2∨c.Ph = 3 by omega)]
  have k1:=kcell HM.out hz 1 (by omega)
  simp only [kF] at k1
  rw [hp] at k1
  clear hp
  go_enter Try.func87,Try.ntmps87
  go_wp2_with (go_at_call 104; refine HF.out.mono ?_; rintro e w' ⟨rfl,hm⟩)
  go_end0
  exact ⟨rfl,hm⟩
set_option maxHeartbeats 2000000 in
set_option maxRecDepth 100000 in
theorem step13_3 (h : Mems B (allR P s u c vL f X) w) (k : P.Ok s) (ho : c.Ok P u) (hz : P.o + 11≤P.sz) (hB : B≤P.kb) (hBm : B≤P.mb) (hp : c.Ph = 3) : Calls Try.prog 87 #[.pointer (some ⟨P.mb,0,none⟩),.pointer (some ⟨P.kb,P.o,none⟩),.pointer (some ⟨P.wb,0,none⟩)] w fun e w'=>e = .returned (.tuple #[])∧Left13 P B (stepC P.n P.fs s u c).1 u (stepC P.n P.fs s u c).2 f X w w':=by
  have hf:=first13_3 h k ho hz hB hp
  have HF:=Lib.hid hf
  have HM:=Lib.hid h
  clear hf h k ho
  unfold stepC
  rw [if_pos (show c.Ph = 1∨c.Ph = 2∨c.Ph = 3 by omega)]
  have k1:=kcell HM.out hz 1 (by omega)
  simp only [kF] at k1
  rw [hp] at k1
  clear hp
  go_enter Try.func87,Try.ntmps87
  go_wp2_with (go_at_call 104; refine HF.out.mono ?_; rintro e w' ⟨rfl,hm⟩)
  go_end0
  exact ⟨rfl,hm⟩
set_option maxHeartbeats 2000000 in
set_option maxRecDepth 100000 in
theorem step13_4 (h : Mems B (allR P s u c vL f X) w) (k : P.Ok s) (ho : c.Ok P u) (hz : P.o + 11≤P.sz) (hB : B≤P.kb) (hBm : B≤P.mb) (hp : c.Ph = 4) : Calls Try.prog 87 #[.pointer (some ⟨P.mb,0,none⟩),.pointer (some ⟨P.kb,P.o,none⟩),.pointer (some ⟨P.wb,0,none⟩)] w fun e w'=>e = .returned (.tuple #[])∧Left13 P B (stepC P.n P.fs s u c).1 u (stepC P.n P.fs s u c).2 f X w w':=by
  obtain ⟨hI,hL⟩:=ho.l0 hp
  obtain ⟨hC0,hC1⟩:=ho.c0 (by omega)
  have n0:=k.n0
  have n1:=k.n1
  have f0:=k.f0
  have f1:=k.f1
  have cu0:=k.c0
  have cu1:=k.c1
  have HP:=Lib.hid k
  have HO:=Lib.hid ho
  have HM:=Lib.hid (And.intro h (Below.refl B w))
  have HPH:=Lib.hid hp
  have N0:=ho.n0
  have N1:=ho.n1
  clear h k ho
  unfold stepC
  rw [if_neg (show ¬ (c.Ph = 1∨c.Ph = 2∨c.Ph = 3) by omega),if_pos hp]
  have k1:=kcell HM.out.1 hz 1 (by omega)
  simp only [kF,Nat.add_zero] at k1
  rw [hp] at k1
  clear hp
  go_enter Try.func87,Try.ntmps87
  refine wp_cut fun K hK=>?_
  go_wp2
  refine hK.out _ _ ?_
  clear hK K
  refine wp_block ?_
  refine wp_cut fun K hK=>?_
  go_wp2
  refine hK.out _ _ ?_
  clear hK K
  refine wp_cond_false rfl ?_
  refine wp_cut fun K hK=>?_
  go_wp2
  refine hK.out _ _ ?_
  clear hK K
  refine wp_cond_true rfl ?_
  clear k1
  obtain ⟨g,cp,hvL,hcp,hcm⟩:=row_slice (HM.out.1.at_ (r:=.L) (d:=numsRow 3 vL c.list) rfl) (by omega)
  have hin:=hL (c.list.getD c.I 0) (by rw [List.getD_eq_getElem?_getD,List.getElem?_eq_getElem hI]; exact List.getElem_mem hI)
  obtain ⟨x,hx⟩ : ∃ x : Nat,c.list.getD c.I 0 = x:=⟨_,(Int.toNat_of_nonneg hin.1).symm⟩
  have hxn : x < u.num.length:=by omega
  obtain ⟨gn,cn,hvN,hcn,hcnm⟩:=row_slice (HM.out.1.at_ (r:=.N) (d:=numsRow 2 u.vN u.num) rfl) (by omega)
  have rL:=HM.out.1.cell (r:=.L) (e:=3) (sz:=1) (g:=g) (cap:=cp) (n:=c.list.length) (f:=fun j=>.int .i64 (c.list.getD j 0)) (by simp only [mulR,whoR,clR,numsRow,hvL]) (show c.I < c.list.length * 1 by omega)
  have rN:=HM.out.1.cell (r:=.N) (e:=2) (sz:=1) (g:=gn) (cap:=cn) (n:=u.num.length) (f:=fun j=>.int .i64 (u.num.getD j 0)) (by simp only [mulR,whoR,clR,numsRow,hvN]) (show x < u.num.length * 1 by omega)
  rw [hx] at rL ⊢
  rw [Int.toNat_natCast]
  obtain ⟨y,hy⟩ : ∃ y,y = u.num.getD x 0:=⟨_,rfl⟩
  rw [← hy] at rN ⊢
  obtain ⟨mn,hmn⟩ : ∃ mn,min c.L y = mn:=⟨_,rfl⟩
  have hmn2 : (if y < c.L then y else c.L) = mn:=by
    have:=min_if y c.L
    rw [this,hmn]
  rw [hmn]
  clear hmn
  have k4:=kcell HM.out.1 hz 4 (by omega)
  simp only [kF,Nat.add_zero] at k4
  have k6:=kcell HM.out.1 hz 6 (by omega)
  simp only [kF,Nat.add_zero] at k6
  have k7:=kcell HM.out.1 hz 7 (by omega)
  simp only [kF,Nat.add_zero] at k7
  have q3:=wcell HM.out.1 3 (by omega)
  simp only [wF] at q3
  rw [hvL] at k6
  rw [hvN] at q3
  have HVL:=Lib.hid hvL
  clear hvL hvN hx hy hin hL
  refine wp_cut fun K hK=>?_
  refine wp_region_lastQ 24 (by kernel_rfl) (by kernel_rfl) (by kernel_rfl) (by kernel_rfl) ?_
  simp only [idle,List.modify_toArray,List.modify_succ_cons,List.modify_zero_cons,List.size_toArray,List.length_cons,List.length_nil,Nat.reduceAdd]
  repeat (go_big_quiet_step (fail))
  refine wpQuiet_nil ?_
  rintro _ ⟨nq,rfl⟩
  refine wpOps_list (m:=24) rfl ?_
  have hmd:=Lib.hid (And.intro (HM.out.1.drewN nq) (HM.out.2.trans (Below.drewN (Below.refl B _) nq)))
  clear HM
  have HM:=hmd
  clear hmd
  generalize World.drewN _ nq = w1 at *
  clear k4 k6 k7 q3 rL rN
  have k4:=kcell HM.out.1 hz 4 (by omega)
  simp only [kF,Nat.add_zero] at k4
  have f4:=kfroz HM.out.1 (P.o + 4)
  go_wp2
  refine hK.out _ _ ?_
  clear hK K
  clear k4 f4
  have hm:=Lib.hid (And.intro (kset (c':={ c with L:=mn }) HM.out.1 4 (.int .i64 mn) (by omega) rfl (fun j hj=>by rcases j with _ | _ | _ | _ | _ | _ | _ | _ | _ | _ | _ | j <;> first | rfl | omega)) (HM.out.2.setCell (p:=⟨P.kb,P.o + 4,none⟩) hB (.int .i64 mn)))
  clear HM
  have HM:=hm
  clear hm
  generalize World.setCell _ _ _ = w2 at *
  have k7:=kcell HM.out.1 hz 7 (by omega)
  simp only [kF,Nat.add_zero] at k7
  have f7:=kfroz HM.out.1 (P.o + 7)
  have hI63 : c.I < 9223372036854775807:=by unfold maxLen at hcm; omega
  refine wp_cut fun K hK=>?_
  go_wp2
  refine hK.out _ _ ?_
  clear hK K
  clear k7 f7
  have hm:=Lib.hid (And.intro (kset (c':={ c with L:=mn,I:=c.I + 1 }) HM.out.1 7 (.int .i64 ((c.I : Int) + 1)) (by omega) rfl (fun j hj=>by rcases j with _ | _ | _ | _ | _ | _ | _ | _ | _ | _ | _ | j <;> first | rfl | omega)) (HM.out.2.setCell (p:=⟨P.kb,P.o + 7,none⟩) hB (.int .i64 ((c.I : Int) + 1))))
  clear HM
  have HM:=hm
  clear hm
  generalize World.setCell _ _ _ = w3 at *
  have k7:=kcell HM.out.1 hz 7 (by omega)
  simp only [kF,Nat.add_zero] at k7
  have k6:=kcell HM.out.1 hz 6 (by omega)
  simp only [kF,Nat.add_zero] at k6
  rw [HVL.out] at k6
  refine wp_cut fun K hK=>?_
  go_quiet (fail)
  have hmd:=Lib.hid (And.intro (HM.out.1.drewN nq) (HM.out.2.trans (Below.drewN (Below.refl B _) nq)))
  clear HM
  have HM:=hmd
  clear hmd
  generalize World.drewN _ nq = w4 at *
  refine hK.out _ _ ?_
  clear hK K
  clear k7 k6
  by_cases he : c.I + 1 = c.list.length
  · have d1 : (((c.I + 1 : Nat) : Int) == (c.list.length : Int)) = true:=by simpa using (show ((c.I + 1 : Nat) : Int) = c.list.length by omega)
    rw [if_pos he]
    have k1:=kcell HM.out.1 hz 1 (by omega)
    simp only [kF,Nat.add_zero] at k1
    have f1:=kfroz HM.out.1 (P.o + 1)
    go_wp2
    go_end0
    exact ⟨rfl,.here (vL:=vL) ⟨kset (c':={ c with L:=mn,I:=c.I + 1,Ph:=5 }) HM.out.1 1 (.int .i64 5) (by omega) rfl (fun j hj=>by rcases j with _ | _ | _ | _ | _ | _ | _ | _ | _ | _ | _ | j <;> first | rfl | omega),HM.out.2.setCell hB (.int .i64 5)⟩⟩
  · have d1 : (((c.I + 1 : Nat) : Int) == (c.list.length : Int)) = false:=by simpa using (show ¬ ((c.I + 1 : Nat) : Int) = c.list.length by omega)
    rw [if_neg he]
    go_wp2
    go_end0
    have e4 : ({ c with L:=mn,I:=c.I + 1,Ph:=4 } : Cl13) = { c with L:=mn,I:=c.I + 1 }:=by rw [← HPH.out]
    rw [e4]
    exact ⟨rfl,.here HM.out⟩
set_option maxHeartbeats 2000000 in
set_option maxRecDepth 100000 in
theorem step13_5 (h : Mems B (allR P s u c vL f X) w) (k : P.Ok s) (ho : c.Ok P u) (hz : P.o + 11≤P.sz) (hB : B≤P.kb) (hBm : B≤P.mb) (hp : c.Ph = 5) : Calls Try.prog 87 #[.pointer (some ⟨P.mb,0,none⟩),.pointer (some ⟨P.kb,P.o,none⟩),.pointer (some ⟨P.wb,0,none⟩)] w fun e w'=>e = .returned (.tuple #[])∧Left13 P B (stepC P.n P.fs s u c).1 u (stepC P.n P.fs s u c).2 f X w w':=by
  obtain ⟨hC0,hC1⟩:=ho.c0 (by omega)
  have n0:=k.n0
  have n1:=k.n1
  have f0:=k.f0
  have f1:=k.f1
  have cu0:=k.c0
  have cu1:=k.c1
  have HP:=Lib.hid k
  have HO:=Lib.hid ho
  have HM:=Lib.hid (And.intro h (Below.refl B w))
  have HPH:=Lib.hid hp
  have N0:=ho.n0
  have N1:=ho.n1
  clear h k ho
  unfold stepC
  rw [if_neg (show ¬ (c.Ph = 1∨c.Ph = 2∨c.Ph = 3) by omega),if_neg (show ¬ c.Ph = 4 by omega),if_pos hp]
  have k1:=kcell HM.out.1 hz 1 (by omega)
  simp only [kF,Nat.add_zero] at k1
  rw [hp] at k1
  clear hp
  go_enter Try.func87,Try.ntmps87
  refine wp_cut fun K hK=>?_
  go_wp2
  refine hK.out _ _ ?_
  clear hK K
  refine wp_block ?_
  refine wp_cut fun K hK=>?_
  go_wp2
  refine hK.out _ _ ?_
  clear hK K
  refine wp_cond_false rfl ?_
  refine wp_cut fun K hK=>?_
  go_wp2
  refine hK.out _ _ ?_
  clear hK K
  refine wp_cond_false rfl ?_
  refine wp_cut fun K hK=>?_
  go_wp2
  refine hK.out _ _ ?_
  clear hK K
  refine wp_cond_true rfl ?_
  clear k1
  have k4:=kcell HM.out.1 hz 4 (by omega)
  simp only [kF,Nat.add_zero] at k4
  have m5:=mcell HM.out.1 5 (by omega)
  simp only [mF] at m5
  have f5:=mfroz HM.out.1 5
  refine wp_cut fun K hK=>?_
  go_wp2
  refine hK.out _ _ ?_
  clear hK K
  clear k4 m5 f5
  have hm:=Lib.hid (And.intro (mset_seen HM.out.1 c.L) (HM.out.2.setCell (p:=⟨P.mb,5,none⟩) hBm (.int .i64 c.L)))
  clear HM
  have HM:=hm
  clear hm
  have HP2 : Hid (P.Ok { s with seen:=c.L }):=Lib.hid ⟨HP.out.n0,HP.out.n1,HP.out.f0,HP.out.f1,HP.out.c0,HP.out.c1⟩
  generalize World.setCell _ _ _ = w1 at *
  have k4:=kcell HM.out.1 hz 4 (by omega)
  simp only [kF,Nat.add_zero] at k4
  refine wp_cut fun K hK=>?_
  go_wp2_with (go_at_call 105; refine (wide13_ok HM.out.1 HP2.out hz (by omega) (show c.C < _ by omega) N0 N1 c.L).mono ?_; rintro e w' ⟨rfl,nq,hw'⟩; subst hw')
  refine hK.out _ _ ?_
  clear hK K
  have hmd:=Lib.hid (And.intro (HM.out.1.drewN nq) (HM.out.2.trans (Below.drewN (Below.refl B _) nq)))
  clear HM
  have HM:=hmd
  clear hmd
  generalize World.drewN _ nq = w2 at *
  clear k4
  cases hw : c.wide P.n c.L with
  | true =>
    rw [if_pos rfl]
    refine wp_cond_true rfl ?_
    go_wp2_with (go_at_call 106; refine (refuse13_ok HM.out.1 hz hB 3).mono ?_; rintro e w' ⟨rfl,hm,hb⟩)
    go_end0
    exact ⟨rfl,.here ⟨hm,HM.out.2.trans hb⟩⟩
  | false =>
    rw [if_neg (by decide)]
    refine wp_cond_false rfl ?_
    go_wp2_with (go_at_call 107; refine (seen13_ok HM.out.1 HP2.out hz hB (by omega) (show c.C < _ by omega) N0 N1).mono ?_; rintro e w' ⟨rfl,hm,hb⟩)
    go_end0
    exact ⟨rfl,.here ⟨hm,HM.out.2.trans hb⟩⟩
set_option maxHeartbeats 2000000 in
set_option maxRecDepth 100000 in
theorem step13_6 (h : Mems B (allR P s u c vL f X) w) (k : P.Ok s) (ho : c.Ok P u) (hz : P.o + 11≤P.sz) (hB : B≤P.kb) (hBm : B≤P.mb) (hp : c.Ph = 6) : Calls Try.prog 87 #[.pointer (some ⟨P.mb,0,none⟩),.pointer (some ⟨P.kb,P.o,none⟩),.pointer (some ⟨P.wb,0,none⟩)] w fun e w'=>e = .returned (.tuple #[])∧Left13 P B (stepC P.n P.fs s u c).1 u (stepC P.n P.fs s u c).2 f X w w':=by
  obtain ⟨hQ0,hQ1⟩:=ho.q0 hp
  obtain ⟨hC0,hC1⟩:=ho.c0 (by omega)
  have n0:=k.n0
  have n1:=k.n1
  have f0:=k.f0
  have f1:=k.f1
  have cu0:=k.c0
  have cu1:=k.c1
  have HP:=Lib.hid k
  have HO:=Lib.hid ho
  have HM:=Lib.hid (And.intro h (Below.refl B w))
  have HPH:=Lib.hid hp
  have N0:=ho.n0
  have N1:=ho.n1
  clear h k ho
  unfold stepC
  rw [if_neg (show ¬ (c.Ph = 1∨c.Ph = 2∨c.Ph = 3) by omega),if_neg (show ¬ c.Ph = 4 by omega),if_neg (show ¬ c.Ph = 5 by omega),if_pos hp]
  have k1:=kcell HM.out.1 hz 1 (by omega)
  simp only [kF,Nat.add_zero] at k1
  rw [hp] at k1
  clear hp
  go_enter Try.func87,Try.ntmps87
  refine wp_cut fun K hK=>?_
  go_wp2
  refine hK.out _ _ ?_
  clear hK K
  refine wp_block ?_
  refine wp_cut fun K hK=>?_
  go_wp2
  refine hK.out _ _ ?_
  clear hK K
  refine wp_cond_false rfl ?_
  refine wp_cut fun K hK=>?_
  go_wp2
  refine hK.out _ _ ?_
  clear hK K
  refine wp_cond_false rfl ?_
  refine wp_cut fun K hK=>?_
  go_wp2
  refine hK.out _ _ ?_
  clear hK K
  refine wp_cond_false rfl ?_
  refine wp_cut fun K hK=>?_
  go_wp2
  refine hK.out _ _ ?_
  clear hK K
  refine wp_cond_true rfl ?_
  clear k1
  have k5:=kcell HM.out.1 hz 5 (by omega)
  simp only [kF,Nat.add_zero] at k5
  have m0:=mcell HM.out.1 0 (by omega)
  simp only [mF] at m0
  have HG : Hid (GoodQ (c.Q - P.n)):=Lib.hid ⟨by omega,by omega⟩
  obtain ⟨b,hb⟩ : ∃ b,decide (s.st (((c.Q - P.n) % P.n).toNat) = 2 * ((c.Q - P.n) / P.n)) = b:=⟨_,rfl⟩
  have HT : Hid (∀ n,Calls Try.prog 108 #[.pointer (some ⟨P.mb,0,none⟩),.int .i64 (c.Q - P.n)] (w.drewN n) fun e w'=>e = .returned (.bool b)∧∃ m,w' = (w.drewN n).drewN m):=Lib.hid fun n=>by rw [← hb]; exact there13_ok (HM.out.1.drewN _) HP.out _ HG.out
  have HB:=Lib.hid hb
  clear hb
  cases b with
  | false =>
    rw [if_neg (of_decide_eq_false HB.out)]
    refine wp_cut fun K2 hK2=>?_
    refine wp_cut fun K hK=>?_
    go_quiet (first | (go_at_call 108; exact quietD (HT.out _)))
    clear HT
    have hmd:=Lib.hid (And.intro (HM.out.1.drewN nq) (HM.out.2.trans (Below.drewN (Below.refl B _) nq)))
    clear HM
    have HM:=hmd
    clear hmd
    generalize World.drewN _ nq = w1 at *
    refine hK.out _ _ ?_
    clear hK K
    clear k5 m0
    refine wp_cond_true rfl ?_
    clear hK2
    have k1:=kcell HM.out.1 hz 1 (by omega)
    simp only [kF,Nat.add_zero] at k1
    have f1:=kfroz HM.out.1 (P.o + 1)
    go_wp2
    refine bodyPost_ret (results_none rfl _ _ _) rfl ?_
    exact ⟨rfl,.here (vL:=vL) ⟨kset (c':=c.ph 7) HM.out.1 1 (.int .i64 7) (by omega) rfl (fun j hj=>by rcases j with _ | _ | _ | _ | _ | _ | _ | _ | _ | _ | _ | j <;> first | rfl | omega),HM.out.2.setCell hB (.int .i64 7)⟩⟩
  | true =>
    rw [if_pos (of_decide_eq_true HB.out)]
    refine wp_cut fun K2 hK2=>?_
    refine wp_cut fun K hK=>?_
    go_quiet (first | (go_at_call 108; exact quietD (HT.out _)))
    clear HT
    have hmd:=Lib.hid (And.intro (HM.out.1.drewN nq) (HM.out.2.trans (Below.drewN (Below.refl B _) nq)))
    clear HM
    have HM:=hmd
    clear hmd
    generalize World.drewN _ nq = w1 at *
    refine hK.out _ _ ?_
    clear hK K
    clear k5 m0
    refine wp_cond_false rfl ?_
    go_wp2
    refine hK2.out _ _ ?_
    clear hK2 K2
    have k5:=kcell HM.out.1 hz 5 (by omega)
    simp only [kF,Nat.add_zero] at k5
    have f5:=kfroz HM.out.1 (P.o + 5)
    refine wp_cut fun K hK=>?_
    go_wp2
    refine hK.out _ _ ?_
    clear hK K
    clear k5 f5
    have hm:=Lib.hid (And.intro (kset (c':={ c with Q:=c.Q + 1 }) HM.out.1 5 (.int .i64 (c.Q + 1)) (by omega) rfl (fun j hj=>by rcases j with _ | _ | _ | _ | _ | _ | _ | _ | _ | _ | _ | j <;> first | rfl | omega)) (HM.out.2.setCell (p:=⟨P.kb,P.o + 5,none⟩) hB (.int .i64 (c.Q + 1))))
    clear HM
    have HM:=hm
    clear hm
    generalize World.setCell _ _ _ = w2 at *
    have k5:=kcell HM.out.1 hz 5 (by omega)
    simp only [kF,Nat.add_zero] at k5
    have k2:=kcell HM.out.1 hz 2 (by omega)
    simp only [kF,Nat.add_zero] at k2
    have k0:=kcell HM.out.1 hz 0 (by omega)
    simp only [kF,Nat.add_zero] at k0
    refine wp_cut fun K hK=>?_
    go_quiet (fail)
    have hmd:=Lib.hid (And.intro (HM.out.1.drewN nq) (HM.out.2.trans (Below.drewN (Below.refl B _) nq)))
    clear HM
    have HM:=hmd
    clear hmd
    generalize World.drewN _ nq = w3 at *
    refine hK.out _ _ ?_
    clear hK K
    clear k5 k2 k0
    by_cases hlt : c.C + c.N < c.Q + 1
    · have d1 : decide (c.C + c.N < c.Q + 1) = true:=decide_eq_true hlt
      rw [if_pos hlt]
      have k1:=kcell HM.out.1 hz 1 (by omega)
      simp only [kF,Nat.add_zero] at k1
      have f1:=kfroz HM.out.1 (P.o + 1)
      go_wp2
      go_end0
      exact ⟨rfl,.here (vL:=vL) ⟨kset (c':={ c with Q:=c.Q + 1,Ph:=8 }) HM.out.1 1 (.int .i64 8) (by omega) rfl (fun j hj=>by rcases j with _ | _ | _ | _ | _ | _ | _ | _ | _ | _ | _ | j <;> first | rfl | omega),HM.out.2.setCell hB (.int .i64 8)⟩⟩
    · have d1 : decide (c.C + c.N < c.Q + 1) = false:=decide_eq_false hlt
      rw [if_neg hlt]
      go_wp2
      go_end0
      have e4 : ({ c with Q:=c.Q + 1,Ph:=6 } : Cl13) = { c with Q:=c.Q + 1 }:=by rw [← HPH.out]
      rw [e4]
      exact ⟨rfl,.here HM.out⟩
set_option maxHeartbeats 2000000 in
set_option maxRecDepth 100000 in
theorem step13_7 (h : Mems B (allR P s u c vL f X) w) (k : P.Ok s) (ho : c.Ok P u) (hz : P.o + 11≤P.sz) (hB : B≤P.kb) (hBm : B≤P.mb) (hp : c.Ph = 7) : Calls Try.prog 87 #[.pointer (some ⟨P.mb,0,none⟩),.pointer (some ⟨P.kb,P.o,none⟩),.pointer (some ⟨P.wb,0,none⟩)] w fun e w'=>e = .returned (.tuple #[])∧Left13 P B (stepC P.n P.fs s u c).1 u (stepC P.n P.fs s u c).2 f X w w':=by
  obtain ⟨hC0,hC1⟩:=ho.c0 (by omega)
  have n0:=k.n0
  have n1:=k.n1
  have f0:=k.f0
  have f1:=k.f1
  have cu0:=k.c0
  have cu1:=k.c1
  have HP:=Lib.hid k
  have HO:=Lib.hid ho
  have HM:=Lib.hid (And.intro h (Below.refl B w))
  have HPH:=Lib.hid hp
  have N0:=ho.n0
  have N1:=ho.n1
  clear h k ho
  unfold stepC
  rw [if_neg (show ¬ (c.Ph = 1∨c.Ph = 2∨c.Ph = 3) by omega),if_neg (show ¬ c.Ph = 4 by omega),if_neg (show ¬ c.Ph = 5 by omega),if_neg (show ¬ c.Ph = 6 by omega),if_pos hp]
  have k1:=kcell HM.out.1 hz 1 (by omega)
  simp only [kF,Nat.add_zero] at k1
  rw [hp] at k1
  clear hp
  go_enter Try.func87,Try.ntmps87
  refine wp_cut fun K hK=>?_
  go_wp2
  refine hK.out _ _ ?_
  clear hK K
  refine wp_block ?_
  refine wp_cut fun K hK=>?_
  go_wp2
  refine hK.out _ _ ?_
  clear hK K
  refine wp_cond_false rfl ?_
  refine wp_cut fun K hK=>?_
  go_wp2
  refine hK.out _ _ ?_
  clear hK K
  refine wp_cond_false rfl ?_
  refine wp_cut fun K hK=>?_
  go_wp2
  refine hK.out _ _ ?_
  clear hK K
  refine wp_cond_false rfl ?_
  refine wp_cut fun K hK=>?_
  go_wp2
  refine hK.out _ _ ?_
  clear hK K
  refine wp_cond_false rfl ?_
  refine wp_cut fun K hK=>?_
  go_wp2
  refine hK.out _ _ ?_
  clear hK K
  refine wp_cond_true rfl ?_
  clear k1
  have k1:=kcell HM.out.1 hz 1 (by omega)
  simp only [kF,Nat.add_zero] at k1
  have f1:=kfroz HM.out.1 (P.o + 1)
  refine wp_cut fun K hK=>?_
  go_wp2
  refine hK.out _ _ ?_
  clear hK K
  clear k1 f1
  have hm:=Lib.hid (And.intro (kset (c':={ c with Ph:=1 }) HM.out.1 1 (.int .i64 1) (by omega) rfl (fun j hj=>by rcases j with _ | _ | _ | _ | _ | _ | _ | _ | _ | _ | _ | j <;> first | rfl | omega)) (HM.out.2.setCell (p:=⟨P.kb,P.o + 1,none⟩) hB (.int .i64 1)))
  clear HM
  have HM:=hm
  clear hm
  generalize World.setCell _ _ _ = w1 at *
  have k2:=kcell HM.out.1 hz 2 (by omega)
  simp only [kF,Nat.add_zero] at k2
  have m4:=mcell HM.out.1 4 (by omega)
  simp only [mF] at m4
  refine wp_cut fun K hK=>?_
  go_quiet (fail)
  have hmd:=Lib.hid (And.intro (HM.out.1.drewN nq) (HM.out.2.trans (Below.drewN (Below.refl B _) nq)))
  clear HM
  have HM:=hmd
  clear hmd
  generalize World.drewN _ nq = w2 at *
  refine hK.out _ _ ?_
  clear hK K
  clear k2 m4
  by_cases he : s.cur = c.C
  · have d1 : (s.cur == c.C) = true:=by simpa using he
    rw [if_pos he]
    go_wp2_with (go_at_call 106; refine (refuse13_ok HM.out.1 hz hB 3).mono ?_; rintro e w' ⟨rfl,hm,hb⟩)
    go_end0
    exact ⟨rfl,.here ⟨hm,HM.out.2.trans hb⟩⟩
  · have d1 : (s.cur == c.C) = false:=by simpa using he
    rw [if_neg he]
    go_wp2
    go_end0
    exact ⟨rfl,.here HM.out⟩
set_option maxHeartbeats 2000000 in
set_option maxRecDepth 100000 in
theorem step13_8 (h : Mems B (allR P s u c vL f X) w) (k : P.Ok s) (ho : c.Ok P u) (hz : P.o + 11≤P.sz) (hB : B≤P.kb) (hBm : B≤P.mb) (hp : c.Ph = 8) : Calls Try.prog 87 #[.pointer (some ⟨P.mb,0,none⟩),.pointer (some ⟨P.kb,P.o,none⟩),.pointer (some ⟨P.wb,0,none⟩)] w fun e w'=>e = .returned (.tuple #[])∧Left13 P B (stepC P.n P.fs s u c).1 u (stepC P.n P.fs s u c).2 f X w w':=by
  obtain ⟨hC0,hC1⟩:=ho.c0 (by omega)
  have n0:=k.n0
  have n1:=k.n1
  have f0:=k.f0
  have f1:=k.f1
  have cu0:=k.c0
  have cu1:=k.c1
  have HP:=Lib.hid k
  have HO:=Lib.hid ho
  have HM:=Lib.hid (And.intro h (Below.refl B w))
  have HPH:=Lib.hid hp
  have N0:=ho.n0
  have N1:=ho.n1
  clear h k ho
  unfold stepC
  rw [if_neg (show ¬ (c.Ph = 1∨c.Ph = 2∨c.Ph = 3) by omega),if_neg (show ¬ c.Ph = 4 by omega),if_neg (show ¬ c.Ph = 5 by omega),if_neg (show ¬ c.Ph = 6 by omega),if_neg (show ¬ c.Ph = 7 by omega)]
  have k1:=kcell HM.out.1 hz 1 (by omega)
  simp only [kF,Nat.add_zero] at k1
  rw [hp] at k1
  clear hp
  go_enter Try.func87,Try.ntmps87
  refine wp_cut fun K hK=>?_
  go_wp2
  refine hK.out _ _ ?_
  clear hK K
  refine wp_block ?_
  refine wp_cut fun K hK=>?_
  go_wp2
  refine hK.out _ _ ?_
  clear hK K
  refine wp_cond_false rfl ?_
  refine wp_cut fun K hK=>?_
  go_wp2
  refine hK.out _ _ ?_
  clear hK K
  refine wp_cond_false rfl ?_
  refine wp_cut fun K hK=>?_
  go_wp2
  refine hK.out _ _ ?_
  clear hK K
  refine wp_cond_false rfl ?_
  refine wp_cut fun K hK=>?_
  go_wp2
  refine hK.out _ _ ?_
  clear hK K
  refine wp_cond_false rfl ?_
  refine wp_cut fun K hK=>?_
  go_wp2
  refine hK.out _ _ ?_
  clear hK K
  refine wp_cond_false rfl ?_
  clear k1
  have k1:=kcell HM.out.1 hz 1 (by omega)
  simp only [kF,Nat.add_zero] at k1
  have f1:=kfroz HM.out.1 (P.o + 1)
  refine wp_cut fun K hK=>?_
  go_wp2
  refine hK.out _ _ ?_
  clear hK K
  clear k1 f1
  have hm:=Lib.hid (And.intro (kset (c':={ c with Ph:=1 }) HM.out.1 1 (.int .i64 1) (by omega) rfl (fun j hj=>by rcases j with _ | _ | _ | _ | _ | _ | _ | _ | _ | _ | _ | j <;> first | rfl | omega)) (HM.out.2.setCell (p:=⟨P.kb,P.o + 1,none⟩) hB (.int .i64 1)))
  clear HM
  have HM:=hm
  clear hm
  generalize World.setCell _ _ _ = w1 at *
  have k2:=kcell HM.out.1 hz 2 (by omega)
  simp only [kF,Nat.add_zero] at k2
  have m4:=mcell HM.out.1 4 (by omega)
  simp only [mF] at m4
  refine wp_cut fun K hK=>?_
  go_quiet (fail)
  have hmd:=Lib.hid (And.intro (HM.out.1.drewN nq) (HM.out.2.trans (Below.drewN (Below.refl B _) nq)))
  clear HM
  have HM:=hmd
  clear hmd
  generalize World.drewN _ nq = w2 at *
  refine hK.out _ _ ?_
  clear hK K
  clear k2 m4
  by_cases he : s.cur = c.C
  · have d1 : (s.cur == c.C) = true:=by simpa using he
    rw [if_pos he]
    refine wp_cond_true (congrArg _ d1) ?_
    have k2:=kcell HM.out.1 hz 2 (by omega)
    simp only [kF,Nat.add_zero] at k2
    have k0:=kcell HM.out.1 hz 0 (by omega)
    simp only [kF,Nat.add_zero] at k0
    refine wp_cut fun K hK=>?_
    refine wp_region_lastQ 12 (by kernel_rfl) (by kernel_rfl) (by kernel_rfl) (by kernel_rfl) ?_
    simp only [idle,List.modify_toArray,List.modify_succ_cons,List.modify_zero_cons,List.size_toArray,List.length_cons,List.length_nil,Nat.reduceAdd]
    repeat (go_big_quiet_step (fail))
    refine wpQuiet_nil ?_
    rintro _ ⟨nq,rfl⟩
    refine wpOps_list (m:=12) rfl ?_
    have hmd:=Lib.hid (And.intro (HM.out.1.drewN nq) (HM.out.2.trans (Below.drewN (Below.refl B _) nq)))
    clear HM
    have HM:=hmd
    clear hmd
    generalize World.drewN _ nq = w3 at *
    clear k2 k0
    have m4:=mcell HM.out.1 4 (by omega)
    simp only [mF] at m4
    have f4:=mfroz HM.out.1 4
    go_wp2
    refine hK.out _ _ ?_
    clear hK K
    clear m4 f4
    have hm:=Lib.hid (And.intro (mset_cur HM.out.1 (c.C + c.N)) (HM.out.2.setCell (p:=⟨P.mb,4,none⟩) hBm (.int .i64 (c.C + c.N))))
    clear HM
    have HM:=hm
    clear hm
    generalize World.setCell _ _ _ = w4 at *
    have m4:=mcell HM.out.1 4 (by omega)
    simp only [mF] at m4
    have k9:=kcell HM.out.1 hz 9 (by omega)
    simp only [kF,Nat.add_zero] at k9
    have f9:=kfroz HM.out.1 (P.o + 9)
    refine wp_cut fun K hK=>?_
    go_wp2
    refine hK.out _ _ ?_
    clear hK K
    clear m4 k9 f9
    have hm:=Lib.hid (And.intro (kset (c':={ c with Ph:=1,last:=c.C + c.N }) HM.out.1 9 (.int .i64 (c.C + c.N)) (by omega) rfl (fun j hj=>by rcases j with _ | _ | _ | _ | _ | _ | _ | _ | _ | _ | _ | j <;> first | rfl | omega)) (HM.out.2.setCell (p:=⟨P.kb,P.o + 9,none⟩) hB (.int .i64 (c.C + c.N))))
    clear HM
    have HM:=hm
    clear hm
    generalize World.setCell _ _ _ = w5 at *
    have k8:=kcell HM.out.1 hz 8 (by omega)
    simp only [kF,Nat.add_zero] at k8
    have f8:=kfroz HM.out.1 (P.o + 8)
    go_wp2
    go_end0
    exact ⟨rfl,.here (vL:=vL) ⟨kset (c':={ c with Ph:=1,last:=c.C + c.N,done:=true }) HM.out.1 8 (.bool true) (by omega) rfl (fun j hj=>by rcases j with _ | _ | _ | _ | _ | _ | _ | _ | _ | _ | _ | j <;> first | rfl | omega),HM.out.2.setCell hB (.bool true)⟩⟩
  · have d1 : (s.cur == c.C) = false:=by simpa using he
    rw [if_neg he]
    go_wp2
    go_end0
    exact ⟨rfl,.here HM.out⟩
end
end Go.Proofs.Ytoepekcheapgmaa
