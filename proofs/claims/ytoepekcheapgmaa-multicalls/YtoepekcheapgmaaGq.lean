/- DERIVED. The statement MultiCalls: what is handed in; the statement's world begun. -/
import Derived.Test.YtoepekcheapgmaaGp
import Derived.Test.YtoepekcheapgmaaGo
import Derived.Test.YtoepekcheapgmaaGk
import Derived.Test.YtoepekcheapgmaaGh
set_option linter.unusedVariables false
set_option linter.unusedSectionVars false
set_option linter.unusedSimpArgs false
namespace Go.Proofs.Ytoepekcheapgmaa
open Go.RowKit Go.Turn Go.Tame Go.Conc
theorem wrap_next (k : Nat) : IntKind.wrap .i64 (IntKind.wrap .i64 (k : Int) + 1) = IntKind.wrap .i64 ((k + 1 : Nat) : Int):=by
  simp only [IntKind.wrap_i64]; omega
def mcX (c hb : Nat) (B : Nat) (vH : Value) (nums : List Int) : Stepper where
  v:=.iface 83 (.pointer (some ⟨c,0,none⟩))
  own:=fun b=>b = c∨b = hb∨vH.ownBlock = some b
  at_:=fun k w=>Blk w c 85 #[.int .i64 (IntKind.wrap .i64 k)]∧Blk w hb 67 #[vH]∧(numsRow 2 vH nums).At B w∧c≠hb∧vH.ownBlock≠some c
  keep:=fun h hk hz=>⟨h.1.kept hk (hz _ (.inl rfl)),h.2.1.kept hk (hz _ (.inr (.inl rfl))),h.2.2.1.same fun b hb=>hk.block b (World.ownsRow.lt h.2.2.1 b hb).2 (hz _ (.inr (.inr hb))),h.2.2.2⟩
  old:=fun h e=>by
    rcases e with rfl | rfl | e
    · exact h.1.lt
    · exact h.2.1.lt
    · exact (World.ownsRow.lt h.2.2.1 _ e).2
theorem mcX_one (c k : Nat) (w : World) (h : Blk w c 85 #[.int .i64 (IntKind.wrap .i64 k)]) : Calls Try.prog 129 #[.pointer (some ⟨c,0,none⟩)] w fun e w'=>e = .returned (.tuple #[])∧w.setCell ⟨c,0,none⟩ (.int .i64 (IntKind.wrap .i64 ((k + 1 : Nat) : Int))) = w':=by
  have hc:=h.cell 0
  have hf:=h.frozen 0
  rw [← wrap_next]
  simp only [List.getElem?_toArray,List.getElem?_cons_zero] at hc
  generalize IntKind.wrap .i64 (k : Int) = x at *
  clear h
  go_enter Try.func129,Try.ntmps129
  go_wp2
  go_end0
  exact ⟨rfl,by rw [IntWalk.i64_left]⟩
section
variable {c hb B : Nat} {vH : Value} {nums : List Int}
theorem mcX_next {k : Nat} {w : World} (h : (mcX c hb B vH nums).at_ k w) : (mcX c hb B vH nums).at_ (k + 1) (w.setCell ⟨c,0,none⟩ (.int .i64 (IntKind.wrap .i64 ((k + 1 : Nat) : Int))))∧Kept (mcX c hb B vH nums).own w (w.setCell ⟨c,0,none⟩ (.int .i64 (IntKind.wrap .i64 ((k + 1 : Nat) : Int))))∧(w.setCell ⟨c,0,none⟩ (.int .i64 (IntKind.wrap .i64 ((k + 1 : Nat) : Int)))).heap.size = w.heap.size:=by
  obtain ⟨h1,h2,h3,h4,h5⟩:=h
  refine ⟨⟨h1.set_ 0 _,h2.far (Ne.symm h4) _,h3.same fun b hb=>Below.heap_setCell _ _ _ _ fun e=>?_,h4,h5⟩,Kept.setCell _ (.inl rfl) _,by simp [World.setCell]⟩
  have e : b = c:=e
  subst e
  exact h5 hb
theorem mcX_method (n : Nat) (a : Addr) (w : World) : (method (n + 1) 83 (.pointer (some a)) "Step").run Try.prog w = .ok (129,.pointer (some a)) w:=by kernel_rfl
theorem mcH_method (n : Nat) (a : Addr) (w : World) : (method (n + 1) 65 (.pointer (some a)) "Least").run Try.prog w = .ok (127,.pointer (some a)) w:=by kernel_rfl
set_option maxRecDepth 100000 in
theorem mcX_cell : (mcX c hb B vH nums).Steps Try.prog 79:=by
  intro k w h
  have HH:=Lib.hid h
  have hm:=fun wx=>mcX_method 344 ⟨c,0,none⟩ wx
  clear h
  show Calls _ _ #[.iface 83 (.pointer (some ⟨c,0,none⟩))] _ _
  go_enter Try.func79,Try.ntmps79
  go_wp2_with (go_at_call 129; refine (mcX_one _ _ _ HH.out.1).mono ?_; rintro e w' ⟨rfl,rfl⟩)
  go_end0
  exact ⟨rfl,mcX_next HH.out⟩
set_option maxRecDepth 100000 in
theorem mcX_slots : (mcX c hb B vH nums).Steps Try.prog 85:=by
  intro k w h
  have HH:=Lib.hid h
  have hm:=fun wx=>mcX_method 344 ⟨c,0,none⟩ wx
  clear h
  show Calls _ _ #[.iface 83 (.pointer (some ⟨c,0,none⟩))] _ _
  go_enter Try.func85,Try.ntmps85
  go_wp2_with (go_at_call 129; refine (mcX_one _ _ _ HH.out.1).mono ?_; rintro e w' ⟨rfl,rfl⟩)
  go_end0
  exact ⟨rfl,mcX_next HH.out⟩
def toldH (none : Int) : List Int→Int
  | []=>none
  | x :: xs=>xs.foldl min x
theorem toldH_least (c : Int) (l : List Int) : min (toldH c l) c = leastH c l:=by
  have key : ∀ (l : List Int) (x y : Int),min (l.foldl min x) y = l.foldl min (min y x):=by
    intro l
    induction l with
    | nil=>intro x y; exact Int.min_comm x y
    | cons a l ih =>
      intro x y
      show min (l.foldl min (min x a)) y = l.foldl min (min (min y x) a)
      rw [ih,Int.min_assoc]
  cases l with
  | nil=>exact Int.min_self c
  | cons x xs=>exact key xs x c
theorem toldH_snoc (c : Int) (l : List Int) (x : Int) : toldH c (l ++ [x]) = if l = [] then x else if x < toldH c l then x else toldH c l:=by
  cases l with
  | nil=>rfl
  | cons a l =>
    rw [if_neg (by simp)]
    show (l ++ [x]).foldl min a = _
    rw [List.foldl_append]
    show min (l.foldl min a) x = if x < l.foldl min a then x else l.foldl min a
    split <;> omega
set_option maxHeartbeats 1000000 in
set_option maxRecDepth 100000 in
theorem least_ok (t : Nat) (w : World) (A : (mcX c hb B vH nums).at_ t w) (cur : Int) (hl : nums.length≤65536) : Calls Try.prog 127 #[.pointer (some ⟨hb,0,none⟩),(mcX c hb B vH nums).v,.int .i64 cur] w fun e w'=>e = .returned (.tuple #[.int .i64 (toldH cur nums),.int .i64 0])∧Kept (mcX c hb B vH nums).own w w'∧w'.heap.size = w.heap.size∧(mcX c hb B vH nums).at_ (t + nums.length) w':=by
  have HA:=Lib.hid A
  obtain ⟨vA,vc,hvH⟩:=own_slice (numsRow_own.1 A.2.2.1)
  have HV:=Lib.hid hvH
  obtain ⟨L,hL⟩ : ∃ L,L = nums.length:=⟨_,rfl⟩
  rw [← hL] at hl
  have HL:=Lib.hid hL
  have hm:=fun wx=>mcX_method 344 ⟨c,0,none⟩ wx
  clear A hvH hL
  show Calls _ _ #[_,.iface 83 (.pointer (some ⟨c,0,none⟩)),_] _ _
  go_enter Try.func127,Try.ntmps127
  go_wp2
  go_loopw [8,9] (fun n i wr=>∃ j : Nat,j≤L∧i = .int .i64 j∧n = .int .i64 (toldH cur (nums.take j))∧Kept (mcX c hb B vH nums).own w wr∧wr.heap.size = w.heap.size∧(mcX c hb B vH nums).at_ (t + j) wr) (fun _ i _=>L - (intOf i).toNat)
  case atStart=>exact ⟨0,Nat.zero_le _,rfl,rfl,Kept.refl _ _,rfl,HA.out⟩
  case round =>
    obtain ⟨j,hj,rfl,rfl,hk,hz,ha⟩:=hrel
    have H1:=Lib.hid (And.intro hk (And.intro hz ha))
    have b0 : wr.cell? ⟨hb,0,none⟩ = some (.slice vA L vc):=by rw [ha.2.1.cell 0,HL.out]; exact congrArg some HV.out
    clear hk hz ha
    by_cases hlt : j < L
    · obtain ⟨x,hx⟩ : ∃ x,x = nums.getD j 0:=⟨_,rfl⟩
      have htk : nums.take (j + 1) = nums.take j ++ [x]:=by
        rw [List.take_add_one,List.getElem?_eq_getElem (by have:=HL.out; omega),hx,List.getD_eq_getElem?_getD,List.getElem?_eq_getElem (by have:=HL.out; omega)]
        rfl
      have htn : nums.take j = [] ↔ j = 0:=by
        have:=HL.out
        constructor
        · intro h
          have:=congrArg List.length h
          rw [List.length_take] at this
          simp only [List.length_nil] at this
          omega
        · rintro rfl; rfl
      have HTS:=Lib.hid (show toldH cur (nums.take (j + 1)) = if j = 0 then x else if x < toldH cur (nums.take j) then x else toldH cur (nums.take j) by
        rw [htk,toldH_snoc]
        by_cases e : j = 0
        · rw [if_pos e,if_pos (htn.2 e)]
        · rw [if_neg e,if_neg (fun z=>e (htn.1 z))])
      obtain ⟨n0,hn0⟩ : ∃ n0,n0 = toldH cur (nums.take j):=⟨_,rfl⟩
      rw [← hn0] at HTS ⊢
      have HX:=Lib.hid hx
      clear htk htn hx hn0
      refine wp_cut fun K2 hK2=>?_
      go_wp2
      refine hK2.out _ _ ?_
      clear hK2 K2
      refine wp_cut fun K3 hK3=>?_
      refine wp_block ?_
      refine wp_cut fun K hK=>?_
      go_wp2_with (go_at_call 129; refine (mcX_one _ _ _ H1.out.2.2.1).mono ?_; rintro e w2 ⟨rfl,hw2⟩)
      refine hK.out _ _ ?_
      clear hK K b0
      have hn:=mcX_next H1.out.2.2
      rw [hw2] at hn
      have H2:=Lib.hid (And.intro (H1.out.1.trans hn.2.1) (And.intro (hn.2.2.trans H1.out.2.1) hn.1))
      clear hn hw2
      obtain ⟨g,cp,hgv,hcp,hcm⟩:=row_slice H2.out.2.2.2.2.1 (by have:=HL.out; omega)
      have b0 : w2.cell? ⟨hb,0,none⟩ = some (.slice (some ⟨g,0,none⟩) L cp):=by rw [H2.out.2.2.2.1.cell 0,HL.out,← hgv]; rfl
      have bj : w2.cell? ⟨g,j,none⟩ = some (.int .i64 x):=by
        have hr:=H2.out.2.2.2.2.1
        unfold numsRow at hr
        rw [hgv] at hr
        have:=World.ownsRow.cellAt (g:=g) hr j (show j < nums.length * 1 by have:=HL.out; omega)
        rw [this]
        exact (cellsN_get (show j < nums.length * 1 by have:=HL.out; omega)).trans (by rw [HX.out])
      clear hgv
      unfold maxLen at hcm
      by_cases e0 : j = 0
      · subst e0
        go_wp2
        refine hK3.out _ _ ?_
        clear hK3 K3 b0 bj
        go_wp2
        go_roundw
        case rel=>exact ⟨0 + 1,by omega,by go_num,by rw [HTS.out]; simp,H2.out.1,H2.out.2.1,H2.out.2.2⟩
        case measure=>simp [intOf]; omega
      · have d0 : ((j : Int) == 0) = false:=by simpa using e0
        by_cases hx : x < n0
        · have dx : decide (x < n0) = true:=decide_eq_true hx
          have HE:=Lib.hid (And.intro e0 hx)
          clear e0 hx
          go_wp2
          refine hK3.out _ _ ?_
          clear hK3 K3 b0 bj
          go_wp2
          go_roundw
          case rel=>exact ⟨j + 1,by omega,by go_num,by rw [HTS.out,if_neg HE.out.1,if_pos HE.out.2],H2.out.1,H2.out.2.1,H2.out.2.2⟩
          case measure=>simp [intOf]; omega
        · have dx : decide (x < n0) = false:=decide_eq_false hx
          have HE:=Lib.hid (And.intro e0 hx)
          clear e0 hx
          go_wp2
          refine hK3.out _ _ ?_
          clear hK3 K3 b0 bj
          go_wp2
          go_roundw
          case rel=>exact ⟨j + 1,by omega,by go_num,by rw [HTS.out,if_neg HE.out.1,if_neg (Int.not_lt.2 HE.out.2)],H2.out.1,H2.out.2.1,H2.out.2.2⟩
          case measure=>simp [intOf]; omega
    · obtain rfl : j = L:=by omega
      go_wp2
      go_ret2
      rw [List.take_of_length_le (by have:=HL.out; omega)]
      exact ⟨rfl,H1.out.1,H1.out.2.1,by rw [← HL.out]; exact H1.out.2.2⟩
set_option maxHeartbeats 2000000 in
set_option maxRecDepth 100000 in
theorem free_H (I : MIds) (hl : nums.length≤65536) (hd : hb≠I.eb∧hb≠I.mb) : FreeX (mcX c hb B vH nums) I (.iface 65 (.pointer (some ⟨hb,0,none⟩))) (frMc I.n nums) where
  law:=by
    intro t S w h A n hn1 hn2 hcn
    have hp:=h.ring.pos
    have hm:=h.ring.most
    have hc0:=h.c0
    have b0 : w.cell? ⟨I.mb,0,none⟩ = some (.pointer (some ⟨I.rb,0,none⟩)):=h.mul.cell 0
    have b3 : w.cell? ⟨I.mb,3,none⟩ = some (.pointer (some ⟨I.eb,0,none⟩)):=h.mul.cell 3
    have r0:=h.ring.ring
    obtain ⟨st,va,cc,g⟩:=S
    dsimp only at hc0 hcn
    have HH:=Lib.hid h
    have HA:=Lib.hid A
    clear h A
    unfold frMc
    dsimp only
    by_cases hg : cc + n - I.n≤g
    · rw [if_pos hg]
      have d1 : decide (cc + n - (I.n : Int)≤g) = true:=decide_eq_true hg
      clear hg
      go_enter Try.func50,Try.ntmps50
      go_wp2_with (go_at_call 23; refine (multi_sizeM _ _ _ _ _ _ b0 r0).mono ?_; rintro e w' ⟨rfl,hw'⟩; subst hw')
      refine (wload_x (mcX c hb B vH nums) mcX_cell t I.eb g _ HH.out.sw (fun z=>(HH.out.own _ z).2.2.2.2 rfl) HA.out).mono ?_
      rintro e w1 ⟨rfl,k1,z1,a1⟩
      have H1:=Lib.hid (And.intro k1 (And.intro z1 a1))
      clear k1 z1 a1
      go_wp2
      go_ret
      exact ⟨rfl,HH.out.step H1.out.1,H1.out.1.mono fun _ _ z=>.inr z,H1.out.2.1,H1.out.2.2⟩
    · rw [if_neg hg]
      have d1 : decide (cc + n - (I.n : Int)≤g) = false:=decide_eq_false hg
      clear hg
      obtain ⟨td,htd⟩ : ∃ td,td = toldH cc nums:=⟨_,rfl⟩
      have hmn : (if cc < td then cc else td) = leastH cc nums:=by
        rw [← toldH_least,← htd]
        split <;> omega
      obtain ⟨ls,hls⟩ : ∃ ls,ls = leastH cc nums:=⟨_,rfl⟩
      rw [← hls] at hmn ⊢
      have HTD:=Lib.hid htd
      clear htd hls
      have hmt:=fun wx=>mcH_method 344 ⟨hb,0,none⟩ wx
      go_enter Try.func50,Try.ntmps50
      go_wp2_with (go_at_call 23; refine (multi_sizeM _ _ _ _ _ _ b0 r0).mono ?_; rintro e w' ⟨rfl,hw'⟩; subst hw')
      refine (wload_x (mcX c hb B vH nums) mcX_cell t I.eb g _ HH.out.sw (fun z=>(HH.out.own _ z).2.2.2.2 rfl) HA.out).mono ?_
      rintro e w1 ⟨rfl,k1,z1,a1⟩
      have H1:=Lib.hid (And.intro k1 (And.intro z1 (And.intro a1 (HH.out.step k1))))
      clear k1 z1 a1 b0 b3 r0
      go_wp2_with fail
      have hlo:=least_ok (t + 1) w1 H1.out.2.2.1 cc hl
      rw [← HTD.out] at hlo
      refine hlo.mono ?_
      clear hlo
      rintro e w2 ⟨rfl,k2,z2,a2⟩
      have m2:=H1.out.2.2.2.step k2
      have b3 : w2.cell? ⟨I.mb,3,none⟩ = some (.pointer (some ⟨I.eb,0,none⟩)):=m2.mul.cell 3
      have H2:=Lib.hid (And.intro (H1.out.1.trans k2) (And.intro (z2.trans H1.out.2.1) (And.intro a2 m2)))
      clear k2 z2 a2 m2 H1
      go_wp2_with fail
      refine (wstore_x (mcX c hb B vH nums) mcX_cell (t + 1 + nums.length) I.eb ls g _ H2.out.2.2.2.sw (fun z=>(HH.out.own _ z).2.2.2.2 rfl) H2.out.2.2.1).mono ?_
      rintro e w3 ⟨rfl,s3,k3,z3,a3⟩
      have H3:=Lib.hid (And.intro s3 (And.intro k3 (And.intro z3 a3)))
      clear s3 k3 z3 a3 b3
      go_wp2
      go_ret
      obtain ⟨k2,z2,a2,m2⟩:=H2.out
      obtain ⟨s3,k3,z3,a3⟩:=H3.out
      have no : ∀ b,b≠I.eb→¬ (mcX c hb B vH nums).own b→¬ (b = I.eb∨(mcX c hb B vH nums).own b):=fun b h1 h2 z=>z.elim h1 h2
      have o:=m2.own
      refine ⟨rfl,⟨m2.mul.kept k3 (no _ m2.d3.1.symm fun z=>(o _ z).1 rfl),m2.ring.kept k3 (no _ m2.d3.2.symm fun z=>(o _ z).2.1 rfl) (no _ m2.d1.2.2 fun z=>(o _ z).2.2.1 rfl),m2.cw.kept k3 (no _ m2.d2.2.1 fun z=>(o _ z).2.2.2.1 rfl),s3,m2.d1,m2.d2,m2.d3,o,m2.f0,m2.f1,m2.c0,m2.c1⟩,(k2.mono fun _ _ z=>.inr z).trans k3,z3.trans z2,?_⟩
      rw [show t + (nums.length + 2) = t + 1 + nums.length + 1 by omega]
      exact a3
end
theorem Mems.turn {ρ : Type} [DecidableEq ρ] {B : Nat} {R R' : ρ→Option Row} {w w' : World} (h : Mems B R w) (hR : ∀ r d,R' r = some d→(∃ d0,R r = some d0∧d0.v = d.v)∧d.At B w') : Mems B R' w':=by
  obtain ⟨lab,k⟩:=h.ex
  refine ⟨lab,fun r d hr=>?_⟩
  obtain ⟨⟨d0,h0,hv⟩,ha⟩:=hR r d hr
  exact ⟨ha,fun b hb=>(k r d0 h0).2 b (by rw [hv]; exact hb)⟩
theorem Mems.apart {ρ : Type} [DecidableEq ρ] {B : Nat} {R : ρ→Option Row} {w : World} (h : Mems B R w) {r r' : ρ} {d d' : Row} {b : Nat} (hr : R r = some d) (hr' : R r' = some d') (hb : d.v.ownBlock = some b) (hb' : d'.v.ownBlock = some b) : r = r':=by
  obtain ⟨lab,k⟩:=h.ex
  have l1:=(k r d hr).2 b hb
  have l2:=(k r' d' hr').2 b hb'
  rw [l1] at l2
  exact Option.some.inj l2
def boxRow (t : TypeId) (b : Nat) (v : Value) : Row:=⟨t,1,.slice (some ⟨b,0,none⟩) 1 1,1,fun _=>v⟩
theorem boxRow_v (t : TypeId) (b : Nat) (v : Value) : (boxRow t b v).v = .slice (some ⟨b,0,none⟩) 1 1:=rfl
theorem boxRow_at {t : TypeId} {b B : Nat} {v : Value} {w : World} : (boxRow t b v).At B w ↔ Blk w b t #[v]∧B≤b:=by
  constructor
  · intro h
    rcases h.2 with ⟨h1,_⟩ | ⟨g,cap,cur,h1,h2,h3,h4,h5,h6,h7⟩
    · cases h1
    · cases h1
      refine ⟨?_,h2⟩
      have e : cur = #[v]:=by
        apply Array.ext'
        have h7' : cur.toList.take 1 = [v]:=h7
        have h6' : cur.size = 1 * 1:=h6
        have hs : cur.toList.length = 1:=by rw [Array.length_toList]; omega
        rw [List.take_of_length_le (by omega)] at h7'
        exact h7'
      rw [e] at h3
      exact h3
  · rintro ⟨h1,h2⟩
    exact row_box h1 h2 (fun _=>v) fun j hj=>by
      have : j = 0:=by simpa using hj
      subst this
      rfl
def extX (P : Pl13) (xb hb : Nat) (vH : Value) (nums : List Int) (cn : Option (Nat × Nat)) (ri : (Nat→Option Row)) : Nat→Option Row
  | 0=>some (xRow P xb)
  | 1=>some (boxRow 67 hb vH)
  | 2=>some (numsRow 2 vH nums)
  | 3=>cn.map fun x=>boxRow 85 x.1 (.int .i64 (IntKind.wrap .i64 x.2))
  | i + 4=>ri i
structure McP where
  I : MIds
  P : Pl13
  B : Nat
  xb : Nat
  hb : Nat
  vH : Value
  n_ : P.n = I.n
  f_ : P.fs = I.first
  lt : I.mb < B∧I.rb < B∧I.gb < B∧I.cb < B∧I.eb < B
  mb : B≤P.mb
  B0 : Nat
  lo : B0≤I.mb∧B0≤I.rb∧B0≤I.gb∧B0≤I.cb∧B0≤I.eb∧B0≤B
abbrev McP.R (M : McP) (S : MulS) (u : Who13) (cn : Option (Nat × Nat)) (ri : (Nat→Option Row)) : Rn13→Option Row:=mcR M.P S u (extX M.P M.xb M.hb M.vH u.num cn ri)
theorem extX_count (P : Pl13) (xb hb : Nat) (vH : Value) (nums : List Int) (ri : (Nat→Option Row)) (a b : Option (Nat × Nat)) : ∀ i : Nat,i≠3→extX P xb hb vH nums a ri i = extX P xb hb vH nums b ri i
  | 0,_=>rfl
  | 1,_=>rfl
  | 2,_=>rfl
  | 3,h=>absurd rfl h
  | i + 4,_=>rfl
theorem mulR_eq {P : Pl13} {S : MulS} {E E' : Rn13→Option Row} {r : Rn13} (h : E r = E' r) : mulR P S E r = mulR P S E' r:=by
  cases r <;> first | rfl | exact h
theorem whoR_eq {P : Pl13} {u : Who13} {E E' : Rn13→Option Row} {r : Rn13} (h : E r = E' r) : whoR P u E r = whoR P u E' r:=by
  cases r <;> first | rfl | exact h
theorem xR_eq {X X' : Nat→Option Row} {r : Rn13} (h : ∀ i,r = .X i→X i = X' i) : xR X r = xR X' r:=by
  cases r <;> first | rfl | exact h _ rfl
theorem McP.R_count (M : McP) (S : MulS) (u : Who13) (ri : (Nat→Option Row)) (a b : Option (Nat × Nat)) (r : Rn13) (h : r≠.X 3) : M.R S u a ri r = M.R S u b ri r:=
  mulR_eq (whoR_eq (xR_eq fun i e=>extX_count _ _ _ _ _ _ _ _ i fun z=>h (by rw [e,z])))
structure McS (M : McP) (S : MulS) (u : Who13) (cn : Option (Nat × Nat)) (ri : (Nat→Option Row)) (w : World) : Prop where
  mx : MulX M.I S (fun _=>False) w
  mem : Mems M.B (M.R S u cn ri) w
structure McU (u : Who13) : Prop where
  all : AllIn u
  len : u.num.length≤4
section
variable {M : McP} {S : MulS} {u : Who13} {cn : Option (Nat × Nat)} {ri : (Nat→Option Row)} {w w' : World}
theorem McU.mem (h : McU u) : ∀ x ∈ u.mem,0≤x∧x < u.num.length:=fun x hx=>by
  rw [h.all.mem] at hx
  obtain ⟨i,hi,rfl⟩:=List.mem_map.1 hx
  have:=List.mem_range.1 hi
  exact ⟨Int.natCast_nonneg i,by show (i : Int) < _; omega⟩
theorem McU.mlen (h : McU u) : u.mem.length≤65536:=by
  have:=h.len
  rw [h.all.mem]
  simp
  omega
theorem McS.ok (h : McS M S u cn ri w) : M.P.Ok S:=⟨M.n_ ▸ h.mx.ring.pos,M.n_ ▸ h.mx.ring.most,M.f_ ▸ h.mx.f0,M.f_ ▸ h.mx.f1,h.mx.c0,h.mx.c1⟩
theorem McS.hold (h : McS M S u cn ri w) : Blk w M.hb 67 #[M.vH]∧M.B≤M.hb:=boxRow_at.1 (h.mem.at_ (r:=.X 1) rfl)
theorem McS.kept (h : McS M S u cn ri w) (k : Kept (fun _=>False) w w') : McS M S u cn ri w':=⟨h.mx.kept k id id id id id,h.mem.same fun b hb=>k.block b hb id⟩
theorem McS.size (h : McS M S u cn ri w) : M.B≤w.heap.size:=by have:=h.hold.1.lt; have:=h.hold.2; omega
theorem McS.row (h : McS M S u cn ri w) (k : Kept (fun _=>False) w w') (i : Nat) (d : Row) (hd : d.At M.B w') (hv : ∀ b,d.v.ownBlock = some b→w.heap.size≤b) : McS M S u cn (fun j=>if j = i then some d else ri j) w':=by
  refine ⟨h.mx.kept k id id id id id,h.mem.new (r:=.X (i + 4)) (d':=d) (by show (if i = i then some d else ri i) = some d; rw [if_pos rfl]) (fun r hr=>?_) (fun b hb=>k.block b hb id) hd hv⟩
  refine mulR_eq (whoR_eq (xR_eq fun j e=>?_))
  subst e
  rcases j with _ | _ | _ | _ | j
  · rfl
  · rfl
  · rfl
  · rfl
  · exact if_neg fun e=>hr (by rw [e])
theorem McS.count (h : McS M S u none ri w) (k : Kept (fun _=>False) w w') {c : Nat} (hc : w.heap.size≤c) (hb : Blk w' c 85 #[.int .i64 0]) : McS M S u (some (c,0)) ri w':=by
  refine ⟨h.mx.kept k id id id id id,h.mem.new (r:=.X 3) (d':=boxRow 85 c (.int .i64 (IntKind.wrap .i64 ((0 : Nat) : Int)))) rfl (fun r hr=>?_) (fun b hb=>k.block b hb id) ?_ (fun b hb=>by cases hb; exact hc)⟩
  · cases r with
    | X i=>rcases i with _ | _ | _ | _ | i <;> first | rfl | exact absurd rfl hr
    | _=>rfl
  · refine boxRow_at.2 ⟨?_,by have:=h.size; omega⟩
    rw [show IntKind.wrap .i64 ((0 : Nat) : Int) = 0 by simp [IntKind.wrap_i64]]
    exact hb
theorem McS.uncount (h : McS M S u cn ri w) : McS M S u none (fun _=>none) w:=by
  refine ⟨h.mx,h.mem.mono fun r d hr=>?_⟩
  cases r with
  | X i=>rcases i with _ | _ | _ | _ | i <;> first | exact hr | cases hr
  | _=>exact hr
theorem McS.counter {c k : Nat} (h : McS M S u (some (c,k)) ri w) : Blk w c 85 #[.int .i64 (IntKind.wrap .i64 k)]∧M.B≤c:=boxRow_at.1 (h.mem.at_ (r:=.X 3) rfl)
abbrev McP.X (M : McP) (u : Who13) (c : Nat) : Stepper:=mcX c M.hb M.B M.vH u.num
theorem McS.at_ {c k : Nat} (h : McS M S u (some (c,k)) ri w) : (M.X u c).at_ k w:=by
  refine ⟨h.counter.1,h.hold.1,h.mem.at_ (r:=.X 2) rfl,fun e=>?_,fun e=>?_⟩
  · have:=h.mem.apart (r:=.X 3) (r':=.X 1) (b:=c) rfl rfl rfl (by rw [e]; rfl)
    cases this
  · have:=h.mem.apart (r:=.X 3) (r':=.X 2) (b:=c) rfl rfl rfl e
    cases this
theorem McS.owns {c k : Nat} (h : McS M S u (some (c,k)) ri w) (b : Nat) (hb : (M.X u c).own b) : M.B≤b:=by
  rcases hb with rfl | rfl | e
  · exact h.counter.2
  · exact h.hold.2
  · exact (h.mem.lt (r:=.X 2) rfl e).1
theorem McS.mulX {c k : Nat} (h : McS M S u (some (c,k)) ri w) : MulX M.I S (M.X u c).own w:=by
  have hx:=h.mx
  refine ⟨hx.mul,hx.ring,hx.cw,hx.sw,hx.d1,hx.d2,hx.d3,fun b hb=>?_,hx.f0,hx.f1,hx.c0,hx.c1⟩
  have h1:=h.owns b hb
  obtain ⟨l1,l2,l3,l4,l5⟩:=M.lt
  exact ⟨by omega,by omega,by omega,by omega,by omega⟩
theorem McS.behind {c k k' : Nat} {S' : MulS} (h : McS M S u (some (c,k)) ri w) (hm : MulX M.I S' (M.X u c).own w') (hk : Kept (OutM M.I (M.X u c).own) w w') (ha : (M.X u c).at_ k' w') : MulX M.I S' (fun _=>False) w'∧Mems M.B (M.R S u (some (c,k')) ri) w':=by
  refine ⟨⟨hm.mul,hm.ring,hm.cw,hm.sw,hm.d1,hm.d2,hm.d3,fun _ z=>z.elim,hm.f0,hm.f1,hm.c0,hm.c1⟩,h.mem.turn fun r d hr=>?_⟩
  have far : ∀ (d0 : Row),M.R S u (some (c,k)) ri r = some d0→(r≠.X 1∧r≠.X 2∧r≠.X 3)→d0.At M.B w':=fun d0 h0 hr3=>(h.mem.at_ h0).same fun b hb=>hk.block b (h.mem.lt h0 hb).2 fun z=>by
    have hB:=(h.mem.lt h0 hb).1
    obtain ⟨l1,l2,l3,l4,l5⟩:=M.lt
    rcases z with rfl | rfl | rfl | rfl | rfl | z
    · omega
    · omega
    · omega
    · exact hr3.2.2 (h.mem.apart (r':=.X 3) h0 rfl hb rfl)
    · exact hr3.1 (h.mem.apart (r':=.X 1) h0 rfl hb rfl)
    · exact hr3.2.1 (h.mem.apart (r':=.X 2) h0 rfl hb z)
  by_cases e1 : r = .X 1
  · subst e1
    have hd : d = boxRow 67 M.hb M.vH:=(Option.some.inj hr).symm
    subst hd
    exact ⟨⟨_,rfl,rfl⟩,boxRow_at.2 ⟨ha.2.1,h.hold.2⟩⟩
  by_cases e2 : r = .X 2
  · subst e2
    have hd : d = numsRow 2 M.vH u.num:=(Option.some.inj hr).symm
    subst hd
    exact ⟨⟨_,rfl,rfl⟩,ha.2.2.1⟩
  by_cases e3 : r = .X 3
  · subst e3
    have hd : d = boxRow 85 c (.int .i64 (IntKind.wrap .i64 k')):=(Option.some.inj hr).symm
    subst hd
    exact ⟨⟨boxRow 85 c (.int .i64 (IntKind.wrap .i64 k)),rfl,(boxRow_v _ _ _).trans (boxRow_v _ _ _).symm⟩,boxRow_at.2 ⟨ha.1,h.counter.2⟩⟩
  rw [McP.R_count M S u ri _ (some (c,k)) r e3] at hr
  exact ⟨⟨d,hr,rfl⟩,far d hr ⟨e1,e2,e3⟩⟩
theorem McS.after (hm : MulX M.I S (fun _=>False) w) (hb : Below M.B w w') (hr : Mems M.B (M.R S u cn ri) w') : McS M S u cn ri w':=by
  obtain ⟨l1,l2,l3,l4,l5⟩:=M.lt
  have hk : Kept (fun b=>M.B≤b) w w':=⟨hb.os,hb.tape,hb.output,hb.size,fun k _ hs=>hb.block k (Nat.lt_of_not_le hs)⟩
  exact ⟨hm.kept hk (Nat.not_le.2 l1) (Nat.not_le.2 l2) (Nat.not_le.2 l3) (Nat.not_le.2 l4) (Nat.not_le.2 l5),hr⟩
end
theorem wrX_steps (st : Nat→Int) (n : Nat) (fs : Int) : ∀ (m : Nat) (q : Int),(wrX st n fs m q).2≤m
  | 0,_=>Nat.le_refl _
  | m + 1,q=>by
    rw [wrX]
    have h1:=wrX_steps st n fs m (q + 1)
    split
    · split
      · exact Nat.succ_le_succ h1
      · exact Nat.le_add_left _ _
    · omega
theorem claimX_steps (n : Nat) (nums : List Int) (fs : Int) (S : MulS) (N : Int) : (claimX (frMc n nums) n fs S N).2.2.2≤nums.length + n + 4:=by
  unfold claimX
  split
  · exact Nat.zero_le _
  · rename_i h1
    have hfr : (frMc n nums S S.cur N).2.2≤nums.length + 2:=by
      unfold frMc
      split
      · exact Nat.le_add_left _ _
      · exact Nat.le_refl _
    have hw:=wrX_steps S.st n fs N.toNat (S.cur + 1 - n)
    split
    · show 1≤_; omega
    · split
      · show 1 + _≤_; omega
      · split
        · show 1 + _ + _ + 1≤_; omega
        · show 1 + _ + _ + 1≤_; omega
theorem offerX_steps (n : Nat) (nums : List Int) (fs : Int) (S : MulS) (vs : List Int) : (offerX (frMc n nums) n fs S vs).2.2.2≤nums.length + 4 * n + 4:=by
  have h:=claimX_steps n nums fs S vs.length
  have hok:=claimX_ok (fr:=frMc n nums) (N:=n) (fs:=fs) (S:=S) (m:=vs.length)
  unfold offerX
  split
  · rename_i h0
    have:=hok h0
    show _ + 3 * _≤_
    omega
  · show (claimX (frMc n nums) n fs S vs.length).2.2.2≤_
    omega
def callF (kd N V : Int) (sv : Value) : Nat→Value
  | 0=>.int .i64 kd
  | 1=>.int .i64 N
  | 2=>.int .i64 V
  | _=>sv
def cbRow (b : Nat) (kd N V : Int) (sv : Value) : Row:=⟨70,4,.slice (some ⟨b,0,none⟩) 1 1,1,callF kd N V sv⟩
abbrev rowsC (b : Nat) (kd N V : Int) (sv : Value) : Nat→Option Row:=fun j=>if j = 1 then some (cbRow b kd N V sv) else none
section
variable {M : McP} {S : MulS} {u : Who13} {w w' : World} {kd N V : Int} {sv : Value}
theorem McS.call (h : McS M S u none (fun _=>none) w) : McS M S u (some (w.heap.size + 1,0)) (rowsC w.heap.size kd N V sv) ((w.alloc (.cells #[.int .i64 kd,.int .i64 N,.int .i64 V,sv] 70)).alloc (.cells #[.int .i64 0] 85)):=by
  have h1:=h.row (Kept.alloc w (.cells #[.int .i64 kd,.int .i64 N,.int .i64 V,sv] 70)) 1 (cbRow w.heap.size kd N V sv) (row_box (Blk.new w 70 #[.int .i64 kd,.int .i64 N,.int .i64 V,sv]) h.size _ fun j hj=>by rcases j with _ | _ | _ | _ | j <;> first | rfl | (simp at hj; omega)) (fun b hb=>by cases hb; exact Nat.le_refl _)
  have h2:=h1.count (Kept.alloc _ (.cells #[.int .i64 0] 85)) (c:=w.heap.size + 1) (by simp) (by
    have:=Blk.new (w.alloc (.cells #[.int .i64 kd,.int .i64 N,.int .i64 V,sv] 70)) 85 #[.int .i64 0]
    rw [World.size_alloc] at this
    exact this)
  exact h2
theorem McS.ccell {b c k : Nat} (h : McS M S u (some (c,k)) (rowsC b kd N V sv) w) (i : Nat) (hi : i < 4) : w.cell? ⟨b,i,none⟩ = some (callF kd N V sv i):=h.mem.cell (r:=.X 5) (e:=70) (sz:=4) (g:=b) (cap:=1) (n:=1) (f:=callF kd N V sv) rfl (by omega)
theorem mccellR {b : Nat} {cn : Option (Nat × Nat)} {ri : Nat→Option Row} (h : Mems M.B (M.R S u cn ri) w) (hr : ri 1 = some (cbRow b kd N V sv)) (i : Nat) (hi : i < 4) : w.cell? ⟨b,i,none⟩ = some (callF kd N V sv i):=h.cell (r:=.X 5) (e:=70) (sz:=4) (g:=b) (cap:=1) (n:=1) (f:=callF kd N V sv) hr (by omega)
theorem mccell {b : Nat} {cn : Option (Nat × Nat)} (h : Mems M.B (M.R S u cn (rowsC b kd N V sv)) w) (i : Nat) (hi : i < 4) : w.cell? ⟨b,i,none⟩ = some (callF kd N V sv i):=mccellR h rfl i hi
theorem mctold {c k : Nat} {ri : Nat→Option Row} (h : Mems M.B (M.R S u (some (c,k)) ri) w) (hk : k < 4611686018427387904) : w.cell? ⟨c,0,none⟩ = some (.int .i64 k):=by
  have:=(boxRow_at.1 (h.at_ (r:=.X 3) (d:=boxRow 85 c (.int .i64 (IntKind.wrap .i64 k))) rfl)).1
  rw [this.cell 0,show IntKind.wrap .i64 (k : Int) = k by rw [IntKind.wrap_i64]; omega]
  rfl
def McDone (M : McP) (S : MulS) (u : Who13) (w w' : World) : Prop:=McS M S u none (fun _=>none) w'∧Below M.B0 w w'
theorem out_below {c k : Nat} {ri : Nat→Option Row} (h : McS M S u (some (c,k)) ri w) (hk : Kept (OutM M.I (M.X u c).own) w w') : Below M.B0 w w':=by
  obtain ⟨l1,l2,l3,l4,l5,l6⟩:=M.lo
  refine hk.to_below (fun b hb=>?_) (by have:=h.size; omega)
  rcases hb with rfl | rfl | rfl | hb
  · exact l4
  · exact l5
  · exact l3
  · have:=h.owns b hb; omega
theorem below_low {B B' : Nat} (h : Below B w w') (hb : B'≤B) : Below B' w w':=⟨h.os,h.tape,h.output,h.size,fun k hk=>h.block k (by omega)⟩
theorem mcdone {S' : MulS} {cn : Option (Nat × Nat)} {ri : Nat→Option Row} (hm : MulX M.I S' (fun _=>False) w) (hb : Below M.B w w') (hr : Mems M.B (M.R S' u cn ri) w') {w0 : World} (h0 : Below M.B0 w0 w) : McDone M S' u w0 w':=
  ⟨(McS.after hm hb hr).uncount,h0.trans (below_low hb M.lo.2.2.2.2.2)⟩
end
section
variable {M : McP} {S : MulS} {u : Who13} {w w' : World}
set_option maxHeartbeats 4000000 in
set_option maxRecDepth 100000 in
theorem call_1 (h : McS M S u none (fun _=>none) w) (hu : McU u) (N V : Int) (A : Option Addr) (L cp : Nat) :
    Calls Try.prog 26 #[.pointer (some ⟨M.xb,0,none⟩),.pointer (some ⟨M.I.mb,0,none⟩),.pointer (some ⟨M.hb,0,none⟩),.agg #[.int .i64 1,.int .i64 N,.int .i64 V,.slice A L cp]] w fun e w'=>e = .returned (.bool true)∧McDone M (claimX (frMc M.I.n u.num) M.I.n M.I.first S N).2.2.1 u w w':=by
  have HU:=Lib.hid hu
  clear hu
  go_enter Try.func26,Try.ntmps26
  have h2:=McS.call (kd:=1) (N:=N) (V:=V) (sv:=.slice A L cp) h
  have hbw : Below M.B0 w ((w.alloc (.cells #[.int .i64 1,.int .i64 N,.int .i64 V,.slice A L cp] 70)).alloc (.cells #[.int .i64 0] 85)):=((Below.refl M.B0 w).alloc (by have:=h.size; have:=M.lo; omega) _).alloc (by have:=h.size; have:=M.lo; rw [World.size_alloc]; omega) _
  have H2:=Lib.hid (And.intro h2 hbw)
  clear h h2 hbw
  refine wp_cut fun K hK=>?_
  go_wp2
  refine hK.out _ _ ?_
  clear hK K
  refine wp_cut fun K hK=>?_
  go_wp2
  refine hK.out _ _ ?_
  clear hK K
  obtain ⟨b7,hb7⟩ : ∃ b7,b7 = w.heap.size:=⟨_,rfl⟩
  obtain ⟨cc,hcc⟩ : ∃ cc,cc = w.heap.size + 1:=⟨_,rfl⟩
  rw [← hcc,← hb7] at H2 ⊢
  clear hcc hb7
  generalize World.alloc _ _ = w2 at *
  have k0:=H2.out.1.ccell 0 (by omega)
  have k1:=H2.out.1.ccell 1 (by omega)
  simp only [callF] at k0 k1
  obtain ⟨x,er,S',k,hr⟩ : ∃ x er S' k,claimX (frMc M.I.n u.num) M.I.n M.I.first S N = (x,er,S',k):=⟨_,_,_,_,rfl⟩
  rw [hr]
  have hk : k < 4611686018427387904:=by
    have:=claimX_steps M.I.n u.num M.I.first S N
    rw [hr] at this
    have h1:=HU.out.len
    have h2:=H2.out.1.mx.ring.most
    dsimp only at this
    omega
  have hcl : Calls Try.prog 18 #[.pointer (some ⟨M.I.mb,0,none⟩),.iface 83 (.pointer (some ⟨cc,0,none⟩)),.iface 65 (.pointer (some ⟨M.hb,0,none⟩)),.int .i64 N] w2 fun e w'=>e = .returned (.tuple #[.int .i64 x,.int .i64 er])∧(MulX M.I S' (fun _=>False) w'∧Mems M.B (M.R S u (some (cc,k)) (rowsC b7 1 N V (.slice A L cp))) w')∧Below M.B0 w2 w':=by
    have:=claim_x (M.X u cc) mcX_cell mcX_slots M.I (free_H M.I (by have:=HU.out.len; omega) ⟨fun e=>by have:=H2.out.1.hold.2; have:=M.lt; omega,fun e=>by have:=H2.out.1.hold.2; have:=M.lt; omega⟩) 0 S w2 H2.out.1.mulX H2.out.1.at_ N
    rw [hr] at this
    refine this.mono ?_
    rintro e w' ⟨e1,m1,k1,z1,a1⟩
    rw [Nat.zero_add] at a1
    exact ⟨e1,H2.out.1.behind m1 k1 a1,out_below H2.out.1 k1⟩
  have hwc : ∀ z,Mems M.B (M.R S u (some (cc,k)) (rowsC b7 1 N V (.slice A L cp))) z→Calls Try.prog 57 #[.pointer (some ⟨M.xb,0,none⟩),.int .i64 N] z fun e w'=>e = .returned (.tuple #[.int .i64 x,.int .i64 er,.int .i64 k])∧Mems M.B (M.R S' u (some (cc,k)) (rowsC b7 1 N V (.slice A L cp))) w'∧Below M.B z w':=fun z hz=>by
    obtain ⟨cF,g1,g2,g3,g4⟩:=claim_goes (n:=M.P.n) (fs:=M.P.fs) HU.out.all S N
    rw [M.n_,M.f_,hr] at g1 g3 g4
    dsimp only at g1 g3 g4
    have:=wclaim_ok (T:=k) hz H2.out.1.ok rfl M.mb N (by rw [M.n_,M.f_]; exact g1) g2 hk HU.out.mem (by have:=HU.out.len; omega) HU.out.mlen
    rw [g3,g4] at this
    exact this
  have HCL:=Lib.hid hcl
  have HWC:=Lib.hid hwc
  clear hcl hwc hr
  go_wp2_with (first | (go_at_call 18; refine HCL.out.mono ?_; rintro e w3 ⟨rfl,m3,b3⟩; have k1b:=mccell m3.2 1 (by omega); simp only [callF] at k1b; have H3:=Lib.hid (And.intro m3 b3); clear m3 b3) | (go_at_call 57; refine (HWC.out _ H3.out.1.2).mono ?_; rintro e w4 ⟨rfl,m4,b4⟩; have kt:=mctold m4 hk; have H4:=Lib.hid (And.intro m4 b4); clear m4 b4))
  go_ret
  exact ⟨by simp,mcdone H3.out.1.1 H4.out.2 H4.out.1 (H2.out.2.trans H3.out.2)⟩
set_option maxHeartbeats 4000000 in
set_option maxRecDepth 100000 in
theorem call_2 (h : McS M S u none (fun _=>none) w) (hu : McU u) (N V : Int) (A : Option Addr) (L cp : Nat) :
    Calls Try.prog 26 #[.pointer (some ⟨M.xb,0,none⟩),.pointer (some ⟨M.I.mb,0,none⟩),.pointer (some ⟨M.hb,0,none⟩),.agg #[.int .i64 2,.int .i64 N,.int .i64 V,.slice A L cp]] w fun e w'=>e = .returned (.bool true)∧McDone M (if GoodQ N then putS S M.I.n N V else S) u w w':=by
  have HU:=Lib.hid hu
  clear hu
  go_enter Try.func26,Try.ntmps26
  have h2:=McS.call (kd:=2) (N:=N) (V:=V) (sv:=.slice A L cp) h
  have hbw : Below M.B0 w ((w.alloc (.cells #[.int .i64 2,.int .i64 N,.int .i64 V,.slice A L cp] 70)).alloc (.cells #[.int .i64 0] 85)):=((Below.refl M.B0 w).alloc (by have:=h.size; have:=M.lo; omega) _).alloc (by have:=h.size; have:=M.lo; rw [World.size_alloc]; omega) _
  have H2:=Lib.hid (And.intro h2 hbw)
  clear h h2 hbw
  refine wp_cut fun K hK=>?_
  go_wp2
  refine hK.out _ _ ?_
  clear hK K
  refine wp_cut fun K hK=>?_
  go_wp2
  refine hK.out _ _ ?_
  clear hK K
  obtain ⟨b7,hb7⟩ : ∃ b7,b7 = w.heap.size:=⟨_,rfl⟩
  obtain ⟨cc,hcc⟩ : ∃ cc,cc = w.heap.size + 1:=⟨_,rfl⟩
  rw [← hcc,← hb7] at H2 ⊢
  clear hcc hb7
  generalize World.alloc _ _ = w2 at *
  have k0:=H2.out.1.ccell 0 (by omega)
  have k1:=H2.out.1.ccell 1 (by omega)
  have k2:=H2.out.1.ccell 2 (by omega)
  simp only [callF] at k0 k1 k2
  obtain ⟨S',er,k,hSk⟩ : ∃ S' er k,(S',er,k) = ((if GoodQ N then putS S M.I.n N V else S),(if GoodQ N then (0 : Int) else 1),(if GoodQ N then 3 else 0)):=⟨_,_,_,rfl⟩
  obtain ⟨hS',hrest⟩:=Prod.mk.inj hSk
  obtain ⟨her,hkk⟩:=Prod.mk.inj hrest
  rw [← hS']
  have hk : k < 4611686018427387904:=by rw [hkk]; split <;> omega
  have hkc : (k : Int) = if GoodQ N then 3 else 0:=by rw [hkk]; split <;> rfl
  have hcl : Calls Try.prog 21 #[.pointer (some ⟨M.I.mb,0,none⟩),.iface 83 (.pointer (some ⟨cc,0,none⟩)),.int .i64 N,.int .i64 V] w2 fun e w'=>e = .returned (.int .i64 er)∧(MulX M.I S' (fun _=>False) w'∧Mems M.B (M.R S u (some (cc,k)) (rowsC b7 2 N V (.slice A L cp))) w')∧Below M.B0 w2 w':=by
    rw [hS',her,hkk]
    by_cases g : GoodQ N
    · rw [if_pos g,if_pos g,if_pos g]
      refine (write_x (M.X u cc) mcX_slots M.I 0 S w2 H2.out.1.mulX H2.out.1.at_ N V g.1 g.2).mono ?_
      rintro e w' ⟨e1,m1,k1,z1,a1⟩
      rw [Nat.zero_add] at a1
      have k1' : Kept (OutM M.I (M.X u cc).own) w2 w':=k1.mono fun b _ z=>z.elim (fun e=>.inr (.inr (.inl e))) fun z=>.inr (.inr (.inr z))
      exact ⟨e1,H2.out.1.behind m1 k1' a1,out_below H2.out.1 k1'⟩
    · rw [if_neg g,if_neg g,if_neg g]
      refine (write_badx (M.X u cc) M.I S w2 H2.out.1.mulX N V g).mono ?_
      rintro e w' ⟨e1,rfl⟩
      exact ⟨e1,⟨H2.out.1.mx,H2.out.1.mem⟩,Below.refl _ _⟩
  have hwc : ∀ z,Mems M.B (M.R S u (some (cc,k)) (rowsC b7 2 N V (.slice A L cp))) z→Calls Try.prog 58 #[.pointer (some ⟨M.xb,0,none⟩),.int .i64 N,.int .i64 V] z fun e w'=>e = .returned (.tuple #[.int .i64 er,.int .i64 k])∧Mems M.B (M.R S' u (some (cc,k)) (rowsC b7 2 N V (.slice A L cp))) w'∧Below M.B z w':=fun z hz=>by
    have:=wwrite_ok hz H2.out.1.ok rfl N V
    rw [M.n_,← her,← hS',← hkc] at this
    exact this
  have HCL:=Lib.hid hcl
  have HWC:=Lib.hid hwc
  clear hcl hwc hSk hS' hrest her hkk hkc
  go_wp2_with (first | (go_at_call 21; refine HCL.out.mono ?_; rintro e w3 ⟨rfl,m3,b3⟩; have k1b:=mccell m3.2 1 (by omega); have k2b:=mccell m3.2 2 (by omega); simp only [callF] at k1b k2b; have H3:=Lib.hid (And.intro m3 b3); clear m3 b3) | (go_at_call 58; refine (HWC.out _ H3.out.1.2).mono ?_; rintro e w4 ⟨rfl,m4,b4⟩; have kt:=mctold m4 hk; have H4:=Lib.hid (And.intro m4 b4); clear m4 b4))
  go_ret
  exact ⟨by simp,mcdone H3.out.1.1 H4.out.2 H4.out.1 (H2.out.2.trans H3.out.2)⟩
set_option maxHeartbeats 4000000 in
set_option maxRecDepth 100000 in
theorem call_5 (h : McS M S u none (fun _=>none) w) (hu : McU u) (N V : Int) (hn0 : -9223372036854775808≤N) (hn1 : N < 9223372036854775808) (A : Option Addr) (L cp : Nat) :
    Calls Try.prog 26 #[.pointer (some ⟨M.xb,0,none⟩),.pointer (some ⟨M.I.mb,0,none⟩),.pointer (some ⟨M.hb,0,none⟩),.agg #[.int .i64 5,.int .i64 N,.int .i64 V,.slice A L cp]] w fun e w'=>e = .returned (.bool true)∧McDone M S u w w':=by
  have HU:=Lib.hid hu
  clear hu
  go_enter Try.func26,Try.ntmps26
  have h2:=McS.call (kd:=5) (N:=N) (V:=V) (sv:=.slice A L cp) h
  have hbw : Below M.B0 w ((w.alloc (.cells #[.int .i64 5,.int .i64 N,.int .i64 V,.slice A L cp] 70)).alloc (.cells #[.int .i64 0] 85)):=((Below.refl M.B0 w).alloc (by have:=h.size; have:=M.lo; omega) _).alloc (by have:=h.size; have:=M.lo; rw [World.size_alloc]; omega) _
  have H2:=Lib.hid (And.intro h2 hbw)
  clear h h2 hbw
  refine wp_cut fun K hK=>?_
  go_wp2
  refine hK.out _ _ ?_
  clear hK K
  refine wp_cut fun K hK=>?_
  go_wp2
  refine hK.out _ _ ?_
  clear hK K
  obtain ⟨b7,hb7⟩ : ∃ b7,b7 = w.heap.size:=⟨_,rfl⟩
  obtain ⟨cc,hcc⟩ : ∃ cc,cc = w.heap.size + 1:=⟨_,rfl⟩
  rw [← hcc,← hb7] at H2 ⊢
  clear hcc hb7
  generalize World.alloc _ _ = w2 at *
  have k0:=H2.out.1.ccell 0 (by omega)
  have k1:=H2.out.1.ccell 1 (by omega)
  simp only [callF] at k0 k1
  obtain ⟨x,k,hr⟩ : ∃ x k,pubX M.I.n S N = (x,k):=⟨_,_,rfl⟩
  have hk : k < 4611686018427387904:=by
    have h1 : (pubX M.I.n S N).2≤1 + M.I.n:=by
      unfold pubX
      have h2:=highR_le (st:=S.st) (n:=M.I.n) (highN M.I.n N S.cur) N
      have h3 : highN M.I.n N S.cur≤M.I.n:=by unfold highN; omega
      split
      · exact Nat.zero_le _
      · split
        · exact Nat.zero_le _
        · split
          · show 1 + _≤_; omega
          · show 1≤_; omega
    rw [hr] at h1
    have h2:=H2.out.1.mx.ring.most
    dsimp only at h1
    omega
  have hcl : Calls Try.prog 20 #[.pointer (some ⟨M.I.mb,0,none⟩),.iface 83 (.pointer (some ⟨cc,0,none⟩)),.int .i64 N] w2 fun e w'=>e = .returned (.int .i64 x)∧(MulX M.I S (fun _=>False) w'∧Mems M.B (M.R S u (some (cc,k)) (rowsC b7 5 N V (.slice A L cp))) w')∧Below M.B0 w2 w':=by
    have:=pub_x (M.X u cc) mcX_cell mcX_slots M.I 0 S w2 H2.out.1.mulX H2.out.1.at_ N hn0 hn1
    rw [hr] at this
    refine this.mono ?_
    rintro e w' ⟨e1,k1,z1,a1⟩
    rw [Nat.zero_add] at a1
    have k1' : Kept (OutM M.I (M.X u cc).own) w2 w':=k1.mono fun b _ z=>.inr (.inr (.inr z))
    exact ⟨e1,H2.out.1.behind (H2.out.1.mulX.step k1) k1' a1,out_below H2.out.1 k1'⟩
  have hwc : ∀ z,Mems M.B (M.R S u (some (cc,k)) (rowsC b7 5 N V (.slice A L cp))) z→Calls Try.prog 60 #[.pointer (some ⟨M.xb,0,none⟩),.int .i64 N] z fun e w'=>e = .returned (.tuple #[.int .i64 x,.int .i64 k])∧Mems M.B (M.R S u (some (cc,k)) (rowsC b7 5 N V (.slice A L cp))) w'∧Below M.B z w':=fun z hz=>by
    have:=wpub_ok hz H2.out.1.ok rfl M.mb N hn0 hn1
    rw [M.n_,hr] at this
    exact this
  have HCL:=Lib.hid hcl
  have HWC:=Lib.hid hwc
  clear hcl hwc hr
  go_wp2_with (first | (go_at_call 20; refine HCL.out.mono ?_; rintro e w3 ⟨rfl,m3,b3⟩; have k1b:=mccell m3.2 1 (by omega); simp only [callF] at k1b; have H3:=Lib.hid (And.intro m3 b3); clear m3 b3) | (go_at_call 60; refine (HWC.out _ H3.out.1.2).mono ?_; rintro e w4 ⟨rfl,m4,b4⟩; have kt:=mctold m4 hk; have H4:=Lib.hid (And.intro m4 b4); clear m4 b4))
  go_ret
  exact ⟨by simp,mcdone H3.out.1.1 H4.out.2 H4.out.1 (H2.out.2.trans H3.out.2)⟩
set_option maxHeartbeats 4000000 in
set_option maxRecDepth 100000 in
theorem call_0 (h : McS M S u none (fun _=>none) w) (kd N V : Int) (hkd : kd < 1∨6 < kd) (A : Option Addr) (L cp : Nat) :
    Calls Try.prog 26 #[.pointer (some ⟨M.xb,0,none⟩),.pointer (some ⟨M.I.mb,0,none⟩),.pointer (some ⟨M.hb,0,none⟩),.agg #[.int .i64 kd,.int .i64 N,.int .i64 V,.slice A L cp]] w fun e w'=>e = .returned (.bool true)∧McDone M S u w w':=by
  go_enter Try.func26,Try.ntmps26
  have h2:=McS.call (kd:=kd) (N:=N) (V:=V) (sv:=.slice A L cp) h
  have hbw : Below M.B0 w ((w.alloc (.cells #[.int .i64 kd,.int .i64 N,.int .i64 V,.slice A L cp] 70)).alloc (.cells #[.int .i64 0] 85)):=((Below.refl M.B0 w).alloc (by have:=h.size; have:=M.lo; omega) _).alloc (by have:=h.size; have:=M.lo; rw [World.size_alloc]; omega) _
  have H2:=Lib.hid (And.intro h2 hbw)
  clear h h2 hbw
  refine wp_cut fun K hK=>?_
  go_wp2
  refine hK.out _ _ ?_
  clear hK K
  refine wp_cut fun K hK=>?_
  go_wp2
  refine hK.out _ _ ?_
  clear hK K
  obtain ⟨b7,hb7⟩ : ∃ b7,b7 = w.heap.size:=⟨_,rfl⟩
  obtain ⟨cc,hcc⟩ : ∃ cc,cc = w.heap.size + 1:=⟨_,rfl⟩
  rw [← hcc,← hb7] at H2 ⊢
  clear hcc hb7
  generalize World.alloc _ _ = w2 at *
  have k0:=H2.out.1.ccell 0 (by omega)
  simp only [callF] at k0
  have d1 : (kd == 1) = false:=by simp; omega
  have d2 : (kd == 2) = false:=by simp; omega
  have d3 : (kd == 3) = false:=by simp; omega
  have d4 : (kd == 4) = false:=by simp; omega
  have d5 : (kd == 5) = false:=by simp; omega
  have d6 : (kd == 6) = false:=by simp; omega
  clear hkd
  go_wp2
  go_ret
  exact ⟨rfl,H2.out.1.uncount,H2.out.2⟩
set_option maxHeartbeats 4000000 in
set_option maxRecDepth 100000 in
theorem call_4 (h : McS M S u none (fun _=>none) w) (hu : McU u) (N V : Int) (A : Option Addr) (L cp : Nat) :
    Calls Try.prog 26 #[.pointer (some ⟨M.xb,0,none⟩),.pointer (some ⟨M.I.mb,0,none⟩),.pointer (some ⟨M.hb,0,none⟩),.agg #[.int .i64 4,.int .i64 N,.int .i64 V,.slice A L cp]] w fun e w'=>e = .returned (.bool true)∧McDone M S u w w':=by
  have HU:=Lib.hid hu
  clear hu
  go_enter Try.func26,Try.ntmps26
  have h2:=McS.call (kd:=4) (N:=N) (V:=V) (sv:=.slice A L cp) h
  have hbw : Below M.B0 w ((w.alloc (.cells #[.int .i64 4,.int .i64 N,.int .i64 V,.slice A L cp] 70)).alloc (.cells #[.int .i64 0] 85)):=((Below.refl M.B0 w).alloc (by have:=h.size; have:=M.lo; omega) _).alloc (by have:=h.size; have:=M.lo; rw [World.size_alloc]; omega) _
  have H2:=Lib.hid (And.intro h2 hbw)
  clear h h2 hbw
  refine wp_cut fun K hK=>?_
  go_wp2
  refine hK.out _ _ ?_
  clear hK K
  refine wp_cut fun K hK=>?_
  go_wp2
  refine hK.out _ _ ?_
  clear hK K
  obtain ⟨b7,hb7⟩ : ∃ b7,b7 = w.heap.size:=⟨_,rfl⟩
  obtain ⟨cc,hcc⟩ : ∃ cc,cc = w.heap.size + 1:=⟨_,rfl⟩
  rw [← hcc,← hb7] at H2 ⊢
  clear hcc hb7
  generalize World.alloc _ _ = w2 at *
  have k0:=H2.out.1.ccell 0 (by omega)
  simp only [callF] at k0
  have key : ∀ z k,Mems M.B (M.R S u (some (cc,k)) (rowsC b7 4 N V (.slice A L cp))) z→z.cell? ⟨M.xb,0,none⟩ = some (.pointer (some ⟨M.P.mb,0,none⟩))∧z.cell? ⟨M.P.mb,4,none⟩ = some (.int .i64 S.cur):=fun z k hz=>⟨xcell hz (fun _=>rfl) rfl 0 (by omega),mcell hz 4 (by omega)⟩
  have hcu : ∀ z,Kept (fun _=>False) w2 z→Calls Try.prog 30 #[.pointer (some ⟨M.I.mb,0,none⟩),.iface 83 (.pointer (some ⟨cc,0,none⟩))] z fun e w'=>e = .returned (.int .i64 S.cur)∧(MulX M.I S (fun _=>False) w'∧Mems M.B (M.R S u (some (cc,1)) (rowsC b7 4 N V (.slice A L cp))) w')∧Below M.B0 w2 w':=fun z hz=>by
    have hs:=H2.out.1.kept hz
    refine (cursor_x (M.X u cc) mcX_cell M.I 0 S z hs.mulX hs.at_).mono ?_
    rintro e w' ⟨e1,k1,z1,a1⟩
    have k1' : Kept (OutM M.I (M.X u cc).own) z w':=k1.mono fun b _ z=>.inr (.inr (.inr z))
    have bz : Below M.B0 w2 z:=hz.to_below (fun b z=>z.elim) (by have:=H2.out.1.size; have:=M.lo; omega)
    exact ⟨e1,hs.behind (hs.mulX.step k1) k1' a1,bz.trans (out_below hs k1')⟩
  have HCU:=Lib.hid hcu
  have HKEY:=Lib.hid key
  clear hcu key
  go_wp2
  rename_i K0 hK0
  refine strictL ?_
  refine wp_region_held (S:=fun w'=>w'.cell? ⟨M.xb,0,none⟩ = some (.pointer (some ⟨M.P.mb,0,none⟩))∧w'.cell? ⟨M.P.mb,4,none⟩ = some (.int .i64 S.cur)) (by kernel_rfl) ?_
  simp only [List.size_toArray,List.length_cons,List.length_nil,Nat.reduceAdd]
  have kd : Kept (fun _=>False) w2 ({ w2 with drawn:=w2.drawn + 1 } : World):=Kept.drewN _ w2 1
  generalize ({ w2 with drawn:=w2.drawn + 1 } : World) = wd at kd ⊢
  have HS:=Lib.hid (HKEY.out wd _ (H2.out.1.kept kd).mem)
  have HKD:=Lib.hid kd
  clear kd k0
  refine rdL 0 19 146 ?_
  refine ⟨_,rfl,rfl,by kernel_rfl,by kernel_rfl,by kernel_rfl,(fun c a w h=>by cases h.1),rfl,HS.out,?_⟩
  apply Exists.intro
  refine ⟨fun wq hw=>?_,?_⟩
  · obtain ⟨hw1,hw2⟩:=hw
    go_simp
    rfl
  simp only [Act.put,List.setIfInBounds_toArray,List.set_cons_zero,List.set_cons_succ]
  refine rdL 1 18 147 ?_
  refine ⟨_,rfl,rfl,by kernel_rfl,by kernel_rfl,by kernel_rfl,(fun c a w h=>by cases h.1),rfl,HS.out,?_⟩
  apply Exists.intro
  refine ⟨fun wq hw=>?_,?_⟩
  · obtain ⟨hw1,hw2⟩:=hw
    go_simp
    rfl
  simp only [Act.put,List.setIfInBounds_toArray,List.set_cons_zero,List.set_cons_succ]
  refine rdL 2 17 148 ?_
  refine ⟨_,rfl,rfl,by kernel_rfl,by kernel_rfl,by kernel_rfl,(fun c a w h=>by cases h.1),rfl,HS.out,?_⟩
  apply Exists.intro
  refine ⟨fun wq hw=>?_,?_⟩
  · obtain ⟨hw1,hw2⟩:=hw
    go_simp
    rfl
  simp only [Act.put,List.setIfInBounds_toArray,List.set_cons_zero,List.set_cons_succ]
  refine rdL 4 16 150 ?_
  refine ⟨_,rfl,rfl,by kernel_rfl,by kernel_rfl,by kernel_rfl,(fun c a w h=>by cases h.1),rfl,HS.out,?_⟩
  apply Exists.intro
  refine ⟨fun wq hw=>?_,?_⟩
  · obtain ⟨hw1,hw2⟩:=hw
    go_simp
    rfl
  simp only [Act.put,List.setIfInBounds_toArray,List.set_cons_zero,List.set_cons_succ]
  refine rdL 5 15 151 ?_
  refine ⟨_,rfl,rfl,by kernel_rfl,by kernel_rfl,by kernel_rfl,(fun c a w h=>by cases h.1),rfl,HS.out,?_⟩
  apply Exists.intro
  refine ⟨fun wq hw=>?_,?_⟩
  · obtain ⟨hw1,hw2⟩:=hw
    go_simp
    rfl
  simp only [Act.put,List.setIfInBounds_toArray,List.set_cons_zero,List.set_cons_succ]
  refine rdL 6 14 152 ?_
  refine ⟨_,rfl,rfl,by kernel_rfl,by kernel_rfl,by kernel_rfl,(fun c a w h=>by cases h.1),rfl,HS.out,?_⟩
  apply Exists.intro
  refine ⟨fun wq hw=>?_,?_⟩
  · obtain ⟨hw1,hw2⟩:=hw
    go_simp
    rfl
  simp only [Act.put,List.setIfInBounds_toArray,List.set_cons_zero,List.set_cons_succ]
  refine rdL 7 13 153 ?_
  refine ⟨_,rfl,rfl,by kernel_rfl,by kernel_rfl,by kernel_rfl,(fun c a w h=>by cases h.1),rfl,HS.out,?_⟩
  apply Exists.intro
  refine ⟨fun wq hw=>?_,?_⟩
  · obtain ⟨hw1,hw2⟩:=hw
    go_simp
    rfl
  simp only [Act.put,List.setIfInBounds_toArray,List.set_cons_zero,List.set_cons_succ]
  refine rdL 8 12 154 ?_
  refine ⟨_,rfl,rfl,by kernel_rfl,by kernel_rfl,by kernel_rfl,(fun c a w h=>by cases h.1),rfl,HS.out,?_⟩
  apply Exists.intro
  refine ⟨fun wq hw=>?_,?_⟩
  · obtain ⟨hw1,hw2⟩:=hw
    go_simp
    rfl
  simp only [Act.put,List.setIfInBounds_toArray,List.set_cons_zero,List.set_cons_succ]
  refine rdL 9 11 155 ?_
  refine ⟨_,rfl,rfl,by kernel_rfl,by kernel_rfl,by kernel_rfl,(fun c a w h=>by cases h.1),rfl,HS.out,?_⟩
  apply Exists.intro
  refine ⟨fun wq hw=>?_,?_⟩
  · obtain ⟨hw1,hw2⟩:=hw
    go_simp
    rfl
  simp only [Act.put,List.setIfInBounds_toArray,List.set_cons_zero,List.set_cons_succ]
  refine rdL 10 10 156 ?_
  refine ⟨_,rfl,rfl,by kernel_rfl,by kernel_rfl,by kernel_rfl,(fun c a w h=>by cases h.1),rfl,HS.out,?_⟩
  apply Exists.intro
  refine ⟨fun wq hw=>?_,?_⟩
  · obtain ⟨hw1,hw2⟩:=hw
    go_simp
    rfl
  simp only [Act.put,List.setIfInBounds_toArray,List.set_cons_zero,List.set_cons_succ]
  refine oneL (i:=3) (fuel:=9) (by kernel_rfl) rfl rfl fun K' hK'=>?_
  unfold Oper.wp
  go_simp
  refine (HCU.out _ HKD.out).mono ?_
  rintro e w4 ⟨rfl,m4,b4⟩
  dsimp only
  refine hK' _ _ (HKEY.out _ _ m4.2) ?_
  clear hK' K' HS
  have kt:=mctold m4.2 (k:=1) (by omega)
  have H4:=Lib.hid (And.intro m4 b4)
  clear m4 b4
  try simp only [Act.put,List.setIfInBounds_toArray,List.set_cons_zero,List.set_cons_succ]
  refine oneL (i:=11) (fuel:=8) (by kernel_rfl) rfl rfl fun K' hK'=>?_
  unfold Oper.wp
  go_simp
  refine hK' _ _ (HKEY.out _ _ H4.out.1.2) ?_
  clear hK' K'
  try simp only [Act.put,List.setIfInBounds_toArray,List.set_cons_zero,List.set_cons_succ]
  refine oneL (i:=12) (fuel:=7) (by kernel_rfl) rfl rfl fun K' hK'=>?_
  unfold Oper.wp
  go_simp
  refine hK' _ _ (HKEY.out _ _ H4.out.1.2) ?_
  clear hK' K'
  try simp only [Act.put,List.setIfInBounds_toArray,List.set_cons_zero,List.set_cons_succ]
  refine oneL (i:=13) (fuel:=6) (by kernel_rfl) rfl rfl fun K' hK'=>?_
  unfold Oper.wp
  go_simp
  refine hK' _ _ (HKEY.out _ _ H4.out.1.2) ?_
  clear hK' K'
  try simp only [Act.put,List.setIfInBounds_toArray,List.set_cons_zero,List.set_cons_succ]
  refine oneL (i:=14) (fuel:=5) (by kernel_rfl) rfl rfl fun K' hK'=>?_
  unfold Oper.wp
  go_simp
  refine hK' _ _ (HKEY.out _ _ H4.out.1.2) ?_
  clear hK' K'
  try simp only [Act.put,List.setIfInBounds_toArray,List.set_cons_zero,List.set_cons_succ]
  refine oneL (i:=15) (fuel:=4) (by kernel_rfl) rfl rfl fun K' hK'=>?_
  unfold Oper.wp
  go_simp
  refine hK' _ _ (HKEY.out _ _ H4.out.1.2) ?_
  clear hK' K'
  try simp only [Act.put,List.setIfInBounds_toArray,List.set_cons_zero,List.set_cons_succ]
  refine oneL (i:=16) (fuel:=3) (by kernel_rfl) rfl rfl fun K' hK'=>?_
  unfold Oper.wp
  go_simp
  refine hK' _ _ (HKEY.out _ _ H4.out.1.2) ?_
  clear hK' K'
  try simp only [Act.put,List.setIfInBounds_toArray,List.set_cons_zero,List.set_cons_succ]
  refine oneL (i:=17) (fuel:=2) (by kernel_rfl) rfl rfl fun K' hK'=>?_
  unfold Oper.wp
  go_simp
  refine hK' _ _ (HKEY.out _ _ H4.out.1.2) ?_
  clear hK' K'
  try simp only [Act.put,List.setIfInBounds_toArray,List.set_cons_zero,List.set_cons_succ]
  refine oneL (i:=18) (fuel:=1) (by kernel_rfl) rfl rfl fun K' hK'=>?_
  unfold Oper.wp
  go_simp
  refine hK' _ _ (HKEY.out _ _ H4.out.1.2) ?_
  clear hK' K'
  try simp only [Act.put,List.setIfInBounds_toArray,List.set_cons_zero,List.set_cons_succ]
  refine oneL (i:=19) (fuel:=0) (by kernel_rfl) rfl rfl fun K' hK'=>?_
  unfold Oper.wp
  go_simp
  refine hK' _ _ (HKEY.out _ _ H4.out.1.2) ?_
  clear hK' K'
  try simp only [Act.put,List.setIfInBounds_toArray,List.set_cons_zero,List.set_cons_succ]
  refine wpAnyH_done (by kernel_rfl) ⟨rfl,?_⟩ _
  refine hK0 _ _ ?_
  clear hK0 K0
  go_wp2
  go_ret
  refine ⟨by simp,McS.uncount ⟨H4.out.1.1,H4.out.1.2⟩,H2.out.2.trans H4.out.2⟩
end
theorem own_low {w : World} {base base' : Nat} {e : TypeId} {size n : Nat} {v : Value} {xs : List Value} (h : w.ownsRow base e size v n xs) (hb : base'≤base) : w.ownsRow base' e size v n xs:=by
  obtain ⟨h1,h2⟩:=h
  refine ⟨h1,?_⟩
  rcases h2 with h2 | ⟨g,cap,cur,e1,hg,r⟩
  · exact .inl h2
  · exact .inr ⟨g,cap,cur,e1,by omega,r⟩
theorem RdI.ints {B : Nat} {w : World} {A : Option Addr} {vs : List Int} (h : RdI B w A vs) (cp : Nat) (hB : B≤w.heap.size) : IntsAt w (.slice A vs.length cp) vs:=⟨A,cp,rfl,fun i hi=>by
  obtain ⟨b,o,h1,h2,h3⟩:=h i hi
  exact ⟨b,o,h1,by omega,h3⟩⟩
theorem RdI.news {B : Nat} {w : World} {A : Option Addr} {vs : List Int} (h : RdI B w A vs) : ∀ a,A = some a→∀ j v,(vs.map (Value.int .i64))[j]? = some v→w.cell? (a.add j) = some v:=fun a ha j v hv=>by
  have hj : j < vs.length:=by
    rcases Nat.lt_or_ge j vs.length with hlt | hge
    · exact hlt
    · rw [List.getElem?_eq_none (by simpa using hge)] at hv; cases hv
  obtain ⟨b,o,h1,h2,h3⟩:=h j hj
  obtain rfl : a = ⟨b,o,none⟩:=by rw [ha] at h1; exact Option.some.inj h1
  rw [show (⟨b,o,none⟩ : Addr).add j = ⟨b,o + j,none⟩ from by unfold Addr.add; by_cases h4 : j = 0 <;> simp [h4],h3,← hv]
  simp [List.getD_eq_getElem?_getD,hj]
theorem ints_oneC (xs : List Int) : ∀ v ∈ xs.map (Value.int .i64),v.oneCell' = true:=fun v hv=>by
  obtain ⟨x,_,rfl⟩:=List.mem_map.1 hv
  rfl
abbrev rowsO (b : Nat) (kd N V : Int) (sv v1 : Value) (vs : List Int) : Nat→Option Row:=fun j=>if j = 0 then some (numsRow 2 v1 vs) else rowsC b kd N V sv j
theorem rd_of {M : McP} {S : MulS} {u : Who13} {c k : Nat} {ri : Nat→Option Row} {w : World} {A : Option Addr} {cp : Nat} {vs : List Int} (h : McS M S u (some (c,k)) ri w) (hr : ri 0 = some (numsRow 2 (.slice A vs.length cp) vs)) : RdX M.I (M.X u c).own w A vs:=⟨fun i hi=>by
  obtain ⟨g,cap,e,h1,h2⟩:=row_slice (h.mem.at_ (r:=.X 4) hr) (by omega)
  cases e
  refine ⟨g,0,rfl,fun z=>?_,?_⟩
  · have hB:=(h.mem.lt (r:=.X 4) hr (b:=g) rfl).1
    obtain ⟨l1,l2,l3,l4,l5⟩:=M.lt
    rcases z with rfl | rfl | rfl | rfl | rfl | z
    · omega
    · omega
    · omega
    · have:=h.mem.apart (r:=.X 4) (r':=.X 3) (b:=g) hr rfl rfl rfl
      cases this
    · have:=h.mem.apart (r:=.X 4) (r':=.X 1) (b:=M.hb) hr rfl rfl rfl
      cases this
    · have:=h.mem.apart (r:=.X 4) (r':=.X 2) (b:=g) hr rfl rfl z
      cases this
  · have:=h.mem.cell (r:=.X 4) (e:=2) (sz:=1) (g:=g) (cap:=cp) (n:=vs.length) (f:=fun j=>.int .i64 (vs.getD j 0)) hr (j:=i) (by omega)
    rw [Nat.zero_add]
    exact this⟩
section
variable {M : McP} {S : MulS} {u : Who13} {w w' : World}
set_option maxHeartbeats 4000000 in
set_option maxRecDepth 100000 in
theorem call_3 (h : McS M S u none (fun _=>none) w) (hu : McU u) (N V : Int) (A : Option Addr) (cp : Nat) (vs : List Int) (hrd : RdI M.B0 w A vs) (hlc : vs.length≤cp) (hnil : A = none→cp = 0) (hby : vs.length * 8≤140737488355328) :
    Calls Try.prog 26 #[.pointer (some ⟨M.xb,0,none⟩),.pointer (some ⟨M.I.mb,0,none⟩),.pointer (some ⟨M.hb,0,none⟩),.agg #[.int .i64 3,.int .i64 N,.int .i64 V,.slice A vs.length cp]] w fun e w'=>e = .returned (.bool true)∧McDone M (offerX (frMc M.I.n u.num) M.I.n M.I.first S vs).2.2.1 u w w':=by
  have HU:=Lib.hid hu
  obtain ⟨i0,hi0,hz0,hz1,hz2⟩:=info_parts Try.info64b
  obtain ⟨L,hL⟩ : ∃ L,L = vs.length:=⟨_,rfl⟩
  rw [← hL] at hlc hby ⊢
  have HL:=Lib.hid hL
  have HRD:=Lib.hid hrd
  have HNIL:=Lib.hid hnil
  clear hu hL hrd hnil
  go_enter Try.func26,Try.ntmps26
  have h2:=McS.call (kd:=3) (N:=N) (V:=V) (sv:=.slice A L cp) h
  have hbw : Below M.B0 w ((w.alloc (.cells #[.int .i64 3,.int .i64 N,.int .i64 V,.slice A L cp] 70)).alloc (.cells #[.int .i64 0] 85)):=((Below.refl M.B0 w).alloc (by have:=h.size; have:=M.lo; omega) _).alloc (by have:=h.size; have:=M.lo; rw [World.size_alloc]; omega) _
  have H2:=Lib.hid (And.intro h2 hbw)
  clear h h2 hbw
  refine wp_cut fun K hK=>?_
  go_wp2
  refine hK.out _ _ ?_
  clear hK K
  refine wp_cut fun K hK=>?_
  go_wp2
  refine hK.out _ _ ?_
  clear hK K
  obtain ⟨b7,hb7⟩ : ∃ b7,b7 = w.heap.size:=⟨_,rfl⟩
  obtain ⟨cc,hcc⟩ : ∃ cc,cc = w.heap.size + 1:=⟨_,rfl⟩
  rw [← hcc,← hb7] at H2 ⊢
  clear hcc hb7
  generalize World.alloc _ _ = w2 at *
  have k0:=H2.out.1.ccell 0 (by omega)
  simp only [callF] at k0
  have hs1:=H2.out.1.kept (Kept.alloc w2 (.cells #[] 2))
  have k3:=hs1.ccell 3 (by omega)
  simp only [callF] at k3
  have hr2 : RdI M.B0 (w2.alloc (.cells #[] 2)) A vs:=HRD.out.below (H2.out.2.trans ((Below.refl _ w2).alloc (by have:=H2.out.1.size; have:=M.lo; omega) _))
  have HA:=Lib.hid (World.ownsRow_lit (base:=w2.heap.size) (size:=1) (e:=2) w2 #[] 0 (Nat.le_refl _) (Nat.zero_le _) rfl)
  have HR2:=Lib.hid hr2
  clear hs1 hr2
  obtain ⟨x,er,S',k,hr⟩ : ∃ x er S' k,offerX (frMc M.I.n u.num) M.I.n M.I.first S vs = (x,er,S',k):=⟨_,_,_,_,rfl⟩
  rw [hr]
  have hk : k < 4611686018427387904:=by
    have:=offerX_steps M.I.n u.num M.I.first S vs
    rw [hr] at this
    have h1:=HU.out.len
    have h2:=H2.out.1.mx.ring.most
    dsimp only at this
    omega
  have HE:=Lib.hid hr
  clear hr
  go_wp2_with (at_builtin; refine wpList_app _ rfl _ _ 22 rfl w2.heap.size 2 i0 (.int .i64 0) 1 8 Try.underlying22 hi0 hz0 hz1 hz2 rfl (by decide) _ _ _ rfl HA.out A L cp rfl HNIL.out hlc (vs.map (.int .i64)) (by simp [HL.out]) HR2.out.news (ints_oneC _) (by unfold maxLen; omega) (by omega) (by simp) ?_)
  intro v1 w3 h1 k1 p1 ob1 ne1
  have hk3 : Kept (fun _=>False) w2 w3:=(Kept.alloc _ _).later k1 fun b hb=>(HA.out.lt b hb).1
  have h1' : w3.ownsRow M.B 2 1 v1 vs.length (vs.map (.int .i64)):=by
    have:=own_low (base':=M.B) h1 H2.out.1.size
    simpa [HL.out] using this
  have hlow : ∀ b,v1.ownBlock = some b→w2.heap.size≤b:=fun b hb=>(h1.lt b hb).1
  obtain ⟨A1,c1,rfl⟩:=own_slice h1'
  have hs3 : McS M S u (some (cc,0)) (rowsO b7 3 N V (.slice A L cp) (.slice A1 vs.length c1) vs) w3:=H2.out.1.row hk3 0 (numsRow 2 (.slice A1 vs.length c1) vs) (numsRow_own.2 h1') hlow
  have hb3 : Below M.B0 w w3:=H2.out.2.trans (hk3.to_below (fun b z=>z.elim) (by have:=H2.out.1.size; have:=M.lo; omega))
  have H3:=Lib.hid (And.intro hs3 hb3)
  clear h1 k1 p1 ob1 ne1 hk3 h1' hlow hs3 hb3 HA HR2 k3 k0
  rw [← HL.out]
  have hof : Calls Try.prog 19 #[.pointer (some ⟨M.I.mb,0,none⟩),.iface 83 (.pointer (some ⟨cc,0,none⟩)),.iface 65 (.pointer (some ⟨M.hb,0,none⟩)),.slice A1 L c1] w3 fun e w'=>e = .returned (.tuple #[.int .i64 x,.int .i64 er])∧(MulX M.I S' (fun _=>False) w'∧Mems M.B (M.R S u (some (cc,k)) (rowsO b7 3 N V (.slice A L cp) (.slice A1 vs.length c1) vs)) w')∧Below M.B0 w3 w':=by
    obtain rfl : L = vs.length:=HL.out
    have:=offer_x (M.X u cc) mcX_cell mcX_slots M.I (free_H M.I (by have:=HU.out.len; omega) ⟨fun e=>by have:=H3.out.1.hold.2; have:=M.lt; omega,fun e=>by have:=H3.out.1.hold.2; have:=M.lt; omega⟩) 0 S w3 H3.out.1.mulX H3.out.1.at_ A1 c1 vs (rd_of (cp:=c1) H3.out.1 rfl) (by unfold maxLen; omega)
    rw [HE.out] at this
    refine this.mono ?_
    rintro e w' ⟨e1,m1,k1,z1,a1⟩
    rw [Nat.zero_add] at a1
    exact ⟨e1,H3.out.1.behind m1 k1 a1,out_below H3.out.1 k1⟩
  have hwo : ∀ z,Mems M.B (M.R S u (some (cc,k)) (rowsO b7 3 N V (.slice A L cp) (.slice A1 vs.length c1) vs)) z→Below M.B0 w z→Calls Try.prog 59 #[.pointer (some ⟨M.xb,0,none⟩),.slice A L cp] z fun e w'=>e = .returned (.tuple #[.int .i64 x,.int .i64 er,.int .i64 k])∧Mems M.B (M.R S' u (some (cc,k)) (rowsO b7 3 N V (.slice A L cp) (.slice A1 vs.length c1) vs)) w'∧Below M.B z w':=fun z hz hb=>by
    obtain rfl : L = vs.length:=HL.out
    obtain ⟨oF,g1,g2,g3,g4⟩:=offer_goes (n:=M.P.n) (fs:=M.P.fs) HU.out.all S vs
    rw [M.n_,M.f_,HE.out] at g1 g3 g4
    dsimp only at g1 g3 g4
    have hrz : RdI M.B z A vs:=fun i hi=>by
      obtain ⟨b,o,h1,h2,h3⟩:=HRD.out.below hb i hi
      exact ⟨b,o,h1,by have:=M.lo; omega,h3⟩
    have:=woffer_ok (T:=k) (cp:=cp) hz H3.out.1.ok rfl M.mb vs hrz (by unfold maxLen; omega) (by rw [M.n_,M.f_]; exact g1) g2 hk HU.out.mem (by have:=HU.out.len; omega) HU.out.mlen
    rw [g3,g4] at this
    exact this
  have HOF:=Lib.hid hof
  have HWO:=Lib.hid hwo
  clear hof hwo
  go_wp2_with (first | (go_at_call 19; refine HOF.out.mono ?_; rintro e w4 ⟨rfl,m4,b4⟩; have k3b:=mccellR m4.2 rfl 3 (by omega); simp only [callF] at k3b; have H4:=Lib.hid (And.intro m4 (H3.out.2.trans b4)); clear m4 b4) | (go_at_call 59; refine (HWO.out _ H4.out.1.2 H4.out.2).mono ?_; rintro e w5 ⟨rfl,m5,b5⟩; have kt:=mctold m5 hk; have k3c:=mccellR m5 rfl 3 (by omega); simp only [callF] at k3c; have H5:=Lib.hid (And.intro m5 b5); clear m5 b5) | (go_at_call 27; have hs6:=McS.after H4.out.1.1 H5.out.2 H5.out.1; have i1 : IntsAt w5 (.slice A1 L c1) vs:=by { rw [HL.out]; exact IntsAt.of_own (numsRow_own.1 (hs6.mem.at_ (r:=.X 4) (d:=numsRow 2 (.slice A1 vs.length c1) vs) rfl)) }; have i2 : IntsAt w5 (.slice A L cp) vs:=by { rw [HL.out]; exact (HRD.out.below (H4.out.2.trans (below_low H5.out.2 M.lo.2.2.2.2.2))).ints cp (by have:=hs6.size; have:=M.lo; omega) }; refine (same_numbers _ _ vs vs w5 i1 i2 (by unfold maxLen; rw [← HL.out]; omega)).mono ?_; rintro e w6 ⟨rfl,nq,rfl⟩; clear i1 i2 hs6))
  go_ret
  have hd:=mcdone (w0:=w) H4.out.1.1 H5.out.2 H5.out.1 H4.out.2
  exact ⟨by simp,hd.1.kept (Kept.drewN _ _ _),hd.2.trans (Below.drewN (Below.refl _ _) _)⟩
def numJ (nums vs : List Int) (j : Nat) : List Int:=vs.take j ++ nums.drop j
theorem numJ_len {nums vs : List Int} {j : Nat} (h1 : j≤vs.length) (h2 : j≤nums.length) : (numJ nums vs j).length = nums.length:=by
  unfold numJ
  rw [List.length_append,List.length_take,List.length_drop]
  omega
theorem numJ_get {nums vs : List Int} {j : Nat} (h1 : j < vs.length) (h2 : j < nums.length) (k : Nat) : (numJ nums vs (j + 1)).getD k 0 = if k = j then vs.getD j 0 else (numJ nums vs j).getD k 0:=by
  unfold numJ
  simp only [List.getD_eq_getElem?_getD]
  by_cases e : k = j
  · subst e
    rw [if_pos rfl,List.getElem?_append_left (by rw [List.length_take]; omega),List.getElem?_take_of_lt (by omega)]
  · rw [if_neg e]
    by_cases hlt : k < j
    · rw [List.getElem?_append_left (by rw [List.length_take]; omega),List.getElem?_append_left (by rw [List.length_take]; omega),List.getElem?_take_of_lt (by omega),List.getElem?_take_of_lt hlt]
    · rw [List.getElem?_append_right (by rw [List.length_take]; omega),List.getElem?_append_right (by rw [List.length_take]; omega),List.getElem?_drop,List.getElem?_drop]
      simp only [List.length_take]
      congr 2
      omega
abbrev R2 (M : McP) (S : MulS) (u : Who13) (a b : List Int) (cn : Option (Nat × Nat)) (ri : Nat→Option Row) : Rn13→Option Row:=mcR M.P S { u with num:=a } (extX M.P M.xb M.hb M.vH b cn ri)
theorem R2_setX {B : Nat} {cn : Option (Nat × Nat)} {ri : Nat→Option Row} {a b b' : List Int} {g cap j : Nat} {v : Int} (h : Mems B (R2 M S u a b cn ri) w) (hv : M.vH = .slice (some ⟨g,0,none⟩) b.length cap) (hl : b'.length = b.length) (hg : ∀ k,b'.getD k 0 = if k = j then v else b.getD k 0) : Mems B (R2 M S u a b' cn ri) (w.setCell ⟨g,j,none⟩ (.int .i64 v)):=by
  refine h.set (r:=.X 2) (e:=2) (sz:=1) (g:=g) (cap:=cap) (n:=b.length) (f:=fun k=>.int .i64 (b.getD k 0)) (f':=fun k=>.int .i64 (b'.getD k 0)) (by show some (numsRow 2 M.vH b) = _; rw [hv]; rfl) j _ (by show some (numsRow 2 M.vH b') = _; rw [hv]; unfold numsRow; rw [hl]) (fun k _=>by rw [hg]; split <;> rfl) fun r hr=>?_
  refine mulR_eq (whoR_eq (xR_eq fun i e=>?_))
  subst e
  rcases i with _ | _ | _ | _ | i
  · rfl
  · rfl
  · exact absurd rfl hr
  · rfl
  · rfl
theorem R2_setN {B : Nat} {cn : Option (Nat × Nat)} {ri : Nat→Option Row} {a a' b : List Int} {g cap j : Nat} {v : Int} (h : Mems B (R2 M S u a b cn ri) w) (hv : u.vN = .slice (some ⟨g,0,none⟩) a.length cap) (hl : a'.length = a.length) (hg : ∀ k,a'.getD k 0 = if k = j then v else a.getD k 0) : Mems B (R2 M S u a' b cn ri) (w.setCell ⟨g,j,none⟩ (.int .i64 v)):=by
  refine h.set (r:=.N) (e:=2) (sz:=1) (g:=g) (cap:=cap) (n:=a.length) (f:=fun k=>.int .i64 (a.getD k 0)) (f':=fun k=>.int .i64 (a'.getD k 0)) (by show some (numsRow 2 u.vN a) = _; rw [hv]; rfl) j _ (by show some (numsRow 2 u.vN a') = _; rw [hv]; unfold numsRow; rw [hl]) (fun k _=>by rw [hg]; split <;> rfl) fun r hr=>?_
  cases r with
  | N=>exact absurd rfl hr
  | _=>rfl
set_option maxHeartbeats 4000000 in
set_option maxRecDepth 100000 in
theorem numbers_ok {cn : Option (Nat × Nat)} {ri : Nat→Option Row} (h : Mems M.B (M.R S u cn ri) w) (A : Option Addr) (cp : Nat) (vs : List Int) (hrd : RdI M.B0 w A vs) (hlv : vs.length≤maxLen) (hln : u.num.length≤65536) :
    Calls Try.prog 61 #[.pointer (some ⟨M.hb,0,none⟩),.pointer (some ⟨M.P.wb,0,none⟩),.slice A vs.length cp] w fun e w'=>e = .returned (.tuple #[])∧Mems M.B (M.R S { u with num:=numJ u.num vs (min vs.length u.num.length) } cn ri) w'∧Below M.B w w':=by
  have hBs : M.B≤w.heap.size:=by
    have:=(h.lt (r:=.X 1) (d:=boxRow 67 M.hb M.vH) rfl (b:=M.hb) rfl)
    omega
  obtain ⟨L,hL⟩ : ∃ L,L = vs.length:=⟨_,rfl⟩
  obtain ⟨n,hn⟩ : ∃ n,n = u.num.length:=⟨_,rfl⟩
  rw [← hL] at hlv ⊢
  rw [← hn] at hln ⊢
  unfold maxLen at hlv
  have HL:=Lib.hid (And.intro hL hn)
  have HM0:=Lib.hid h
  have HRD:=Lib.hid hrd
  clear h hrd hL hn
  go_enter Try.func61,Try.ntmps61
  go_wp2
  go_loopw [6] (fun i wr=>∃ j : Nat,j≤L∧j≤n∧i = .int .i64 j∧Mems M.B (R2 M S u (numJ u.num vs j) (numJ u.num vs j) cn ri) wr∧Below M.B w wr) (fun i _=>L - (intOf i).toNat)
  case atStart=>exact ⟨0,Nat.zero_le _,Nat.zero_le _,rfl,HM0.out,Below.refl _ _⟩
  case round =>
    obtain ⟨j,hjL,hjn,rfl,hm,hb⟩:=hrel
    have HM:=Lib.hid (And.intro hm hb)
    have hlj : (numJ u.num vs j).length = n:=by have:=HL.out; rw [numJ_len (by omega) (by omega)]; exact this.2.symm
    have hx0 : ∃ vA vc,M.vH = .slice vA n vc:=by
      obtain ⟨vA,vc,e⟩:=own_slice (numsRow_own.1 (hm.at_ (r:=.X 2) (d:=numsRow 2 M.vH (numJ u.num vs j)) rfl))
      rw [hlj] at e
      exact ⟨vA,vc,e⟩
    obtain ⟨vA,vc,hvH⟩:=hx0
    have b0 : wr.cell? ⟨M.hb,0,none⟩ = some (.slice vA n vc):=by
      rw [(boxRow_at.1 (hm.at_ (r:=.X 1) (d:=boxRow 67 M.hb M.vH) rfl)).1.cell 0,hvH]; rfl
    have HV:=Lib.hid hvH
    have HLJ:=Lib.hid hlj
    clear hm hb hvH hlj
    by_cases hlL : j < L
    · by_cases hln2 : j < n
      · obtain ⟨g,cap,hg,hgc,hgm⟩:=row_slice (HM.out.1.at_ (r:=.X 2) (d:=numsRow 2 M.vH (numJ u.num vs j)) rfl) (by have:=HLJ.out; omega)
        obtain ⟨gn,capn,hgn,hgnc,hgnm⟩:=row_slice (HM.out.1.at_ (r:=.N) (d:=numsRow 2 u.vN (numJ u.num vs j)) rfl) (by have:=HLJ.out; omega)
        have e1 : vA = some ⟨g,0,none⟩:=by
          have:=HV.out.symm.trans hg
          injection this
        subst e1
        obtain ⟨vb,vo,rfl,hvb,hvc⟩:=HRD.out.below (below_low HM.out.2 M.lo.2.2.2.2.2) j (by have:=HL.out; omega)
        obtain ⟨v,hv⟩ : ∃ v,v = vs.getD j 0:=⟨_,rfl⟩
        rw [← hv] at hvc
        have HG:=Lib.hid (And.intro hg (And.intro hgn hv))
        have HVB:=Lib.hid hvb
        clear hg hgn hv hgc hgm hgnc hgnm hvb
        refine wp_cut fun K2 hK2=>?_
        go_wp2
        refine hK2.out _ _ ?_
        clear hK2 K2
        refine wp_cut fun K2 hK2=>?_
        refine wp_block ?_
        refine wp_cut fun K hK=>?_
        refine wp_region_lastQ 10 (by kernel_rfl) (by kernel_rfl) (by kernel_rfl) (by kernel_rfl) ?_
        simp only [idle,List.modify_toArray,List.modify_succ_cons,List.modify_zero_cons,List.size_toArray,List.length_cons,List.length_nil,Nat.reduceAdd]
        repeat (go_big_quiet_step (fail))
        refine wpQuiet_nil ?_
        rintro _ ⟨nq,rfl⟩
        refine wpOps_list (m:=10) rfl ?_
        have hmd:=Lib.hid (And.intro (HM.out.1.drewN nq) (HM.out.2.trans (Below.drewN (Below.refl _ _) nq)))
        clear HM
        have HM:=hmd
        clear hmd
        generalize World.drewN _ nq = w3 at *
        have cj : w3.cell? ⟨g,j,none⟩ = some (.int .i64 ((numJ u.num vs j).getD j 0)):=HM.out.1.cell (r:=.X 2) (e:=2) (sz:=1) (g:=g) (cap:=cap) (n:=(numJ u.num vs j).length) (f:=fun k=>.int .i64 ((numJ u.num vs j).getD k 0)) (by show some (numsRow 2 M.vH _) = _; rw [HG.out.1]; rfl) (by have:=HLJ.out; omega)
        have fj : w3.frozen? ⟨g,j,none⟩ = false:=HM.out.1.frozen (r:=.X 2) (e:=2) (sz:=1) (g:=g) (cap:=cap) (n:=(numJ u.num vs j).length) (f:=fun k=>.int .i64 ((numJ u.num vs j).getD k 0)) (by show some (numsRow 2 M.vH _) = _; rw [HG.out.1]; rfl) j
        go_wp2
        refine hK.out _ _ ?_
        clear hK K cj fj b0 hvc
        have hB3 : M.B≤g:=(HM.out.1.lt (r:=.X 2) (d:=numsRow 2 M.vH (numJ u.num vs j)) rfl (b:=g) (by show M.vH.ownBlock = _; rw [HG.out.1]; rfl)).1
        have hm4:=R2_setX (b':=numJ u.num vs (j + 1)) (j:=j) (v:=v) HM.out.1 HG.out.1 (by have:=HL.out; rw [numJ_len (by omega) (by omega),numJ_len (by omega) (by omega)]) (fun k=>by have:=HL.out; rw [numJ_get (by omega) (by omega),HG.out.2.2])
        have hb4:=HM.out.2.setCell (p:=⟨g,j,none⟩) hB3 (.int .i64 v)
        clear HM
        have HM:=Lib.hid (And.intro hm4 hb4)
        clear hm4 hb4 hB3
        generalize World.setCell _ _ _ = w4 at *
        have hvc : w4.cell? ⟨vb,vo + j,none⟩ = some (.int .i64 v):=by
          obtain ⟨b',o',e1,e2,e3⟩:=HRD.out.below (below_low HM.out.2 M.lo.2.2.2.2.2) j (by have:=HL.out; omega)
          cases e1
          rw [e3,HG.out.2.2]
        have b3 : w4.cell? ⟨M.P.wb,3,none⟩ = some (.slice (some ⟨gn,0,none⟩) n capn):=by
          have:=wcell (u:={ u with num:=numJ u.num vs j }) HM.out.1 3 (by omega)
          rw [this]
          show some u.vN = _
          rw [HG.out.2.1,HLJ.out]
        refine wp_region_lastQ 10 (by kernel_rfl) (by kernel_rfl) (by kernel_rfl) (by kernel_rfl) ?_
        simp only [idle,List.modify_toArray,List.modify_succ_cons,List.modify_zero_cons,List.size_toArray,List.length_cons,List.length_nil,Nat.reduceAdd]
        repeat (go_big_quiet_step (fail))
        refine wpQuiet_nil ?_
        rintro _ ⟨nq,rfl⟩
        refine wpOps_list (m:=10) rfl ?_
        have hmd:=Lib.hid (And.intro (HM.out.1.drewN nq) (HM.out.2.trans (Below.drewN (Below.refl _ _) nq)))
        clear HM
        have HM:=hmd
        clear hmd
        generalize World.drewN _ nq = w5 at *
        have cj : w5.cell? ⟨gn,j,none⟩ = some (.int .i64 ((numJ u.num vs j).getD j 0)):=HM.out.1.cell (r:=.N) (e:=2) (sz:=1) (g:=gn) (cap:=capn) (n:=(numJ u.num vs j).length) (f:=fun k=>.int .i64 ((numJ u.num vs j).getD k 0)) (by show some (numsRow 2 u.vN _) = _; rw [HG.out.2.1]; rfl) (by have:=HLJ.out; omega)
        have fj : w5.frozen? ⟨gn,j,none⟩ = false:=HM.out.1.frozen (r:=.N) (e:=2) (sz:=1) (g:=gn) (cap:=capn) (n:=(numJ u.num vs j).length) (f:=fun k=>.int .i64 ((numJ u.num vs j).getD k 0)) (by show some (numsRow 2 u.vN _) = _; rw [HG.out.2.1]; rfl) j
        go_wp2
        refine hK2.out _ _ ?_
        clear hK2 K2 cj fj b3 hvc
        have hB5 : M.B≤gn:=(HM.out.1.lt (r:=.N) (d:=numsRow 2 u.vN (numJ u.num vs j)) rfl (b:=gn) (by show u.vN.ownBlock = _; rw [HG.out.2.1]; rfl)).1
        have hm6:=R2_setN (a':=numJ u.num vs (j + 1)) (j:=j) (v:=v) HM.out.1 HG.out.2.1 (by have:=HL.out; rw [numJ_len (by omega) (by omega),numJ_len (by omega) (by omega)]) (fun k=>by have:=HL.out; rw [numJ_get (by omega) (by omega),HG.out.2.2])
        have hb6:=HM.out.2.setCell (p:=⟨gn,j,none⟩) hB5 (.int .i64 v)
        clear HM
        have HM:=Lib.hid (And.intro hm6 hb6)
        clear hm6 hb6 hB5
        generalize World.setCell _ _ _ = w6 at *
        go_wp2
        go_roundw
        case rel=>exact ⟨j + 1,by omega,by omega,by go_num,HM.out.1,HM.out.2⟩
        case measure=>simp [intOf]; omega
      · obtain rfl : j = n:=by omega
        go_wp2
        go_end0
        rw [Nat.min_eq_right (by omega)]
        exact ⟨rfl,HM.out⟩
    · obtain rfl : j = L:=by omega
      go_wp2
      go_end0
      rw [Nat.min_eq_left (by omega)]
      exact ⟨rfl,HM.out⟩
end
section
variable {M : McP} {S : MulS} {u : Who13} {w w' : World}
set_option maxHeartbeats 4000000 in
set_option maxRecDepth 100000 in
theorem call_6 (h : McS M S u none (fun _=>none) w) (hu : McU u) (N V : Int) (A : Option Addr) (cp : Nat) (vs : List Int) (hrd : RdI M.B0 w A vs) (hlv : vs.length≤maxLen) :
    Calls Try.prog 26 #[.pointer (some ⟨M.xb,0,none⟩),.pointer (some ⟨M.I.mb,0,none⟩),.pointer (some ⟨M.hb,0,none⟩),.agg #[.int .i64 6,.int .i64 N,.int .i64 V,.slice A vs.length cp]] w fun e w'=>e = .returned (.bool true)∧McDone M S { u with num:=numJ u.num vs (min vs.length u.num.length) } w w':=by
  have HU:=Lib.hid hu
  obtain ⟨L,hL⟩ : ∃ L,L = vs.length:=⟨_,rfl⟩
  rw [← hL] at ⊢
  have HL:=Lib.hid hL
  have HRD:=Lib.hid hrd
  have HLV:=Lib.hid hlv
  clear hu hL hrd hlv
  go_enter Try.func26,Try.ntmps26
  have h2:=McS.call (kd:=6) (N:=N) (V:=V) (sv:=.slice A L cp) h
  have hbw : Below M.B0 w ((w.alloc (.cells #[.int .i64 6,.int .i64 N,.int .i64 V,.slice A L cp] 70)).alloc (.cells #[.int .i64 0] 85)):=((Below.refl M.B0 w).alloc (by have:=h.size; have:=M.lo; omega) _).alloc (by have:=h.size; have:=M.lo; rw [World.size_alloc]; omega) _
  have H2:=Lib.hid (And.intro h2 hbw)
  clear h h2 hbw
  refine wp_cut fun K hK=>?_
  go_wp2
  refine hK.out _ _ ?_
  clear hK K
  refine wp_cut fun K hK=>?_
  go_wp2
  refine hK.out _ _ ?_
  clear hK K
  obtain ⟨b7,hb7⟩ : ∃ b7,b7 = w.heap.size:=⟨_,rfl⟩
  obtain ⟨cc,hcc⟩ : ∃ cc,cc = w.heap.size + 1:=⟨_,rfl⟩
  rw [← hcc,← hb7] at H2 ⊢
  clear hcc hb7
  generalize World.alloc _ _ = w2 at *
  have k0:=H2.out.1.ccell 0 (by omega)
  have k3:=H2.out.1.ccell 3 (by omega)
  have x1 : w2.cell? ⟨M.xb,1,none⟩ = some (.pointer (some ⟨M.P.wb,0,none⟩)):=xcell H2.out.1.mem (fun _=>rfl) rfl 1 (by omega)
  simp only [callF] at k0 k3
  have hnu : ∀ z,Kept (fun _=>False) w2 z→Calls Try.prog 61 #[.pointer (some ⟨M.hb,0,none⟩),.pointer (some ⟨M.P.wb,0,none⟩),.slice A L cp] z fun e w'=>e = .returned (.tuple #[])∧McDone M S { u with num:=numJ u.num vs (min vs.length u.num.length) } w w':=fun z hz=>by
    have hs:=H2.out.1.kept hz
    have bz : Below M.B0 w z:=H2.out.2.trans (hz.to_below (fun b z=>z.elim) (by have:=H2.out.1.size; have:=M.lo; omega))
    have:=numbers_ok hs.mem A cp vs (HRD.out.below bz) HLV.out (by have:=HU.out.len; omega)
    rw [← HL.out] at this ⊢
    refine this.mono ?_
    rintro e w' ⟨e1,m1,b1⟩
    exact ⟨e1,mcdone hs.mx b1 m1 bz⟩
  have HNU:=Lib.hid hnu
  clear hnu
  go_wp2
  rename_i K0 hK0
  refine wp_region_lastQ 7 (by kernel_rfl) (by kernel_rfl) (by kernel_rfl) (by kernel_rfl) ?_
  simp only [idle,List.modify_toArray,List.modify_succ_cons,List.modify_zero_cons,List.size_toArray,List.length_cons,List.length_nil,Nat.reduceAdd]
  repeat (go_big_quiet_step (fail))
  refine wpQuiet_nil ?_
  rintro _ ⟨nq,rfl⟩
  refine wpOps_list (m:=7) rfl ?_
  go_wp2_with (go_at_call 61; refine (HNU.out _ (Kept.drewN _ w2 nq)).mono ?_; rintro e w4 ⟨rfl,m4⟩; have H4:=Lib.hid m4; clear m4)
  go_ret
  rw [HL.out]
  exact ⟨rfl,H4.out⟩
structure CallI where
  kd : Int
  N : Int
  V : Int
  A : Option Addr
  cp : Nat
  vs : List Int
def CallI.val (c : CallI) : Value:=.agg #[.int .i64 c.kd,.int .i64 c.N,.int .i64 c.V,.slice c.A c.vs.length c.cp]
structure CallI.Ok (c : CallI) (B : Nat) (w : World) : Prop where
  n0 : -9223372036854775808≤c.N
  n1 : c.N < 9223372036854775808
  le : c.vs.length≤c.cp
  nil : c.A = none→c.cp = 0
  by_ : c.vs.length * 8≤140737488355328
  rd : RdI B w c.A c.vs
theorem call_any (h : McS M S u none (fun _=>none) w) (hu : McU u) (c : CallI) (hc : c.Ok M.B0 w) :
    Calls Try.prog 26 #[.pointer (some ⟨M.xb,0,none⟩),.pointer (some ⟨M.I.mb,0,none⟩),.pointer (some ⟨M.hb,0,none⟩),c.val] w fun e w'=>e = .returned (.bool true)∧∃ S' u',McDone M S' u' w w'∧McU u':=by
  have hml : c.vs.length≤maxLen:=by have:=hc.by_; unfold maxLen; omega
  have fin : ∀ {f : FuncId} {args : Array Value} {S' : MulS} {u' : Who13},McU u'→Calls Try.prog f args w (fun e w'=>e = .returned (.bool true)∧McDone M S' u' w w')→Calls Try.prog f args w (fun e w'=>e = .returned (.bool true)∧∃ S' u',McDone M S' u' w w'∧McU u'):=fun hu' hcl=>hcl.mono fun e w' ⟨h1,h2⟩=>⟨h1,_,_,h2,hu'⟩
  obtain ⟨kd,N,V,A,cp,vs⟩:=c
  unfold CallI.val
  dsimp only
  by_cases e1 : kd = 1
  · subst e1; exact fin hu (call_1 h hu N V A _ cp)
  by_cases e2 : kd = 2
  · subst e2; exact fin hu (call_2 h hu N V A _ cp)
  by_cases e3 : kd = 3
  · subst e3; exact fin hu (call_3 h hu N V A cp vs hc.rd hc.le hc.nil hc.by_)
  by_cases e4 : kd = 4
  · subst e4; exact fin hu (call_4 h hu N V A _ cp)
  by_cases e5 : kd = 5
  · subst e5; exact fin hu (call_5 h hu N V hc.n0 hc.n1 A _ cp)
  by_cases e6 : kd = 6
  · subst e6
    refine fin ?_ (call_6 h hu N V A cp vs hc.rd hml)
    have hl : (numJ u.num vs (min vs.length u.num.length)).length = u.num.length:=numJ_len (Nat.min_le_left _ _) (Nat.min_le_right _ _)
    exact ⟨⟨hu.all.gate,by show u.mem = (List.range (numJ u.num vs _).length).map Int.ofNat; rw [hl]; exact hu.all.mem⟩,by show (numJ u.num vs _).length≤4; rw [hl]; exact hu.len⟩
  · exact fin hu (call_0 h kd N V (by omega) A _ cp)
end
def RightM (n : Int) : Prop:=1≤n∧n≤65536∧(bits BinOp.and IntKind.i64 n (n - 1) != 0) = false
instance (n : Int) : Decidable (RightM n):=by unfold RightM; exact inferInstance
theorem new_badM (n : Int) (w : World) (h : ¬ RightM n) (hr : -9223372036854775808≤n) : Calls Try.prog 47 #[.int .i64 n] w fun e w'=>e = .returned (.tuple #[.pointer none,.int .i64 1])∧w = w':=by
  by_cases h1 : n < 1
  · have d1 : decide (n < 1) = true:=by simpa using h1
    clear h
    go_enter Try.func47,Try.ntmps47
    go_wp2
    go_ret2
    exact ⟨rfl,rfl⟩
  · have d1 : decide (n < 1) = false:=by simpa using h1
    by_cases h2 : 65536 < n
    · have d2 : decide (65536 < n) = true:=by simpa using h2
      clear h
      go_enter Try.func47,Try.ntmps47
      go_wp2
      go_ret2
      exact ⟨rfl,rfl⟩
    · have d2 : decide (65536 < n) = false:=by simpa using h2
      have d3 : (bits BinOp.and IntKind.i64 n (n - 1) != 0) = true:=by
        cases hb : (bits BinOp.and IntKind.i64 n (n - 1) != 0) with
        | true=>rfl
        | false=>exact absurd ⟨by omega,by omega,hb⟩ h
      clear h
      go_enter Try.func47,Try.ntmps47
      go_wp2
      go_ret2
      exact ⟨rfl,rfl⟩
def FitsM (size first : Int) : Prop:=RightM size∧0≤first∧first < 4611686018427387904
instance (a b : Int) : Decidable (FitsM a b):=by unfold FitsM; exact inferInstance
set_option maxHeartbeats 1000000 in
set_option maxRecDepth 100000 in
theorem multi_newB (n fs : Int) (w : World) (h : ¬ FitsM n fs) (hr : -9223372036854775808≤n) : Calls Try.prog 17 #[.int .i64 n,.int .i64 fs] w fun e w'=>e = .returned (.tuple #[.pointer none,.int .i64 1])∧Below w.heap.size w w':=by
  by_cases hn : RightM n
  · obtain ⟨k,rfl⟩ : ∃ k : Nat,n = k:=⟨n.toNat,by have:=hn.1; omega⟩
    obtain ⟨h0,h2,hb⟩:=id hn
    have HS:=Lib.hid (fun w=>new_near k w (by omega) (by omega) hb)
    have hf : fs < 0∨4611686018427387904≤fs:=by
      rcases Int.lt_or_le fs 0 with z | z
      · exact .inl z
      · exact .inr (Int.not_lt.1 fun z2=>h ⟨hn,z,z2⟩)
    clear h hn hb
    by_cases hf0 : fs < 0
    · have d1 : decide (fs < 0) = true:=by simpa using hf0
      clear hf
      go_enter Try.func17,Try.ntmps17
      go_wp2_with fail
      refine (HS.out w).mono ?_
      rintro e w1 ⟨rfl,R1,B1,Z1,N0,N1⟩
      have HB:=Lib.hid B1
      clear R1 B1 Z1 N0 N1
      go_wp2
      go_ret2
      exact ⟨rfl,HB.out⟩
    · have d1 : decide (fs < 0) = false:=by simpa using hf0
      have d2 : decide (4611686018427387904≤fs) = true:=decide_eq_true (by omega)
      clear hf
      go_enter Try.func17,Try.ntmps17
      go_wp2_with fail
      refine (HS.out w).mono ?_
      rintro e w1 ⟨rfl,R1,B1,Z1,N0,N1⟩
      have HB:=Lib.hid B1
      clear R1 B1 Z1 N0 N1
      go_wp2
      go_ret2
      exact ⟨rfl,HB.out⟩
  · have HS:=Lib.hid (fun w=>new_badM n w hn hr)
    clear h hn
    go_enter Try.func17,Try.ntmps17
    go_wp2_with (go_at_call 47; refine (HS.out w).mono ?_; rintro e w' ⟨rfl,hw'⟩; subst hw')
    go_ret2
    exact ⟨rfl,Below.refl _ _⟩
set_option maxHeartbeats 1000000 in
set_option maxRecDepth 100000 in
theorem fits_ok (n fs : Int) (w : World) (hr : -9223372036854775808≤n) : Calls Try.prog 22 #[.int .i64 n,.int .i64 fs] w fun e w'=>e = .returned (.bool (decide (FitsM n fs)))∧w = w':=by
  by_cases h1 : 1≤n
  · have d1 : decide (1≤n) = true:=decide_eq_true h1
    by_cases h2 : n≤65536
    · have d2 : decide (n≤65536) = true:=decide_eq_true h2
      cases hb : (bits BinOp.and IntKind.i64 n (n - 1) != 0) with
      | true =>
        have d3 : (bits BinOp.and IntKind.i64 n (n - 1) == 0) = false:=by simpa using hb
        rw [show decide (FitsM n fs) = false from decide_eq_false fun z=>by have:=z.1.2.2; rw [hb] at this; cases this]
        clear hb
        go_enter Try.func22,Try.ntmps22
        go_wp2
        go_ret
        try exact ⟨rfl,rfl⟩
      | false =>
        have d3 : (bits BinOp.and IntKind.i64 n (n - 1) == 0) = true:=by simpa using hb
        by_cases h4 : 0≤fs
        · have d4 : decide (0≤fs) = true:=decide_eq_true h4
          by_cases h5 : fs < 4611686018427387904
          · have d5 : decide (fs < 4611686018427387904) = true:=decide_eq_true h5
            rw [show decide (FitsM n fs) = true from decide_eq_true ⟨⟨h1,h2,hb⟩,h4,h5⟩]
            clear hb
            go_enter Try.func22,Try.ntmps22
            go_wp2
            go_ret
            try exact ⟨rfl,rfl⟩
          · have d5 : decide (fs < 4611686018427387904) = false:=decide_eq_false h5
            rw [show decide (FitsM n fs) = false from decide_eq_false fun z=>h5 z.2.2]
            clear hb
            go_enter Try.func22,Try.ntmps22
            go_wp2
            go_ret
            try exact ⟨rfl,rfl⟩
        · have d4 : decide (0≤fs) = false:=decide_eq_false h4
          rw [show decide (FitsM n fs) = false from decide_eq_false fun z=>h4 z.2.1]
          clear hb
          go_enter Try.func22,Try.ntmps22
          go_wp2
          go_ret
          try exact ⟨rfl,rfl⟩
    · have d2 : decide (n≤65536) = false:=decide_eq_false h2
      rw [show decide (FitsM n fs) = false from decide_eq_false fun z=>h2 z.1.2.1]
      go_enter Try.func22,Try.ntmps22
      go_wp2
      go_ret
      try exact ⟨rfl,rfl⟩
  · have d1 : decide (1≤n) = false:=decide_eq_false h1
    rw [show decide (FitsM n fs) = false from decide_eq_false fun z=>h1 z.1.1]
    go_enter Try.func22,Try.ntmps22
    go_wp2
    go_ret
    try exact ⟨rfl,rfl⟩
set_option maxRecDepth 100000 in
theorem ringM_ok (m r : Nat) (w : World) (h : w.cell? ⟨m,0,none⟩ = some (.pointer (some ⟨r,0,none⟩))) : Calls Try.prog 24 #[.pointer (some ⟨m,0,none⟩)] w fun e w'=>e = .returned (.pointer (some ⟨r,0,none⟩))∧w = w':=by
  go_enter Try.func24,Try.ntmps24
  go_wp2_with (go_at_call 53; refine (multi_noM m r w h).mono ?_; rintro e w' ⟨rfl,hw'⟩; subst hw')
  go_ret
  try exact ⟨rfl,rfl⟩
abbrev bU (vI vN : Value) (m a : List Int) : Who13:=⟨false,vI,m,0,vN,a⟩
abbrev bR (P : Pl13) (S : MulS) (xb hb : Nat) (vI vN vH : Value) (m a b : List Int) : Rn13→Option Row:=mcR P S (bU vI vN m a) (extX P xb hb vH b none fun _=>none)
section
variable {P : Pl13} {S : MulS} {xb hb B : Nat} {vI vN vH : Value} {m a b : List Int} {w w1 : World} {v' : Value} {x : Int}
theorem snocN (e : TypeId) (v : Value) (l : List Int) (x : Int) {B : Nat} {w : World} (h : w.ownsRow B e 1 v (l.length + 1) (l.map (.int .i64) ++ [.int .i64 x])) : (numsRow e v (l ++ [x])).At B w:=by
  refine numsRow_own.2 ?_
  rw [List.map_append,List.length_append]
  exact h
theorem appX (h : Mems B (bR P S xb hb vI vN vH m a b) w) (hown : w1.ownsRow B 2 1 v' (b.length + 1) (b.map (.int .i64) ++ [.int .i64 x])) (hg : w.grownBy w1 vH.ownBlock) (hv : v'.ownBlock = vH.ownBlock∨v'.ownBlock = some w.heap.size) :
    w1.cell? ⟨hb,0,none⟩ = some vH∧w1.frozen? ⟨hb,0,none⟩ = false∧Mems B (bR P S xb hb vI vN v' m a (b ++ [x])) (w1.setCell ⟨hb,0,none⟩ v'):=by
  have h1 : Mems B (fun r=>if r = .X 2 then some (numsRow 2 v' (b ++ [x])) else bR P S xb hb vI vN vH m a b r) w1:=
    h.app (r:=.X 2) (d:=numsRow 2 vH b) (d':=numsRow 2 v' (b ++ [x])) rfl (if_pos rfl) (fun r hr=>by simp [hr]) hg (snocN _ _ _ _ hown) hv
  have e1 : (fun r=>if r = Rn13.X 2 then some (numsRow 2 v' (b ++ [x])) else bR P S xb hb vI vN vH m a b r) (.X 1) = some ⟨67,1,.slice (some ⟨hb,0,none⟩) 1 1,1,fun _=>vH⟩:=rfl
  refine ⟨h1.cell e1 (by omega),h1.frozen e1 0,h1.set (f':=fun _=>v') e1 0 v' rfl (fun k hk=>by
      have : k = 0:=by omega
      subst this; rfl) fun r hr=>?_⟩
  cases r with
  | X i=>rcases i with _ | _ | _ | _ | i <;> first | rfl | exact absurd rfl hr
  | _=>rfl
theorem appI (h : Mems B (bR P S xb hb vI vN vH m a b) w) (hown : w1.ownsRow B 3 1 v' (m.length + 1) (m.map (.int .i64) ++ [.int .i64 x])) (hg : w.grownBy w1 vI.ownBlock) (hv : v'.ownBlock = vI.ownBlock∨v'.ownBlock = some w.heap.size) :
    (∀ i,i < 4→w1.cell? ⟨P.wb,i,none⟩ = some (wF (bU vI vN m a) i))∧w1.cell? ⟨xb,1,none⟩ = some (.pointer (some ⟨P.wb,0,none⟩))∧w1.frozen? ⟨P.wb,1,none⟩ = false∧Mems B (bR P S xb hb v' vN vH (m ++ [x]) a b) (w1.setCell ⟨P.wb,1,none⟩ v'):=by
  have h1 : Mems B (fun r=>if r = .I then some (numsRow 3 v' (m ++ [x])) else bR P S xb hb vI vN vH m a b r) w1:=
    h.app (r:=.I) (d:=numsRow 3 vI m) (d':=numsRow 3 v' (m ++ [x])) rfl (if_pos rfl) (fun r hr=>by simp [hr]) hg (snocN _ _ _ _ hown) hv
  have e1 : (fun r=>if r = Rn13.I then some (numsRow 3 v' (m ++ [x])) else bR P S xb hb vI vN vH m a b r) .W = some ⟨62,4,.slice (some ⟨P.wb,0,none⟩) 1 1,1,wF (bU vI vN m a)⟩:=rfl
  refine ⟨fun i hi=>h1.cell e1 (by omega),h1.cell (r:=.X 0) (e:=64) (sz:=2) (g:=xb) (cap:=1) (n:=1) (f:=xF P) rfl (j:=1) (by omega),h1.frozen e1 1,h1.set (f':=wF (bU v' vN (m ++ [x]) a)) e1 1 v' rfl (fun k hk=>?_) fun r hr=>?_⟩
  · rcases k with _ | _ | _ | k <;> simp [wF]
  · cases r <;> first | rfl | exact absurd rfl hr
theorem appN (h : Mems B (bR P S xb hb vI vN vH m a b) w) (hown : w1.ownsRow B 2 1 v' (a.length + 1) (a.map (.int .i64) ++ [.int .i64 x])) (hg : w.grownBy w1 vN.ownBlock) (hv : v'.ownBlock = vN.ownBlock∨v'.ownBlock = some w.heap.size) :
    (∀ i,i < 4→w1.cell? ⟨P.wb,i,none⟩ = some (wF (bU vI vN m a) i))∧w1.cell? ⟨xb,1,none⟩ = some (.pointer (some ⟨P.wb,0,none⟩))∧w1.frozen? ⟨P.wb,3,none⟩ = false∧Mems B (bR P S xb hb vI v' vH m (a ++ [x]) b) (w1.setCell ⟨P.wb,3,none⟩ v'):=by
  have h1 : Mems B (fun r=>if r = .N then some (numsRow 2 v' (a ++ [x])) else bR P S xb hb vI vN vH m a b r) w1:=
    h.app (r:=.N) (d:=numsRow 2 vN a) (d':=numsRow 2 v' (a ++ [x])) rfl (if_pos rfl) (fun r hr=>by simp [hr]) hg (snocN _ _ _ _ hown) hv
  have e1 : (fun r=>if r = Rn13.N then some (numsRow 2 v' (a ++ [x])) else bR P S xb hb vI vN vH m a b r) .W = some ⟨62,4,.slice (some ⟨P.wb,0,none⟩) 1 1,1,wF (bU vI vN m a)⟩:=rfl
  refine ⟨fun i hi=>h1.cell e1 (by omega),h1.cell (r:=.X 0) (e:=64) (sz:=2) (g:=xb) (cap:=1) (n:=1) (f:=xF P) rfl (j:=1) (by omega),h1.frozen e1 3,h1.set (f':=wF (bU vI v' m (a ++ [x]))) e1 3 v' rfl (fun k hk=>?_) fun r hr=>?_⟩
  · rcases k with _ | _ | _ | _ | k <;> simp [wF]
    omega
  · cases r <;> first | rfl | exact absurd rfl hr
end
def CallsAt (B : Nat) (A : Option Addr) (cs : List CallI) (w : World) : Prop:=∀ i c,cs[i]? = some c→∃ b o,A = some ⟨b,o,none⟩∧b < B∧w.cell? ⟨b,o + i * 4,none⟩ = some (.int .i64 c.kd)∧w.cell? ⟨b,o + i * 4 + 1,none⟩ = some (.int .i64 c.N)∧w.cell? ⟨b,o + i * 4 + 2,none⟩ = some (.int .i64 c.V)∧w.cell? ⟨b,o + i * 4 + 3,none⟩ = some (.slice c.A c.vs.length c.cp)∧c.Ok B w
theorem CallI.Ok.keep {c : CallI} {B : Nat} {w w' : World} (h : c.Ok B w) (hk : ∀ b o v,b < B→w.cell? ⟨b,o,none⟩ = some v→w'.cell? ⟨b,o,none⟩ = some v) : c.Ok B w':=⟨h.n0,h.n1,h.le,h.nil,h.by_,fun i hi=>by
  obtain ⟨b,o,h1,h2,h3⟩:=h.rd i hi
  exact ⟨b,o,h1,h2,hk _ _ _ h2 h3⟩⟩
theorem CallsAt.keep {B : Nat} {A : Option Addr} {cs : List CallI} {w w' : World} (h : CallsAt B A cs w) (hk : ∀ b o v,b < B→w.cell? ⟨b,o,none⟩ = some v→w'.cell? ⟨b,o,none⟩ = some v) : CallsAt B A cs w':=fun i c hc=>by
  obtain ⟨b,o,h1,h2,h3,h4,h5,h6,h7⟩:=h i c hc
  exact ⟨b,o,h1,h2,hk _ _ _ h2 h3,hk _ _ _ h2 h4,hk _ _ _ h2 h5,hk _ _ _ h2 h6,h7.keep hk⟩
theorem CallsAt.below {B : Nat} {A : Option Addr} {cs : List CallI} {w w' : World} (h : CallsAt B A cs w) (k : Below B w w') : CallsAt B A cs w':=h.keep fun b o v hb hc=>(World.cell?_of_block (w:=w) (a:=⟨b,o,none⟩) (k.block b hb)).trans hc
theorem mems_world {P0 : Pl13} {s : MulS} {B : Nat} {w : World} (h : Mems B (mulR P0 s fun _=>none) w) (hB : B≤w.heap.size) :
    Mems B (bR { P0 with wb:=w.heap.size } s (w.heap.size + 1) (w.heap.size + 2) (.slice none 0 0) (.slice none 0 0) (.slice none 0 0) [] [] []) (((w.alloc (.cells #[.bool false,.slice none 0 0,.int .i64 0,.slice none 0 0] 62)).alloc (.cells #[.pointer (some ⟨P0.mb,0,none⟩),.pointer (some ⟨w.heap.size,0,none⟩)] 64)).alloc (.cells #[.slice none 0 0] 67)):=by
  obtain ⟨w1,e1⟩ : ∃ w1,w1 = w.alloc (.cells #[.bool false,.slice none 0 0,.int .i64 0,.slice none 0 0] 62):=⟨_,rfl⟩
  obtain ⟨w2,e2⟩ : ∃ w2,w2 = w1.alloc (.cells #[.pointer (some ⟨P0.mb,0,none⟩),.pointer (some ⟨w.heap.size,0,none⟩)] 64):=⟨_,rfl⟩
  have z1 : w1.heap.size = w.heap.size + 1:=by rw [e1]; simp
  have z2 : w2.heap.size = w.heap.size + 2:=by rw [e2]; simp [z1]
  have r1 : Mems B (fun r=>if r = .W then some ⟨62,4,.slice (some ⟨w.heap.size,0,none⟩) 1 1,1,wF (bU (.slice none 0 0) (.slice none 0 0) [] [])⟩ else mulR P0 s (fun _=>none) r) w1:=by
    rw [e1]
    refine h.new (r:=.W) rfl (fun r hr=>by simp [hr]) (fun b hb=>Below.heap_alloc _ _ _ hb) (row_box (Blk.new w 62 #[.bool false,.slice none 0 0,.int .i64 0,.slice none 0 0]) hB _ fun j hj=>by rcases j with _ | _ | _ | _ | j <;> first | rfl | (simp at hj; omega)) (fun b hb=>by cases hb; exact Nat.le_refl _)
  have r2 : Mems B (fun r=>if r = .X 0 then some (xRow { P0 with wb:=w.heap.size } (w.heap.size + 1)) else if r = .W then some ⟨62,4,.slice (some ⟨w.heap.size,0,none⟩) 1 1,1,wF (bU (.slice none 0 0) (.slice none 0 0) [] [])⟩ else mulR P0 s (fun _=>none) r) w2:=by
    have hb:=Blk.new w1 64 #[.pointer (some ⟨P0.mb,0,none⟩),.pointer (some ⟨w.heap.size,0,none⟩)]
    rw [← e2,z1] at hb
    refine r1.new (r:=.X 0) rfl (fun r hr=>by simp [hr]) (fun b hb=>by rw [e2]; exact Below.heap_alloc _ _ _ hb) (row_box hb (by omega) _ fun j hj=>by rcases j with _ | _ | j <;> first | rfl | (simp at hj; omega)) (fun b hb=>by cases hb; exact Nat.le_of_eq z1)
  have hb3:=Blk.new w2 67 #[.slice none 0 0]
  rw [z2] at hb3
  have r3 : Mems B (fun r=>if r = .X 1 then some (boxRow 67 (w.heap.size + 2) (.slice none 0 0)) else if r = .X 0 then some (xRow { P0 with wb:=w.heap.size } (w.heap.size + 1)) else if r = .W then some ⟨62,4,.slice (some ⟨w.heap.size,0,none⟩) 1 1,1,wF (bU (.slice none 0 0) (.slice none 0 0) [] [])⟩ else mulR P0 s (fun _=>none) r) (w2.alloc (.cells #[.slice none 0 0] 67)):=
    r2.new (r:=.X 1) rfl (fun r hr=>by simp [hr]) (fun b hb=>Below.heap_alloc _ _ _ hb) (boxRow_at.2 ⟨hb3,by omega⟩) (fun b hb=>by cases hb; exact Nat.le_of_eq z2)
  rw [← e1,← e2]
  refine r3.dropped fun r d hr=>?_
  cases r with
  | M=>exact .inl hr
  | S=>exact .inl hr
  | V=>exact .inl hr
  | W=>exact .inl hr
  | I=>cases hr; exact .inr ⟨rfl,rfl⟩
  | N=>cases hr; exact .inr ⟨rfl,rfl⟩
  | K=>cases hr
  | L=>cases hr
  | X i =>
    rcases i with _ | _ | _ | _ | i
    · exact .inl hr
    · exact .inl hr
    · cases hr; exact .inr ⟨rfl,rfl⟩
    · cases hr
    · cases hr
end Go.Proofs.Ytoepekcheapgmaa
