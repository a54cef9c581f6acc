/- DERIVED. The ring of many writers (package multi): New, lone. -/
import Derived.Test.YtoepekcheapgmaaGj
import Derived.Test.YtoepekcheapgmaaGi
import Derived.Test.YtoepekcheapgmaaGh
set_option linter.unusedVariables false
set_option linter.unusedSectionVars false
set_option linter.unusedSimpArgs false
namespace Go.Proofs.Ytoepekcheapgmaa
open Go.RowKit Go.Turn Go.Tame Go.Conc
structure MSt where
  cursor : Int
  seen : Int
  num : Nat→Int
  st : Nat→Int
  va : Nat→Int
  cf : Nat→Int
  cn : Nat→Int
structure WIds where
  M : MIds
  wb : Nat
  lb : Nat
  qb : Nat→Nat
  k : Nat
  rA : Option Addr
  rc : Nat
structure WIds.Ok (I : WIds) : Prop where
  n0 : 0 < I.M.n
  n2 : I.M.n≤65536
  f0 : 0≤I.M.first
  f1 : I.M.first < 4611686018427387904
  k64 : I.k≤64
  rAk : 0 < I.k→I.rA = some ⟨I.lb,0,none⟩
  krc : I.k≤I.rc∧I.rc≤maxLen
  d1 : I.wb < I.M.gb
  d2 : I.M.gb < I.M.rb
  d3 : I.M.rb < I.M.cb
  d4 : I.M.cb < I.M.eb
  d5 : I.M.eb < I.M.mb
  d6 : 0 < I.k→I.M.mb < I.lb
  d7 : ∀ j,j < I.k→I.M.mb < I.qb j∧I.qb j≠I.lb
  d8 : ∀ i j,i < I.k→j < I.k→I.qb i = I.qb j→i = j
def WIds.find (I : WIds) (b : Nat) : Option Nat:=(List.range I.k).find? fun i=>decide (I.qb i = b)
theorem WIds.find_q {I : WIds} (h : I.Ok) {j : Nat} (hj : j < I.k) : I.find (I.qb j) = some j:=by
  unfold WIds.find
  cases hf : (List.range I.k).find? fun i=>decide (I.qb i = I.qb j) with
  | none =>
    have:=List.find?_eq_none.1 hf j (List.mem_range.2 hj)
    simp at this
  | some i =>
    have h1:=List.find?_some hf
    have h2:=List.mem_range.1 (List.mem_of_find?_eq_some hf)
    rw [h.d8 i j h2 hj (of_decide_eq_true h1)]
theorem WIds.find_some {I : WIds} {b j : Nat} (h : I.find b = some j) : j < I.k∧I.qb j = b:=by
  unfold WIds.find at h
  have h1:=List.find?_some h
  exact ⟨List.mem_range.1 (List.mem_of_find?_eq_some h),by simpa using h1⟩
def layM (I : WIds) (S : MSt) (b o : Nat) : Option Value:=
  if b = I.wb then (if o = 0 then some (.pointer (some ⟨I.M.mb,0,none⟩)) else if o = 1 then some (.slice I.rA I.k I.rc) else if o < 130 then some (.int .i64 (if o % 2 = 0 then S.cf ((o - 2) / 2) else S.cn ((o - 2) / 2))) else none)
  else if b = I.M.mb then (if o = 0 then some (.pointer (some ⟨I.M.rb,0,none⟩)) else if o = 1 then some (.int .i64 I.M.first) else if o = 2 then some (.pointer (some ⟨I.M.cb,0,none⟩)) else if o = 3 then some (.pointer (some ⟨I.M.eb,0,none⟩)) else none)
  else if b = I.M.rb then (if o = 0 then some (.slice (some ⟨I.M.gb,0,none⟩) I.M.n I.M.n) else none)
  else if b = I.M.gb then (if o < 2 * I.M.n then some (.int .i64 (if o % 2 = 0 then S.st (o / 2) else S.va (o / 2))) else none)
  else if b = I.M.cb then (if o = 0 then some (.int .i64 S.cursor) else none)
  else if b = I.M.eb then (if o = 0 then some (.int .i64 S.seen) else none)
  else if 0 < I.k∧b = I.lb then (if o < I.k then some (.pointer (some ⟨I.qb o,0,none⟩)) else none)
  else match I.find b with
    | some j=>if o = 0 then some (.int .i64 (S.num j)) else none
    | none=>none
def MBI (I : WIds) (b : Nat) : Prop:=b = I.wb∨b = I.M.mb∨b = I.M.rb∨b = I.M.gb∨b = I.M.cb∨b = I.M.eb∨(0 < I.k∧b = I.lb)∨∃ j,j < I.k∧I.qb j = b
structure MOk (S : MSt) : Prop where
  c0 : -1≤S.cursor
  c1 : S.cursor < 4611686018427387904
  f0 : ∀ i,-65536≤S.cf i∧S.cf i≤4611686018427387904
  f1 : ∀ i,0≤S.cn i∧S.cn i≤65536
def multiY (I : WIds) : Lay where
  A:=MSt
  cell:=layM I
  BI:=MBI I
  ok:=MOk
  dom:=fun S b o v h=>by
    unfold layM at h
    unfold MBI
    split at h
    · exact .inl ‹_›
    split at h
    · exact .inr (.inl ‹_›)
    split at h
    · exact .inr (.inr (.inl ‹_›))
    split at h
    · exact .inr (.inr (.inr (.inl ‹_›)))
    split at h
    · exact .inr (.inr (.inr (.inr (.inl ‹_›))))
    split at h
    · exact .inr (.inr (.inr (.inr (.inr (.inl ‹_›)))))
    split at h
    · exact .inr (.inr (.inr (.inr (.inr (.inr (.inl ‹_›))))))
    split at h
    · rename_i j hj
      exact .inr (.inr (.inr (.inr (.inr (.inr (.inr ⟨j,WIds.find_some hj⟩))))))
    · cases h
theorem turns_of {Y : Lay} {a a' : Y.A} {b o : Nat} {v : Value} (hc : ∃ u,Y.cell a b o = some u) (h : ∀ b' o',Y.cell a' b' o' = if b' = b∧o' = o then some v else Y.cell a b' o') : Y.Turns a a' b o v:=by
  refine ⟨hc,fun b' o' u hu=>?_⟩
  rw [h] at hu
  split at hu
  · rename_i e
    cases hu
    exact .inl ⟨e.1,e.2,rfl⟩
  · rename_i e
    refine .inr ⟨?_,hu⟩
    by_cases hb : b' = b
    · exact .inr fun z=>e ⟨hb,z⟩
    · exact .inl hb
section
variable {I : WIds} (hI : I.Ok)
def mcl : WLens MSt:=⟨fun S=>S.cursor,fun x S=>{ S with cursor:=x },fun x=>-1≤x∧x < 4611686018427387904⟩
def mel : WLens MSt:=⟨fun S=>S.seen,fun x S=>{ S with seen:=x },fun _=>True⟩
def mql (j : Nat) : WLens MSt:=⟨fun S=>S.num j,fun x S=>{ S with num:=upd S.num j x },fun _=>True⟩
def mrl : RLens MSt:=⟨fun S=>(S.st,S.va),fun r S=>{ S with st:=r.1,va:=r.2 }⟩
include hI
theorem m_cur : WordLay (multiY I) mcl I.M.cb where
  at_:=fun S=>by
    have:=hI.d1; have:=hI.d2; have:=hI.d3; have:=hI.d4; have:=hI.d5
    show layM I S I.M.cb 0 = _
    unfold layM
    rw [if_neg (by omega),if_neg (by omega),if_neg (by omega),if_neg (by omega),if_pos rfl,if_pos rfl]
    rfl
  turns:=fun S x=>turns_of ⟨_,by
    have:=hI.d1; have:=hI.d2; have:=hI.d3; have:=hI.d4; have:=hI.d5
    show layM I S I.M.cb 0 = some _
    unfold layM
    rw [if_neg (by omega),if_neg (by omega),if_neg (by omega),if_neg (by omega),if_pos rfl,if_pos rfl]⟩ fun b' o'=>by
    have:=hI.d1; have:=hI.d2; have:=hI.d3; have:=hI.d4; have:=hI.d5
    show layM I { S with cursor:=x } b' o' = if b' = I.M.cb∧o' = 0 then some (.int .i64 x) else layM I S b' o'
    by_cases h : b' = I.M.cb
    · subst h
      unfold layM
      simp only [show ¬ I.M.cb = I.wb by omega,show ¬ I.M.cb = I.M.mb by omega,show ¬ I.M.cb = I.M.rb by omega,show ¬ I.M.cb = I.M.gb by omega,if_false,if_true,true_and]
      split <;> rfl
    · rw [if_neg (fun z=>h z.1)]
      unfold layM
      simp only [if_neg h]
  ok:=fun S x h hx=>⟨hx.1,hx.2,h.f0,h.f1⟩
theorem m_seen : WordLay (multiY I) mel I.M.eb where
  at_:=fun S=>by
    have:=hI.d1; have:=hI.d2; have:=hI.d3; have:=hI.d4; have:=hI.d5
    show layM I S I.M.eb 0 = _
    unfold layM
    rw [if_neg (by omega),if_neg (by omega),if_neg (by omega),if_neg (by omega),if_neg (by omega),if_pos rfl,if_pos rfl]
    rfl
  turns:=fun S x=>turns_of ⟨_,by
    have:=hI.d1; have:=hI.d2; have:=hI.d3; have:=hI.d4; have:=hI.d5
    show layM I S I.M.eb 0 = some _
    unfold layM
    rw [if_neg (by omega),if_neg (by omega),if_neg (by omega),if_neg (by omega),if_neg (by omega),if_pos rfl,if_pos rfl]⟩ fun b' o'=>by
    have:=hI.d1; have:=hI.d2; have:=hI.d3; have:=hI.d4; have:=hI.d5
    show layM I { S with seen:=x } b' o' = if b' = I.M.eb∧o' = 0 then some (.int .i64 x) else layM I S b' o'
    by_cases h : b' = I.M.eb
    · subst h
      unfold layM
      simp only [show ¬ I.M.eb = I.wb by omega,show ¬ I.M.eb = I.M.mb by omega,show ¬ I.M.eb = I.M.rb by omega,show ¬ I.M.eb = I.M.gb by omega,show ¬ I.M.eb = I.M.cb by omega,if_false,if_true,true_and]
      split <;> rfl
    · rw [if_neg (fun z=>h z.1)]
      unfold layM
      simp only [if_neg h]
  ok:=fun S x h hx=>⟨h.c0,h.c1,h.f0,h.f1⟩
theorem m_read {j : Nat} (hj : j < I.k) (S : MSt) (o : Nat) : layM I S (I.qb j) o = if o = 0 then some (.int .i64 (S.num j)) else none:=by
  have h1:=hI.d1; have h2:=hI.d2; have h3:=hI.d3; have h4:=hI.d4; have h5:=hI.d5
  obtain ⟨h7,h8⟩:=hI.d7 j hj
  unfold layM
  rw [if_neg (by omega),if_neg (by omega),if_neg (by omega),if_neg (by omega),if_neg (by omega),if_neg (by omega),if_neg (fun z=>h8 z.2),WIds.find_q hI hj]
theorem m_num {j : Nat} (hj : j < I.k) : WordLay (multiY I) (mql j) (I.qb j) where
  at_:=fun (S : MSt)=>by
    show layM I S (I.qb j) 0 = _
    rw [m_read hI hj,if_pos rfl]
    rfl
  turns:=fun (S : MSt) x=>turns_of ⟨_,by
    show layM I S (I.qb j) 0 = some _
    rw [m_read hI hj,if_pos rfl]⟩ fun b' o'=>by
    show layM I { S with num:=upd S.num j x } b' o' = if b' = I.qb j∧o' = 0 then some (.int .i64 x) else layM I S b' o'
    by_cases h : b' = I.qb j
    · subst h
      rw [m_read hI hj,m_read hI hj]
      by_cases ho : o' = 0
      · rw [if_pos ho,if_pos ⟨rfl,ho⟩]
        simp [upd]
      · rw [if_neg ho,if_neg (fun z=>ho z.2)]
        simp [ho]
    · rw [if_neg (fun z=>h z.1)]
      unfold layM
      cases hf : I.find b' with
      | none=>rfl
      | some i =>
        have hi:=WIds.find_some hf
        have hne : i≠j:=fun e=>h (by rw [← hi.2,e])
        simp only [upd,if_neg hne]
  ok:=fun S x h hx=>⟨h.c0,h.c1,h.f0,h.f1⟩
theorem m_ring : RingLay (multiY I) mrl I.M.rb I.M.gb I.M.n where
  ring:=fun S=>by
    have:=hI.d1; have:=hI.d2; have:=hI.d3; have:=hI.d4; have:=hI.d5
    show layM I S I.M.rb 0 = _
    unfold layM
    rw [if_neg (by omega),if_neg (by omega),if_pos rfl,if_pos rfl]
  stamp:=fun S i hi=>by
    have:=hI.d1; have:=hI.d2; have:=hI.d3; have:=hI.d4; have:=hI.d5
    show layM I S I.M.gb (i * 2) = _
    unfold layM
    rw [if_neg (by omega),if_neg (by omega),if_neg (by omega),if_pos rfl,if_pos (by omega),if_pos (by omega),show i * 2 / 2 = i by omega]
    rfl
  value:=fun S i hi=>by
    have:=hI.d1; have:=hI.d2; have:=hI.d3; have:=hI.d4; have:=hI.d5
    show layM I S I.M.gb (i * 2 + 1) = _
    unfold layM
    rw [if_neg (by omega),if_neg (by omega),if_neg (by omega),if_pos rfl,if_pos (by omega),if_neg (by omega),show (i * 2 + 1) / 2 = i by omega]
    rfl
  tst:=fun S i hi x=>turns_of ⟨_,by
    have:=hI.d1; have:=hI.d2; have:=hI.d3; have:=hI.d4; have:=hI.d5
    show layM I S I.M.gb (i * 2) = some _
    unfold layM
    rw [if_neg (by omega),if_neg (by omega),if_neg (by omega),if_pos rfl,if_pos (by omega)]⟩ fun b' o'=>by
    have:=hI.d1; have:=hI.d2; have:=hI.d3; have:=hI.d4; have:=hI.d5
    show layM I { S with st:=upd S.st i x,va:=S.va } b' o' = if b' = I.M.gb∧o' = i * 2 then some (.int .i64 x) else layM I S b' o'
    by_cases h : b' = I.M.gb
    · subst h
      unfold layM
      simp only [show ¬ I.M.gb = I.wb by omega,show ¬ I.M.gb = I.M.mb by omega,show ¬ I.M.gb = I.M.rb by omega,if_false,if_true,true_and]
      by_cases ho : o' = i * 2
      · subst ho
        rw [if_pos rfl,if_pos (by omega),if_pos (by omega),show i * 2 / 2 = i by omega]
        simp [upd]
      · rw [if_neg ho]
        by_cases hp : o' % 2 = 0
        · have : o' / 2≠i:=by omega
          simp [upd,this]
        · simp [hp]
    · rw [if_neg (fun z=>h z.1)]
      unfold layM
      simp only [if_neg h]
  tva:=fun S i hi x=>turns_of ⟨_,by
    have:=hI.d1; have:=hI.d2; have:=hI.d3; have:=hI.d4; have:=hI.d5
    show layM I S I.M.gb (i * 2 + 1) = some _
    unfold layM
    rw [if_neg (by omega),if_neg (by omega),if_neg (by omega),if_pos rfl,if_pos (by omega)]⟩ fun b' o'=>by
    have:=hI.d1; have:=hI.d2; have:=hI.d3; have:=hI.d4; have:=hI.d5
    show layM I { S with st:=S.st,va:=upd S.va i x } b' o' = if b' = I.M.gb∧o' = i * 2 + 1 then some (.int .i64 x) else layM I S b' o'
    by_cases h : b' = I.M.gb
    · subst h
      unfold layM
      simp only [show ¬ I.M.gb = I.wb by omega,show ¬ I.M.gb = I.M.mb by omega,show ¬ I.M.gb = I.M.rb by omega,if_false,if_true,true_and]
      by_cases ho : o' = i * 2 + 1
      · subst ho
        rw [if_pos rfl,if_pos (by omega),if_neg (by omega),show (i * 2 + 1) / 2 = i by omega]
        simp [upd]
      · rw [if_neg ho]
        by_cases hp : o' % 2 = 0
        · simp [hp]
        · have : o' / 2≠i:=by omega
          simp [hp,upd,this]
    · rw [if_neg (fun z=>h z.1)]
      unfold layM
      simp only [if_neg h]
  ok:=fun S r h=>⟨h.c0,h.c1,h.f0,h.f1⟩
  pos:=hI.n0
  most:=hI.n2
  ne:=by have:=hI.d2; omega
theorem m_in {B : OpsB} {good : OpI→Prop} {L : Lg Try.prog (Tree (B.on (multiY I).inner good).St (B.on (multiY I).inner good).St)} {Cap : (Nat→Prop)→World→Prop} {V : Value} (hk : CapK Cap) (hS : SStep (B.on (multiY I).inner good) L Cap 79 V) (hS2 : SStep (B.on (multiY I).inner good) L Cap 85 V) : MultiIn (B.on (multiY I).inner good) L Cap V mrl mcl mel I.M where
  ring:=(m_ring hI).in_.law hk hS2 hI.n0 hI.n2
  cur:=(m_cur hI).in_.law hk hS
  seen:=(m_seen hI).in_.law hk hS
  rc:=fun s H w hr=>((m_ring hI).in_.at_ s H w hr).r.ring
  blk:=fun s H w hr=>by
    have:=hI.d1; have:=hI.d2; have:=hI.d3; have:=hI.d4; have:=hI.d5
    have ha : (multiY I).At s.1 w:=hr.at_
    have key : ∀ o v,layM I s.1 I.M.mb o = some v→w.cell? ⟨I.M.mb,o,none⟩ = some v:=fun o v h=>ha.cell _ _ _ h
    refine ⟨key 0 _ ?_,key 1 _ ?_,key 2 _ ?_,key 3 _ ?_⟩ <;> (unfold layM; rw [if_neg (by omega),if_pos rfl]; rfl)
  bd:=fun s H w hr=>by
    have ha : (multiY I).At s.1 w:=hr.at_
    exact ⟨ha.ok.c0,ha.ok.c1⟩
  cok:=fun x h0 h1=>⟨h0,h1⟩
  eok:=fun x=>trivial
  n0:=hI.n0
  n2:=hI.n2
  f0:=hI.f0
  f1:=hI.f1
theorem m_cf {i : Nat} (hi : i < 64) (S : MSt) (x : Int) : (multiY I).Turns S { S with cf:=upd S.cf i x } I.wb (2 + i * 2) (.int .i64 x):=turns_of ⟨_,by
    show layM I S I.wb (2 + i * 2) = some _
    unfold layM
    rw [if_pos rfl,if_neg (by omega),if_neg (by omega),if_pos (by omega)]⟩ fun b' o'=>by
  show layM I { S with cf:=upd S.cf i x } b' o' = if b' = I.wb∧o' = 2 + i * 2 then some (.int .i64 x) else layM I S b' o'
  by_cases h : b' = I.wb
  · subst h
    unfold layM
    simp only [if_true,true_and]
    by_cases ho : o' = 2 + i * 2
    · subst ho
      rw [if_pos rfl,if_neg (by omega),if_neg (by omega),if_pos (by omega),if_pos (by omega),show (2 + i * 2 - 2) / 2 = i by omega]
      simp [upd]
    · rw [if_neg ho]
      by_cases h0 : o' = 0
      · simp [h0]
      by_cases h1 : o' = 1
      · simp [h1]
      by_cases hp : o' % 2 = 0
      · have : (o' - 2) / 2≠i:=by omega
        simp [upd,this]
      · simp [hp]
  · rw [if_neg (fun z=>h z.1)]
    unfold layM
    simp only [if_neg h]
theorem m_cn {i : Nat} (hi : i < 64) (S : MSt) (x : Int) : (multiY I).Turns S { S with cn:=upd S.cn i x } I.wb (2 + i * 2 + 1) (.int .i64 x):=turns_of ⟨_,by
    show layM I S I.wb (2 + i * 2 + 1) = some _
    unfold layM
    rw [if_pos rfl,if_neg (by omega),if_neg (by omega),if_pos (by omega)]⟩ fun b' o'=>by
  show layM I { S with cn:=upd S.cn i x } b' o' = if b' = I.wb∧o' = 2 + i * 2 + 1 then some (.int .i64 x) else layM I S b' o'
  by_cases h : b' = I.wb
  · subst h
    unfold layM
    simp only [if_true,true_and]
    by_cases ho : o' = 2 + i * 2 + 1
    · subst ho
      rw [if_pos rfl,if_neg (by omega),if_neg (by omega),if_pos (by omega),if_neg (by omega),show (2 + i * 2 + 1 - 2) / 2 = i by omega]
      simp [upd]
    · rw [if_neg ho]
      by_cases h0 : o' = 0
      · simp [h0]
      by_cases h1 : o' = 1
      · simp [h1]
      by_cases hp : o' % 2 = 0
      · simp [hp]
      · have : (o' - 2) / 2≠i:=by omega
        simp [hp,upd,this]
  · rw [if_neg (fun z=>h z.1)]
    unfold layM
    simp only [if_neg h]
end
abbrev MSS : Type:=MSt × (Nat→List Ans)
def rleastT (j0 : Nat) : Nat→Int→Int→MSS→(Int→MSS→Tree (MSS) (MSS))→Tree (MSS) (MSS)
  | 0,l,_,s,k=>k l s
  | m + 1,l,p,s,k=>loadW (mql (j0 - (m + 1))) s fun v s=>if p < 0∨v < l then rleastT j0 m v (j0 - (m + 1) : Nat) s k else rleastT j0 m l p s k
abbrev frLe (f : Nat→Value) : Array Value:=#[f 0,f 1,f 2,f 3,f 4,f 5,f 6,f 7,f 8,f 9,f 10,f 11,f 12,f 13,f 14,f 15,f 16,f 17,f 18,f 19,f 20,f 21,f 22,f 23,f 24,f 25,f 26,f 27,f 28,f 29,f 30,f 31,f 32,f 33,f 34,f 35]
set_option maxHeartbeats 4000000 in
set_option maxRecDepth 100000 in
theorem readers_leastT {I : WIds} (hI : I.Ok) {B : OpsB} {good : OpI→Prop} {L : Lg Try.prog (Tree MSS MSS)} {Cap : (Nat→Prop)→World→Prop} {V : Value} (hk : CapK Cap) (hS : SStep (B.on (multiY I).inner good) L Cap 79 V) (H0 : Nat→Prop) (w0 : World) (s : MSS) (H : Nat→Prop) (w : World) (hn : Now (B.on (multiY I).inner good) Cap H0 w0 s H w) (cc : Int) (k : Int→MSS→Tree (MSS) (MSS)) :
    Ccalls L 130 #[.slice I.rA I.k I.rc,V,.int .i64 cc] (rleastT I.k I.k cc (-1) s k) w fun u t' w'=>∃ m p s' H',u = .tuple #[.int .i64 m,.int .i64 p]∧t' = k m s'∧Now (B.on (multiY I).inner good) Cap H0 w0 s' H' w':=by
  have hk64:=hI.k64
  intro c mid hR
  have HR:=Lib.hid hR
  have HN:=Lib.hid hn
  clear hR hn
  rw [show Frame.enter Try.prog 130 #[.slice I.rA I.k I.rc,V,.int .i64 cc] .normal = Frame.at { (default : Frame) with fn:=130,kind:=.normal } ⟨#[.slice I.rA I.k I.rc,V,.int .i64 cc] ++ Array.replicate (Try.f130.ntmps - 3) undef,[]⟩ [.code (Try.f130.body.getD .skip)] from by simp [Frame.enter,Frame.at,Try.func130]; rfl]
  simp only [Try.f130,Option.getD_some,Nat.reduceSub,Array.replicate_succ,Array.replicate_zero,List.push_toArray,List.append_toArray,List.nil_append,List.cons_append]
  repeat (first
    | with_reducible refine Lg.mv_seq _ ?_
    | with_reducible refine Lg.mv_skip _ ?_
    | with_reducible refine Lg.mv_block _ ?_
    | with_reducible refine Lg.mv_inBlock _ ?_
    | with_reducible refine Lg.mv_end _ ?_
    | ((with_reducible refine Lg.mv_condT _ ?_ ?_); exact rfl)
    | ((with_reducible refine Lg.mv_condF _ ?_ ?_); exact rfl)
    | ((with_reducible apply Lg.mv_exit); exact rfl)
    | (with_reducible refine Lg.mv_reg _ ?_
       intro K hK y τ n' hy
       subst hy
       have hn:=HN.out.re hk
       clear HN
       have HN:=Lib.hid hn
       clear hn
       go_wp2
       refine hK _ _ (fun _=>rfl) ?_
       clear hK K))
  refine Lg.family frLe (R:=fun f=>f 1 = V∧f 8 = .int .i64 cc∧f 9 = .int .i64 (-1)∧f 14 = .slice I.rA I.k I.rc∧f 15 = .int .i64 I.k∧f 16 = .int .i64 0) ?_ (by rfl) ⟨rfl,rfl,rfl,rfl,rfl,rfl⟩
  rintro f1 ⟨n1,n8,n9,n14,n15,n16⟩
  refine Lg.loop_fr frLe (fun f t w=>∃ j : Nat,j≤I.k∧∃ l p s' H',f 1 = V∧f 8 = .int .i64 l∧f 9 = .int .i64 p∧f 14 = .slice I.rA I.k I.rc∧f 15 = .int .i64 I.k∧f 16 = .int .i64 j∧t = rleastT I.k (I.k - j) l p s' k∧Now (B.on (multiY I).inner good) Cap H0 w0 s' H' w) (fun f _ _=>I.k - (intOf (f 16)).toNat) ⟨0,Nat.zero_le _,cc,-1,s,H,n1,n8,n9,n14,n15,n16,rfl,HN.out⟩ ?_
  clear HN n1 n8 n9 n14 n15 n16 f1 s H
  rintro f2 t w2 ⟨j,hj,l,p,s,H,k1,k8,k9,k14,k15,k16,rfl,hn⟩ hnext
  have HX:=Lib.hid hnext
  have HN:=Lib.hid hn
  clear hnext hn
  simp only [frLe,k1,k8,k9,k14,k15,k16]
  by_cases hlt : j < I.k
  · have hd : decide (j < I.k) = true:=decide_eq_true hlt
    have hb0 : (0 : Int)≤j:=by omega
    have hb1 : (j : Int) < I.k:=by omega
    have hrA:=hI.rAk (by omega)
    with_reducible refine Lg.mv_seq _ ?_
    with_reducible refine Lg.mv_reg _ ?_
    intro K hK y τ n' hy
    subst hy
    have hn:=HN.out.re hk
    clear HN
    have HN:=Lib.hid hn
    clear hn
    go_wp2
    refine hK _ _ (fun _=>rfl) ?_
    clear hK K
    with_reducible refine Lg.mv_seq _ ?_
    ((with_reducible refine Lg.mv_condT _ ?_ ?_); exact rfl)
    with_reducible refine Lg.mv_skip _ ?_
    with_reducible refine Lg.mv_seq _ ?_
    with_reducible refine Lg.mv_block _ ?_
    with_reducible refine Lg.mv_seq _ ?_
    with_reducible refine Lg.mv_reg _ ?_
    intro K hK y τ n' hy
    subst hy
    have hn:=HN.out.re hk
    clear HN
    have HN:=Lib.hid hn
    clear hn
    have hat:=(show (multiY I).At s.1 _ from HN.out.rep.at_)
    have hc : y.cell? ⟨I.lb,j,none⟩ = some (.pointer (some ⟨I.qb j,0,none⟩)):=hat.cell I.lb j _ (by
      have h1:=hI.d1; have h2:=hI.d2; have h3:=hI.d3; have h4:=hI.d4; have h5:=hI.d5; have h6:=hI.d6 (by omega)
      show layM I s.1 I.lb j = _
      unfold layM
      rw [if_neg (by omega),if_neg (by omega),if_neg (by omega),if_neg (by omega),if_neg (by omega),if_neg (by omega),if_pos ⟨by omega,rfl⟩,if_pos hlt])
    have HA:=Lib.hid hrA
    rw [hrA]
    clear hrA hat
    go_wp2
    refine hK _ _ (fun _=>rfl) ?_
    clear hK K hc
    with_reducible refine Lg.mv_seq _ ?_
    rw [show I.k - j = (I.k - j - 1) + 1 by omega]
    refine (show L.T (loadW (mql (I.k - (I.k - j - 1 + 1))) s fun v s=>if p < 0∨v < l then rleastT I.k (I.k - j - 1) v (I.k - (I.k - j - 1 + 1) : Nat) s k else rleastT I.k (I.k - j - 1) l p s k) _ _ _ from ?_)
    rw [show I.k - (I.k - j - 1 + 1) = j by omega]
    with_reducible refine Lg.mv_region _ ?_
    refine Lg.pre 0 2 2 (by simp) fun K hK y τ n' hy=>?_
    subst hy
    have hn:=HN.out.re hk
    clear HN
    have HN:=Lib.hid hn
    clear hn
    simp only [List.drop_zero,List.take_succ_cons,List.take_zero]
    go_wp2
    refine hK _ _ (fun _=>rfl) ?_
    clear hK K
    refine Lg.call (i:=2) (rest:=[3]) (f:=49) (args:=#[.pointer (some ⟨I.qb j,0,none⟩),V]) rfl rfl (fun y=>by go_simp) (word_loadT (m_num hI hlt).in_ hk hS _ _ _ _ _ HN.out _) ?_
    rintro vv t' w' ⟨v,s,H,rfl,-,rfl,hn⟩
    clear HN hd
    by_cases hp : p < 0
    · rw [if_pos (.inl hp)]
      have hd : decide (p < 0) = true:=decide_eq_true hp
      rw [Frame.finish_at]
      walk_nrm
      have HN:=Lib.hid hn
      clear hn
      refine (show L.T _ (Frame.at _ ⟨_,[]⟩ (.inRegion _ (List.range' 3 (1 + 0)) :: _)) (c :: mid) _ from ?_)
      refine Lg.pre 3 1 0 (by simp) fun K hK y τ n' hy=>?_
      subst hy
      have hn:=HN.out.re hk
      clear HN
      have HN:=Lib.hid hn
      clear hn
      simp only [List.drop_succ_cons,List.drop_zero,List.take_succ_cons,List.take_zero]
      go_wp2
      refine hK _ _ (fun _=>rfl) ?_
      clear hK K
      refine Lg.move _ (fun _ _=>step_region_end) (fun h=>h) ?_
      repeat (first
        | with_reducible refine Lg.mv_seq _ ?_
        | with_reducible refine Lg.mv_skip _ ?_
        | with_reducible refine Lg.mv_block _ ?_
        | with_reducible refine Lg.mv_inBlock _ ?_
        | with_reducible refine Lg.mv_end _ ?_
        | ((with_reducible refine Lg.mv_condT _ ?_ ?_); exact rfl)
        | ((with_reducible refine Lg.mv_condF _ ?_ ?_); exact rfl)
        | ((with_reducible apply Lg.mv_exit); exact rfl)
        | (with_reducible refine Lg.mv_reg _ ?_
           intro K hK y τ n' hy
           subst hy
           have hn:=HN.out.re hk
           clear HN
           have HN:=Lib.hid hn
           clear hn
           go_wp2
           refine hK _ _ (fun _=>rfl) ?_
           clear hK K))
      rw [← HA.out]
      refine Lg.family frLe (R:=fun f=>f 1 = V∧f 8 = .int .i64 v∧f 9 = .int .i64 j∧f 14 = .slice I.rA I.k I.rc∧f 15 = .int .i64 I.k∧f 16 = .int .i64 ((j + 1 : Nat) : Int)) ?_ (by rfl) ⟨rfl,rfl,rfl,rfl,rfl,by simp⟩
      rintro f' ⟨p1,p8,p9,p14,p15,p16⟩
      exact HX.out f' _ _ ⟨j + 1,by omega,v,j,s,H,p1,p8,p9,p14,p15,p16,by rw [show I.k - j - 1 = I.k - (j + 1) by omega],HN.out⟩ (by rw [p16,k16]; simp only [intOf]; omega)
    · have hd : decide (p < 0) = false:=decide_eq_false hp
      by_cases hv : v < l
      · rw [if_pos (.inr hv)]
        have hd2 : decide (v < l) = true:=decide_eq_true hv
        rw [Frame.finish_at]
        walk_nrm
        have HN:=Lib.hid hn
        clear hn
        refine (show L.T _ (Frame.at _ ⟨_,[]⟩ (.inRegion _ (List.range' 3 (1 + 0)) :: _)) (c :: mid) _ from ?_)
        refine Lg.pre 3 1 0 (by simp) fun K hK y τ n' hy=>?_
        subst hy
        have hn:=HN.out.re hk
        clear HN
        have HN:=Lib.hid hn
        clear hn
        simp only [List.drop_succ_cons,List.drop_zero,List.take_succ_cons,List.take_zero]
        go_wp2
        refine hK _ _ (fun _=>rfl) ?_
        clear hK K
        refine Lg.move _ (fun _ _=>step_region_end) (fun h=>h) ?_
        repeat (first
          | with_reducible refine Lg.mv_seq _ ?_
          | with_reducible refine Lg.mv_skip _ ?_
          | with_reducible refine Lg.mv_block _ ?_
          | with_reducible refine Lg.mv_inBlock _ ?_
          | with_reducible refine Lg.mv_end _ ?_
          | ((with_reducible refine Lg.mv_condT _ ?_ ?_); exact rfl)
          | ((with_reducible refine Lg.mv_condF _ ?_ ?_); exact rfl)
          | ((with_reducible apply Lg.mv_exit); exact rfl)
          | (with_reducible refine Lg.mv_reg _ ?_
             intro K hK y τ n' hy
             subst hy
             have hn:=HN.out.re hk
             clear HN
             have HN:=Lib.hid hn
             clear hn
             go_wp2
             refine hK _ _ (fun _=>rfl) ?_
             clear hK K))
        rw [← HA.out]
        refine Lg.family frLe (R:=fun f=>f 1 = V∧f 8 = .int .i64 v∧f 9 = .int .i64 j∧f 14 = .slice I.rA I.k I.rc∧f 15 = .int .i64 I.k∧f 16 = .int .i64 ((j + 1 : Nat) : Int)) ?_ (by rfl) ⟨rfl,rfl,rfl,rfl,rfl,by simp⟩
        rintro f' ⟨p1,p8,p9,p14,p15,p16⟩
        exact HX.out f' _ _ ⟨j + 1,by omega,v,j,s,H,p1,p8,p9,p14,p15,p16,by rw [show I.k - j - 1 = I.k - (j + 1) by omega],HN.out⟩ (by rw [p16,k16]; simp only [intOf]; omega)
      · rw [if_neg (by omega)]
        have hd2 : decide (v < l) = false:=decide_eq_false hv
        rw [Frame.finish_at]
        walk_nrm
        have HN:=Lib.hid hn
        clear hn
        refine (show L.T _ (Frame.at _ ⟨_,[]⟩ (.inRegion _ (List.range' 3 (1 + 0)) :: _)) (c :: mid) _ from ?_)
        refine Lg.pre 3 1 0 (by simp) fun K hK y τ n' hy=>?_
        subst hy
        have hn:=HN.out.re hk
        clear HN
        have HN:=Lib.hid hn
        clear hn
        simp only [List.drop_succ_cons,List.drop_zero,List.take_succ_cons,List.take_zero]
        go_wp2
        refine hK _ _ (fun _=>rfl) ?_
        clear hK K
        refine Lg.move _ (fun _ _=>step_region_end) (fun h=>h) ?_
        repeat (first
          | with_reducible refine Lg.mv_seq _ ?_
          | with_reducible refine Lg.mv_skip _ ?_
          | with_reducible refine Lg.mv_block _ ?_
          | with_reducible refine Lg.mv_inBlock _ ?_
          | with_reducible refine Lg.mv_end _ ?_
          | ((with_reducible refine Lg.mv_condT _ ?_ ?_); exact rfl)
          | ((with_reducible refine Lg.mv_condF _ ?_ ?_); exact rfl)
          | ((with_reducible apply Lg.mv_exit); exact rfl)
          | (with_reducible refine Lg.mv_reg _ ?_
             intro K hK y τ n' hy
             subst hy
             have hn:=HN.out.re hk
             clear HN
             have HN:=Lib.hid hn
             clear hn
             go_wp2
             refine hK _ _ (fun _=>rfl) ?_
             clear hK K))
        rw [← HA.out]
        refine Lg.family frLe (R:=fun f=>f 1 = V∧f 8 = .int .i64 l∧f 9 = .int .i64 p∧f 14 = .slice I.rA I.k I.rc∧f 15 = .int .i64 I.k∧f 16 = .int .i64 ((j + 1 : Nat) : Int)) ?_ (by rfl) ⟨rfl,rfl,rfl,rfl,rfl,by simp⟩
        rintro f' ⟨p1,p8,p9,p14,p15,p16⟩
        exact HX.out f' _ _ ⟨j + 1,by omega,l,p,s,H,p1,p8,p9,p14,p15,p16,by rw [show I.k - j - 1 = I.k - (j + 1) by omega],HN.out⟩ (by rw [p16,k16]; simp only [intOf]; omega)
  · have hd : decide (j < I.k) = false:=decide_eq_false hlt
    obtain rfl : j = I.k:=by omega
    repeat (first
      | with_reducible refine Lg.mv_seq _ ?_
      | with_reducible refine Lg.mv_skip _ ?_
      | with_reducible refine Lg.mv_block _ ?_
      | with_reducible refine Lg.mv_inBlock _ ?_
      | with_reducible refine Lg.mv_end _ ?_
      | ((with_reducible refine Lg.mv_condT _ ?_ ?_); exact rfl)
      | ((with_reducible refine Lg.mv_condF _ ?_ ?_); exact rfl)
      | ((with_reducible apply Lg.mv_exit); exact rfl)
      | (with_reducible refine Lg.mv_reg _ ?_
         intro K hK y τ n' hy
         subst hy
         have hn:=HN.out.re hk
         clear HN
         have HN:=Lib.hid hn
         clear hn
         go_wp2
         refine hK _ _ (fun _=>rfl) ?_
         clear hK K))
    rw [show rleastT I.k (I.k - I.k) l p s k = k l s from by rw [Nat.sub_self]; rfl]
    with_reducible refine Lg.mv_ret _ ?_
    exact Lg.leave rfl Try.func130 rfl (v:=.tuple #[.int .i64 l,.int .i64 p]) (fun _ _ _ _=>by simp [results,Try.f130]) (HR.out _ _ _ ⟨l,p,s,H,rfl,rfl,HN.out⟩)
theorem readers_hold {I : WIds} (hI : I.Ok) {B : OpsB} {good : OpI→Prop} {L : Lg Try.prog (Tree MSS MSS)} {Cap : (Nat→Prop)→World→Prop} {V : Value} (hk : CapK Cap) (hS : SStep (B.on (multiY I).inner good) L Cap 79 V) : HoldIn (B.on (multiY I).inner good) L Cap V 159 (.slice I.rA I.k I.rc) (fun c s k=>rleastT I.k I.k c (-1) s k):=
  ⟨130,fun m w=>by kernel_rfl,fun args w=>by kernel_rfl,fun H0 w0 s H w hn c k=>readers_leastT hI hk hS H0 w0 s H w hn c k⟩
theorem Try.intInfo : (Try.prog.info? 2).map (fun i=>(i.zero,i.size,i.bytes)) = some (some (.int .i64 0),1,8):=by kernel_rfl
def rowV (a : Int) (m : Nat) : List Int:=(List.range m).map fun (j : Nat)=>wrap64 (a + j)
def wcountM (n : Nat) (b : Int) : Nat:=(min (max b 0) ((n : Int) + 1)).toNat
theorem cell_keep' {w w' : World} {b i : Nat} {v : Value} (h : w.cell? ⟨b,i,none⟩ = some v) (k : Kept (fun _=>False) w w') : w'.cell? ⟨b,i,none⟩ = some v:=(World.cell?_of_block (w:=w) (a:=⟨b,i,none⟩) (k.block b (lt_of_cell h) id)).trans h
def SG (o : OpI) : Prop:=-9223372036854775808≤o.a∧o.a < 9223372036854775808∧-9223372036854775808≤o.b∧o.b < 9223372036854775808
def toldN (n e : Int) : Int:=if e = 0 then n else e
def ansT (n e : Int) : Ans:=⟨e == 0,toldN n e,[]⟩
theorem upd_all {P : Int→Prop} {f : Nat→Int} {i : Nat} {x : Int} (h1 : P x) (h2 : ∀ j,P (f j)) (j : Nat) : P (upd f i x j):=by
  unfold upd
  split
  · exact h1
  · exact h2 j
def clm (s : MSS) (i : Nat) (x n : Int) : MSS:=({ s.1 with cf:=upd s.1.cf i x,cn:=upd s.1.cn i n },s.2)
def doM (M : MIds) (k : Nat) (i : Nat) : DoQ MSt:=fun o st kk =>
  if o.kind = 1 then claimM mrl mcl mel M (fun c s kk=>rleastT k k c (-1) s kk) o.a st fun x e s=>kk (ansT x e) (if e = 0 then clm s i (x - o.a + 1) o.a else s)
  else if o.kind = 2 then (if o.a < 0∨st.1.cn i≤o.a then kk ⟨false,0,[]⟩ st else putG mrl M.n (st.1.cf i + o.a) o.c st fun e s=>kk ⟨e == 0,0,[]⟩ s)
  else if o.kind = 3 then offerT mrl mcl mel M (fun c s kk=>rleastT k k c (-1) s kk) (rowV o.a (wcountM M.n o.b)) st fun x e s=>kk (ansT x e) s
  else if o.kind = 4 then loadW mcl st fun x s=>kk ⟨true,x,[]⟩ s
  else if o.kind = 5 then pubT mrl mcl M o.a st fun x s=>kk ⟨true,x,[]⟩ s
  else if o.kind = 6 then getG mrl M.n o.a st fun x e s=>kk (ansT x e) s
  else if o.kind = 7 then (if o.a < 0∨(k : Int)≤o.a then kk ⟨false,0,[]⟩ st else storeW (mql o.a.toNat) o.b st fun s=>kk ⟨true,0,[]⟩ s)
  else kk ⟨false,0,[]⟩ st
theorem Own1.drewN {D : OpsD} {w0 y : World} {H : Nat→Prop} {b : Nat} {t : TypeId} {cs : Array Value} (h : Own1 D w0 H y b t cs) (n : Nat) : Own1 D w0 H (y.drewN n) b t cs:=⟨h.blk.drewN n,h.nh,h.ge,h.nr⟩
theorem multi_told (n e : Int) (w : World) : Calls Try.prog 65 #[.int .i64 n,.int .i64 e] w fun x w'=>x = .returned (.agg #[.bool (e == 0),.int .i64 (toldN n e),.slice none 0 0])∧Kept (fun _=>False) w w':=by
  by_cases h : e = 0
  · subst h
    rw [show toldN n 0 = n from rfl]
    go_enter Try.func65,Try.ntmps65
    go_wp2
    try simp only [Exit.inBlock,Exit.then]
    refine bodyPost_ret (v:=.agg #[.bool (0 == 0),.int .i64 n,.slice none 0 0]) ?_ rfl ⟨rfl,?_⟩
    · simp [results,Try.f65,go_sem]
    exact Kept.alloc _ _
  · have h0 : (e == 0) = false:=by simpa using h
    have h1 : (e != 0) = true:=by simpa using h
    rw [show toldN n e = e from if_neg h,h0]
    clear h h0
    go_enter Try.func65,Try.ntmps65
    go_wp2
    try simp only [Exit.inBlock,Exit.then]
    refine bodyPost_ret (v:=.agg #[.bool false,.int .i64 e,.slice none 0 0]) ?_ rfl ⟨rfl,?_⟩
    · simp [results,Try.f65,go_sem]
    exact Kept.alloc _ _
def MDS (I : WIds) (i b5 : Nat) (o : OpI) (w : World) : Prop:=
  (w.cell? ⟨b5,0,none⟩ = some (.int .i64 o.kind)∧w.cell? ⟨b5,1,none⟩ = some (.int .i64 o.a)∧w.cell? ⟨b5,2,none⟩ = some (.int .i64 o.b)∧w.cell? ⟨b5,3,none⟩ = some (.int .i64 o.c)) ∧
  w.cell? ⟨I.wb,0,none⟩ = some (.pointer (some ⟨I.M.mb,0,none⟩))∧w.cell? ⟨I.wb,1,none⟩ = some (.slice I.rA I.k I.rc)∧w.cell? ⟨I.M.mb,0,none⟩ = some (.pointer (some ⟨I.M.rb,0,none⟩))∧w.cell? ⟨I.M.rb,0,none⟩ = some (.slice (some ⟨I.M.gb,0,none⟩) I.M.n I.M.n)
theorem Lay.At.world {I : WIds} (hI : I.Ok) {S : MSt} {w : World} (h : (multiY I).At S w) : w.cell? ⟨I.wb,0,none⟩ = some (.pointer (some ⟨I.M.mb,0,none⟩))∧w.cell? ⟨I.wb,1,none⟩ = some (.slice I.rA I.k I.rc)∧w.cell? ⟨I.M.mb,0,none⟩ = some (.pointer (some ⟨I.M.rb,0,none⟩))∧w.cell? ⟨I.M.rb,0,none⟩ = some (.slice (some ⟨I.M.gb,0,none⟩) I.M.n I.M.n):=by
  have h1:=hI.d1; have h2:=hI.d2; have h3:=hI.d3; have h4:=hI.d4; have h5:=hI.d5
  refine ⟨h.cell I.wb 0 _ ?_,h.cell I.wb 1 _ ?_,h.cell I.M.mb 0 _ ?_,h.cell I.M.rb 0 _ ?_⟩
  · show layM I S I.wb 0 = _; unfold layM; rw [if_pos rfl,if_pos rfl]
  · show layM I S I.wb 1 = _; unfold layM; rw [if_pos rfl,if_neg (by omega),if_pos rfl]
  · show layM I S I.M.mb 0 = _; unfold layM; rw [if_neg (by omega),if_pos rfl,if_pos rfl]
  · show layM I S I.M.rb 0 = _; unfold layM; rw [if_neg (by omega),if_neg (by omega),if_pos rfl,if_pos rfl]
theorem Lay.At.claim {I : WIds} {S : MSt} {w : World} (h : (multiY I).At S w) {i : Nat} (hi : i < 64) : w.cell? ⟨I.wb,2 + i * 2,none⟩ = some (.int .i64 (S.cf i))∧w.cell? ⟨I.wb,2 + i * 2 + 1,none⟩ = some (.int .i64 (S.cn i)):=by
  refine ⟨h.cell I.wb _ _ ?_,h.cell I.wb _ _ ?_⟩
  · show layM I S I.wb (2 + i * 2) = _; unfold layM; rw [if_pos rfl,if_neg (by omega),if_neg (by omega),if_pos (by omega),if_pos (by omega),show (2 + i * 2 - 2) / 2 = i by omega]
  · show layM I S I.wb (2 + i * 2 + 1) = _; unfold layM; rw [if_pos rfl,if_neg (by omega),if_neg (by omega),if_pos (by omega),if_neg (by omega),show (2 + i * 2 + 1 - 2) / 2 = i by omega]
theorem mds_of {I : WIds} (hI : I.Ok) {B : OpsB} {good : OpI→Prop} {Cap : (Nat→Prop)→World→Prop} {H0 H : Nat→Prop} {w0 w : World} {s : MSS} (hn : Now (B.on (multiY I).inner good) Cap H0 w0 s H w) {b5 i : Nat} {o : OpI} (hb5 : Own1 (B.on (multiY I).inner good) w0 H w b5 87 #[.int .i64 o.kind,.int .i64 o.a,.int .i64 o.b,.int .i64 o.c]) : MDS I i b5 o w:=
  ⟨⟨hb5.blk.cell 0,hb5.blk.cell 1,hb5.blk.cell 2,hb5.blk.cell 3⟩,Lay.At.world hI (show (multiY I).At s.1 _ from hn.rep.at_)⟩
set_option maxRecDepth 100000 in
theorem wordNew (v : Int) (w : World) : Calls Try.prog 48 #[.int .i64 v] w fun e w'=>e = .returned (.pointer (some ⟨w.heap.size,0,none⟩))∧w.alloc (.cells #[.int .i64 v] 186) = w':=by
  have c : (w.alloc (.cells #[.int .i64 0] 186)).cell? ⟨w.heap.size,0,none⟩ = some (.int .i64 0):=(Blk.new w 186 #[.int .i64 0]).cell 0
  have z:=(Blk.new w 186 #[.int .i64 0]).frozen 0
  go_enter Try.func48,Try.ntmps48
  go_wp2_with (go_at_call 78; refine (atomic_store _ v 0 _ c z).mono ?_; rintro e w' ⟨rfl,rfl⟩)
  go_ret
  refine ⟨rfl,?_⟩
  simp
set_option maxHeartbeats 1000000 in
set_option maxRecDepth 100000 in
theorem multi_newF (n : Nat) (fs : Int) (w : World) (hn : 0 < n) (h2 : n≤65536) (hb : (bits BinOp.and IntKind.i64 (n : Int) ((n : Int) - 1) != 0) = false) (hf0 : 0≤fs) (hf1 : fs < 4611686018427387904) : Calls Try.prog 17 #[.int .i64 n,.int .i64 fs] w fun e w'=>e = .returned (.tuple #[.pointer (some ⟨w.heap.size + 4,0,none⟩),.int .i64 0]) ∧
    RingAt w' (w.heap.size + 1) w.heap.size n (fun _=>-2) (fun _=>0)∧NearB w' w.heap.size∧NearB w' (w.heap.size + 1)∧Blk w' (w.heap.size + 2) 186 #[.int .i64 (fs - 1)]∧Blk w' (w.heap.size + 3) 186 #[.int .i64 (fs - 1)] ∧
    Blk w' (w.heap.size + 4) 81 #[.pointer (some ⟨w.heap.size + 1,0,none⟩),.int .i64 fs,.pointer (some ⟨w.heap.size + 2,0,none⟩),.pointer (some ⟨w.heap.size + 3,0,none⟩)]∧Below w.heap.size w w'∧w'.heap.size = w.heap.size + 5:=by
  have hd1 : decide (fs < 0) = false:=by simpa using hf0
  have hd2 : decide (4611686018427387904≤fs) = false:=by simpa using hf1
  go_enter Try.func17,Try.ntmps17
  go_wp2_with fail
  refine (new_near n w hn h2 hb).mono ?_
  rintro e w1 ⟨rfl,R1,B1,Z1,N0,N1⟩
  have HS:=Lib.hid (And.intro R1 (And.intro B1 (And.intro Z1 (And.intro N0 N1))))
  clear R1 B1 Z1 hb N0 N1
  go_wp2_with fail
  refine (wordNew (fs - 1) w1).mono ?_
  rintro e w2 ⟨rfl,hw2⟩
  go_wp2_with fail
  refine (wordNew (fs - 1) w2).mono ?_
  rintro e w3 ⟨rfl,hw3⟩
  have HW:=Lib.hid (And.intro hw2 hw3)
  clear hw2 hw3
  go_wp2
  go_ret2
  obtain ⟨R1,B1,Z1,N0,N1⟩:=HS.out
  obtain ⟨rfl,rfl⟩:=HW.out
  have e1 : w1.heap.size = w.heap.size + 2:=Z1
  have k2 : Kept (fun _=>False) w1 (((w1.alloc (.cells #[.int .i64 (fs - 1)] 186)).alloc (.cells #[.int .i64 (fs - 1)] 186)).alloc (.cells #[.pointer (some ⟨w.heap.size + 1,0,none⟩),.int .i64 fs,.pointer (some ⟨w1.heap.size,0,none⟩),.pointer (some ⟨(w1.alloc (.cells #[.int .i64 (fs - 1)] 186)).heap.size,0,none⟩)] 81)):=((Kept.alloc _ _).trans (Kept.alloc _ _)).trans (Kept.alloc _ _)
  have b1:=((Blk.new w1 186 #[.int .i64 (fs - 1)]).alloc (.cells #[.int .i64 (fs - 1)] 186)).alloc (.cells #[.pointer (some ⟨w.heap.size + 1,0,none⟩),.int .i64 fs,.pointer (some ⟨w1.heap.size,0,none⟩),.pointer (some ⟨(w1.alloc (.cells #[.int .i64 (fs - 1)] 186)).heap.size,0,none⟩)] 81)
  have b2:=(Blk.new (w1.alloc (.cells #[.int .i64 (fs - 1)] 186)) 186 #[.int .i64 (fs - 1)]).alloc (.cells #[.pointer (some ⟨w.heap.size + 1,0,none⟩),.int .i64 fs,.pointer (some ⟨w1.heap.size,0,none⟩),.pointer (some ⟨(w1.alloc (.cells #[.int .i64 (fs - 1)] 186)).heap.size,0,none⟩)] 81)
  have b3:=Blk.new ((w1.alloc (.cells #[.int .i64 (fs - 1)] 186)).alloc (.cells #[.int .i64 (fs - 1)] 186)) 81 #[.pointer (some ⟨w.heap.size + 1,0,none⟩),.int .i64 fs,.pointer (some ⟨w1.heap.size,0,none⟩),.pointer (some ⟨(w1.alloc (.cells #[.int .i64 (fs - 1)] 186)).heap.size,0,none⟩)]
  have bb:=((B1.alloc B1.size (.cells #[.int .i64 (fs - 1)] 186)).alloc (by have:=B1.size; rw [World.size_alloc]; omega) (.cells #[.int .i64 (fs - 1)] 186)).alloc (by have:=B1.size; rw [World.size_alloc,World.size_alloc]; omega) (.cells #[.pointer (some ⟨w.heap.size + 1,0,none⟩),.int .i64 fs,.pointer (some ⟨w1.heap.size,0,none⟩),.pointer (some ⟨(w1.alloc (.cells #[.int .i64 (fs - 1)] 186)).heap.size,0,none⟩)] 81)
  have near : ∀ b,b < w1.heap.size→NearB w1 b→NearB (((w1.alloc (.cells #[.int .i64 (fs - 1)] 186)).alloc (.cells #[.int .i64 (fs - 1)] 186)).alloc (.cells #[.pointer (some ⟨w.heap.size + 1,0,none⟩),.int .i64 fs,.pointer (some ⟨w1.heap.size,0,none⟩),.pointer (some ⟨(w1.alloc (.cells #[.int .i64 (fs - 1)] 186)).heap.size,0,none⟩)] 81)) b:=fun b hlt ⟨c,t,h⟩=>⟨c,t,(k2.block b hlt id).trans h⟩
  have n0:=near _ (by omega) N0
  have n1:=near _ (by omega) N1
  simp only [World.size_alloc,e1] at b1 b2 b3 k2 bb n0 n1 ⊢
  exact ⟨rfl,R1.kept k2 id id,n0,n1,b1,b2,b3,bb,trivial⟩
end Go.Proofs.Ytoepekcheapgmaa
