/- DERIVED. What the statements of layer 12 hand to a Play. -/
import Derived.Test.YtlcplealnbekeaaGh
import Derived.Test.YtlcplealnbekeaaGi
import Derived.Test.YtlcplealnbekeaaGl
import Derived.Test.YtlcplealnbekeaaGd
/- DERIVED. 'laid' of the statements of layer 12: what it is handed, and what it builds. -/
namespace Go.Proofs.Ytlcplealnbekeaa
open Go.RowKit Go.Turn Go.Tame Go.Conc
set_option linter.unusedVariables false
set_option linter.unusedSectionVars false
set_option linter.unusedSimpArgs false
/-- What is handed in. -/
structure Sm where
  sz : Int
  rd : Int
  wA : Option Addr
  ws : List Int
  wc : Nat
  rA : Option Addr
  rn : Nat
  rc : Nat
  A : Nat → Option Addr
  rows : Nat → List Int
  cap : Nat → Nat
  sA : Option Addr
  xs : List Int
  sc : Nat
def Sm.vals (s : Sm) : Array Value := #[.int .u8 s.sz, .int .u8 s.rd, .slice s.wA s.ws.length s.wc, .slice s.rA s.rn s.rc, .slice s.sA s.xs.length s.sc]
/-- Bytes that lie in a world. -/
structure BytesAt (W w : World) (A : Option Addr) (cap : Nat) (l : List Int) : Prop where
  le : l.length ≤ cap
  mx : cap ≤ maxLen
  nil : A = none → cap = 0
  at_ : ∀ i, i < l.length → ∃ b o, A = some ⟨b, o, none⟩ ∧ b < W.heap.size ∧ w.cell? ⟨b, o + i, none⟩ = some (.int .u8 (l.getD i 0))
  bd : ∀ x ∈ l, 0 ≤ x ∧ x < 256
structure Sm.At (s : Sm) (W w : World) : Prop where
  sz : 0 ≤ s.sz ∧ s.sz < 256
  rd : 0 ≤ s.rd ∧ s.rd < 256
  ws : BytesAt W w s.wA s.wc s.ws
  rle : s.rn ≤ s.rc
  rmx : s.rc ≤ maxLen
  rnil : s.rA = none → s.rc = 0
  row : ∀ i, i < s.rn → (∃ b o, s.rA = some ⟨b, o, none⟩ ∧ b < W.heap.size ∧ w.cell? ⟨b, o + i, none⟩ = some (.slice (s.A i) (s.rows i).length (s.cap i))) ∧ BytesAt W w (s.A i) (s.cap i) (s.rows i)
  sle : s.xs.length ≤ s.sc
  smx : s.sc ≤ maxLen
  snil : s.sA = none → s.sc = 0
  sch : ∀ i, i < s.xs.length → ∃ b o, s.sA = some ⟨b, o, none⟩ ∧ b < W.heap.size ∧ w.cell? ⟨b, o + i, none⟩ = some (.int .i64 (s.xs.getD i 0))
def Sm.size (s : Sm) : Nat := 2 ^ (s.sz % 4).toNat
def Sm.nr (s : Sm) : Nat := (s.rd % 4).toNat
/-- The writer's operations. -/
def wOp (n : Nat) (j : Nat) (v : Int) : OpI := ⟨4, 100 + 10 * j, 1 + v % n, 0⟩
def wOps (n : Nat) (l : List Int) : List OpI := l.mapIdx (wOp n)
/-- A reader's operation. -/
def rOp (v : Int) : OpI := if 0 < v % 4 then ⟨6, v % 4, 0, 0⟩ else ⟨5, 0, 0, 0⟩
def Sm.ops (s : Sm) (i : Nat) : List OpI := if i = 0 then wOps s.size (s.ws.take 12) else if i - 1 < s.rn then ((s.rows (i - 1)).take 12).map rOp else []
theorem wOps_snoc (n : Nat) (l : List Int) (v : Int) : wOps n (l ++ [v]) = wOps n l ++ [wOp n l.length v] := by simp [wOps, List.mapIdx_append]
section
variable {W w w' : World} {A : Option Addr} {cap : Nat} {l : List Int}
theorem BytesAt.keep (h : BytesAt W w A cap l) (hk : ∀ b o v, b < W.heap.size → w.cell? ⟨b, o, none⟩ = some v → w'.cell? ⟨b, o, none⟩ = some v) : BytesAt W w' A cap l :=
  ⟨h.le, h.mx, h.nil, fun i hi => by obtain ⟨b, o, h1, h2, h3⟩ := h.at_ i hi; exact ⟨b, o, h1, h2, hk _ _ _ h2 h3⟩, h.bd⟩
theorem Sm.At.keep {s : Sm} (h : s.At W w) (hk : ∀ b o v, b < W.heap.size → w.cell? ⟨b, o, none⟩ = some v → w'.cell? ⟨b, o, none⟩ = some v) : s.At W w' :=
  ⟨h.sz, h.rd, h.ws.keep hk, h.rle, h.rmx, h.rnil, fun i hi => ⟨by obtain ⟨b, o, h1, h2, h3⟩ := (h.row i hi).1; exact ⟨b, o, h1, h2, hk _ _ _ h2 h3⟩, (h.row i hi).2.keep hk⟩, h.sle, h.smx, h.snil, fun i hi => by obtain ⟨b, o, h1, h2, h3⟩ := h.sch i hi; exact ⟨b, o, h1, h2, hk _ _ _ h2 h3⟩⟩
theorem cells_kept (hW : W.heap.size ≤ w.heap.size) (k : Kept (fun _ => False) w w') : ∀ b o v, b < W.heap.size → w.cell? ⟨b, o, none⟩ = some v → w'.cell? ⟨b, o, none⟩ = some v := fun b o v hb h =>
  (World.cell?_of_block (w := w) (a := ⟨b, o, none⟩) (k.block b (by omega) id)).trans h
end
/-- A piece of code whose slots are forgotten, but for what is said of them. -/
theorem wp_codeF {P : Program} {c : Code} {Q : Exit → Act → World → Prop} {a : Act} {w : World} (ns : List Nat) (R : (Nat → Value) → World → Prop) (h : c.wp P (Exit.then (Fra a ns R) fun _ _ _ => False) a w) (hT : ∀ f w', R f w' → Q .normal ⟨fill f a.tmps ns, a.defers⟩ w') : c.wp P Q a w :=
  wp_mono h fun e a' w' q => by
    cases e with
    | normal =>
      obtain ⟨f, rfl, hR⟩ := Fra.eq q
      exact hT f w' hR
    | _ => exact q.elim
/-- What 'laid' leaves: rows of its own. -/
structure LaidS (s : Sm) (B : Nat) (tA : Option Addr) (tc : Nat) (rows : Nat → Value) (j : Nat) (w : World) : Prop where
  t : w.ownsRow B 44 1 (.slice tA j tc) j ((List.range j).map rows)
  r : ∀ i, i < j → w.ownsRow B 46 4 (rows i) (s.ops i).length (opCells (s.ops i))
theorem LaidS.snoc {s : Sm} {B j tc tc' : Nat} {tA tA' : Option Addr} {rows : Nat → Value} {w w1 w2 : World} {r : Value} {t : TypeId} (C : LaidS s B tA tc rows j w) (hB : B ≤ w.heap.size) (k1 : Kept (fun _ => False) w w1) (h1 : w1.ownsRow w.heap.size 46 4 r (s.ops j).length (opCells (s.ops j)))
    (h2 : w2.ownsRow B 44 1 (.slice tA' (j + 1) tc') (j + 1) ((List.range j).map rows ++ [r])) (k2 : Kept (fun b => (Value.slice tA j tc).ownBlock = some b) (w1.alloc (.cells #[r] t)) w2) : LaidS s B tA' tc' (fun i => if i = j then r else rows i) (j + 1) w2 := by
  have k3 : Kept (fun _ => False) w (w1.alloc (.cells #[r] t)) := k1.trans (Kept.alloc _ _)
  refine ⟨?_, fun i hi => ?_⟩
  · rw [List.range_succ, List.map_append, List.map_cons, List.map_nil, if_pos rfl]
    rw [show (List.range j).map (fun i => if i = j then r else rows i) = (List.range j).map rows from List.map_congr_left fun i hi => by have := List.mem_range.1 hi; rw [if_neg (by omega)]]
    exact h2
  · show w2.ownsRow B 46 4 (if i = j then r else rows i) _ _
    by_cases e : i = j
    · subst e
      rw [if_pos rfl]
      have h1' : (w1.alloc (.cells #[r] t)).ownsRow w.heap.size 46 4 r (s.ops i).length (opCells (s.ops i)) := h1.alloc _
      refine own_eq (own_baseK h1' hB) fun b hb => k2.block b (own_lt h1' hb).2.1 fun z => ?_
      have a1 := (own_lt h1' hb).1
      have a2 := (own_lt C.t z).2.1
      omega
    · rw [if_neg e]
      refine own_eq (own_kept (C.r i (by omega)) k3 (fun _ _ z => z)) fun b hb => k2.block b (Nat.lt_of_lt_of_le (own_lt (C.r i (by omega)) hb).2.1 k3.size) fun z => ?_
      exact own_ne (C.r i (by omega)) C.t (by decide) hb z
theorem LaidS.kept {s : Sm} {B j tc : Nat} {tA : Option Addr} {rows : Nat → Value} {w w' : World} (C : LaidS s B tA tc rows j w) (k : Kept (fun _ => False) w w') : LaidS s B tA tc rows j w' :=
  ⟨own_kept C.t k (fun _ _ z => z), fun i hi => own_kept (C.r i hi) k (fun _ _ z => z)⟩
theorem LaidS.base {s : Sm} {B B' j tc : Nat} {tA : Option Addr} {rows : Nat → Value} {w : World} (C : LaidS s B tA tc rows j w) (h : B' ≤ B) : LaidS s B' tA tc rows j w :=
  ⟨own_baseK C.t h, fun i hi => own_baseK (C.r i hi) h⟩
theorem Sm.ops_len (s : Sm) : (s.ops 0).length = min s.ws.length 12 := by simp [Sm.ops, wOps]; omega
end Go.Proofs.Ytlcplealnbekeaa
/- DERIVED. 'laid' of the statements of layer 12, walked. -/
namespace Go.Proofs.Ytlcplealnbekeaa
open Go.RowKit Go.Turn Go.Tame Go.Conc
set_option linter.unusedVariables false
set_option linter.unusedSectionVars false
set_option linter.unusedSimpArgs false
theorem run_min2 {P : Program} {w : World} (ts : Array TypeId) (t : TypeId) (k k' : IntKind) (x : Nat) : (Builtin.min_ ts t #[.int k x, .int k' 12]).run P w = .ok (.int k (min x 12 : Nat)) w := by
  rw [run_min_int2]
  congr 2
  by_cases h : (12 : Int) < x
  · rw [if_pos h]; omega
  · rw [if_neg h]; omega
attribute [local go_sem high] run_min2
def LaidPost (s : Sm) (w : World) (e : Ending) (w' : World) : Prop :=
  ∃ tA tc rows, e = .returned (.tuple #[.int .i64 s.size, .int .i64 s.nr, .slice tA (1 + s.nr : Nat) tc]) ∧ LaidS s w.heap.size tA tc rows (1 + s.nr) w' ∧ Kept (fun _ => False) w w'
theorem cells_newG (w : World) (vs : List Value) (t : TypeId) (g : Nat) (hg : g = w.heap.size) : ∀ a, some (⟨g, 0, none⟩ : Addr) = some a → ∀ (j : Nat) (u : Value), vs[j]? = some u → (w.alloc (.cells vs.toArray t)).cell? (a.add j) = some u := by
  subst hg
  exact cells_new w vs t
set_option maxHeartbeats 4000000 in
set_option maxRecDepth 100000 in
theorem laid_ok (s : Sm) (W w : World) (hW : W.heap.size ≤ w.heap.size) (hs : s.At W w) : Calls Try.prog 10 #[.agg s.vals] w (LaidPost s w) := by
  have hsz := hs.sz
  have hrd := hs.rd
  have HS := Lib.hid hs
  clear hs
  simp only [Sm.vals]
  obtain ⟨i1, hi1, hz01, hz11, hz21⟩ := info_parts Try.infoOp
  obtain ⟨i2, hi2, hz02, hz12, hz22⟩ := info_parts Try.infoOpL
  go_enter Try.func10, Try.ntmps10
  go_wp2_with fail
  have hb : s.At W (w.alloc (.cells s.vals 37)) ∧ Kept (fun _ => False) w (w.alloc (.cells s.vals 37)) ∧ Blk (w.alloc (.cells s.vals 37)) w.heap.size 37 s.vals ∧ (w.alloc (.cells s.vals 37)).heap.size = w.heap.size + 1 :=
    ⟨HS.out.keep (cells_kept hW (Kept.alloc _ _)), Kept.alloc _ _, Blk.new _ _ _, by simp⟩
  have HB := Lib.hid hb
  clear hb HS
  simp only [Sm.vals] at HB
  generalize w.alloc _ = z at HB ⊢
  have c0 := HB.out.2.2.1.cell 0
  have c1 := HB.out.2.2.1.cell 1
  have c2 := HB.out.2.2.1.cell 2
  simp at c0 c1 c2
  go_wp2
  go_quiet (fail)
  have hn : Go.RowKit.wrap64 (2 ^ (s.sz % 4).toNat) = (s.size : Int) := by
    unfold Sm.size
    have : (s.sz % 4).toNat = 0 ∨ (s.sz % 4).toNat = 1 ∨ (s.sz % 4).toNat = 2 ∨ (s.sz % 4).toNat = 3 := by omega
    rcases this with e | e | e | e <;> rw [e] <;> simp [Go.RowKit.wrap64]
  have hr : s.rd % 4 = (s.nr : Int) := by unfold Sm.nr; omega
  have hn8 : 0 < s.size ∧ s.size ≤ 8 := by
    unfold Sm.size
    have : (s.sz % 4).toNat = 0 ∨ (s.sz % 4).toNat = 1 ∨ (s.sz % 4).toNat = 2 ∨ (s.sz % 4).toNat = 3 := by omega
    rcases this with e | e | e | e <;> rw [e] <;> decide
  have hr3 : s.nr ≤ 3 := by unfold Sm.nr; omega
  rw [hn, hr]
  clear hn hr c0 c1 c2
  have HB : Hid (s.At W (z.drewN nq) ∧ Kept (fun _ => False) w (z.drewN nq) ∧ Blk (z.drewN nq) w.heap.size 37 s.vals ∧ (z.drewN nq).heap.size = w.heap.size + 1) :=
    Lib.hid ⟨HB.out.1.keep fun _ _ _ _ h => h, HB.out.2.1.trans (Kept.drewN _ _ _), HB.out.2.2.1, HB.out.2.2.2⟩
  generalize z.drewN nq = y at HB ⊢
  have c2 := HB.out.2.2.1.cell 2
  simp [Sm.vals] at c2
  have hwl := HB.out.1.ws.le
  have hwm := HB.out.1.ws.mx
  unfold maxLen at hwm
  go_wp2_with fail
  have HM : Hid (∃ l : List Int, s.ws.take 12 = l ∧ l.length = min s.ws.length 12 ∧ ∀ j, j < min s.ws.length 12 → l[j]? = some (s.ws.getD j 0)) := Lib.hid ⟨_, rfl, by simp; omega, fun j hj => by
    rw [List.getElem?_take, if_pos (by omega), List.getD_eq_getElem?_getD, List.getElem?_eq_getElem (by omega)]; rfl⟩
  have hm12 : min s.ws.length 12 ≤ 12 ∧ min s.ws.length 12 ≤ s.ws.length := by omega
  generalize min s.ws.length 12 = m at HM hm12 ⊢
  obtain ⟨l, hl0, hl1, hl2⟩ := HM.out
  have HL := Lib.hid (And.intro hl0 (And.intro hl1 hl2))
  clear hl0 hl1 hl2 HM c2
  go_loopw [7, 8, 34] (fun v a i wr => ∃ j : Nat, j ≤ m ∧ i = .int .i64 j ∧ a = .int .i64 (100 + 10 * (j : Int)) ∧ Hid (wr.ownsRow (w.heap.size + 1) 46 4 v j (opCells (wOps s.size (l.take j))) ∧ Kept (fun _ => False) y wr)) (fun _ _ i _ => m - (intOf i).toNat)
  case atStart => exact ⟨0, by omega, rfl, rfl, Lib.hid ⟨World.ownsRow_nil _ _ _ _, Kept.refl _ _⟩⟩
  case round =>
    obtain ⟨j, hj, rfl, rfl, HR⟩ := hrel
    have HW := Lib.hid (HB.out.1.ws.keep (cells_kept (by have := HB.out.2.2.2; omega) HR.out.2))
    by_cases hlt : j < m
    · obtain ⟨b, o, hA, hb, hcell⟩ := HW.out.at_ j (by omega)
      have hbd : 0 ≤ s.ws.getD j 0 ∧ s.ws.getD j 0 < 256 := HW.out.bd _ (by rw [List.getD_eq_getElem?_getD, List.getElem?_eq_getElem (by omega)]; exact List.getElem_mem _)
      have HV := Lib.hid (HL.out.2.2 j hlt)
      generalize s.ws.getD j 0 = x at *
      have hcell : wr.cell? ⟨b, o + j, none⟩ = some (.int .u8 x) := hcell
      obtain ⟨vA, vc, rfl⟩ := own_slice HR.out.1
      have HN := Lib.hid hn8
      have HA := Lib.hid hA
      have hnp : 0 < (s.size : Int) := by omega
      have hnl : (s.size : Int) ≤ 8 := by omega
      go_wp2_with (at_builtin; refine wpList_app _ rfl _ _ 44 rfl (w.heap.size + 1) 46 i1 (.agg #[.int .i64 0, .int .i64 0, .int .i64 0, .int .i64 0]) 4 32 Try.underlying44 hi1 hz01 hz11 hz21 rfl (by decide) _ _ _ rfl (HR.out.1.alloc _) (some ⟨wr.heap.size, 0, none⟩) 1 1 rfl (fun h => by cases h) (Nat.le_refl _) [.int .i64 4, .int .i64 (100 + 10 * (j : Int)), .int .i64 (Go.RowKit.wrap64 (1 + x % (s.size : Int))), .int .i64 0] (by simp) (cells_new _ _ _) (by simp [Value.oneCell']) (by unfold maxLen; omega) (by omega) (by have := HR.out.2.size; have := HB.out.2.2.2; simp; omega) ?_)
      intro v' w2 h1 k1 _ _ _
      have hx : Go.RowKit.wrap64 (1 + x % (s.size : Int)) = 1 + x % (s.size : Int) := by
        have h1 := Int.emod_nonneg x (show (s.size : Int) ≠ 0 by omega)
        have h2 := Int.emod_lt_of_pos x hnp
        rw [IntWalk.wrap64_in]
        omega
      have hl : l.take (j + 1) = l.take j ++ [x] := by rw [List.take_add_one, HV.out]; rfl
      have ho2 : w2.ownsRow (w.heap.size + 1) 46 4 v' (j + 1) (opCells (wOps s.size (l.take (j + 1)))) := by
        rw [hl, wOps_snoc, opCells_snoc, List.length_take, show min j l.length = j by rw [HL.out.2.1]; omega]
        rw [hx] at h1
        exact h1
      have hk2 : Kept (fun _ => False) y w2 := (HR.out.2.trans (Kept.alloc _ _)).later k1 fun b hb => by have := (HR.out.1.lt b hb).1; have := HB.out.2.2.2; omega
      have HO2 := Lib.hid (And.intro ho2 hk2)
      clear h1 k1 hx hl ho2 hk2 HV hcell
      obtain ⟨vA', vc', rfl⟩ := own_slice HO2.out.1
      clear hA
      rw [← HA.out]
      go_wp2
      go_roundw
      case rel => exact ⟨j + 1, by omega, by go_num, by go_num, HO2⟩
      case measure => simp [intOf]; omega
    · obtain rfl : j = m := by omega
      obtain ⟨vA, vc, rfl⟩ := own_slice HR.out.1
      have hl0 : l.take j = l := List.take_of_length_le (by rw [HL.out.2.1]; omega)
      have h0 : s.ops 0 = wOps s.size (l.take j) := by rw [hl0]; unfold Sm.ops; rw [if_pos rfl, HL.out.1]
      have hlj : (s.ops 0).length = j := by rw [h0, hl0]; simp [wOps, HL.out.2.1]
      have HR0 : Hid (LaidS s (w.heap.size + 1) (some ⟨wr.heap.size, 0, none⟩) 1 (fun _ => .slice vA j vc) 1 (wr.alloc (.cells #[.slice vA j vc] 44)) ∧ Kept (fun _ => False) y (wr.alloc (.cells #[.slice vA j vc] 44))) :=
        Lib.hid ⟨⟨World.ownsRow_lit (size := 1) (e := 44) wr #[.slice vA j vc] 1 (by have := HR.out.2.size; have := HB.out.2.2.2; omega) (by unfold maxLen; omega) rfl, fun i hi => by
          obtain rfl : i = 0 := by omega
          rw [hlj, h0]
          exact HR.out.1.alloc _⟩, HR.out.2.trans (Kept.alloc _ _)⟩
      clear HR hl0 h0 hlj
      go_wp2
      have HY := Lib.hid (show s.At W y ∧ Blk y w.heap.size 37 s.vals ∧ y.heap.size = w.heap.size + 1 ∧ Kept (fun _ => False) w y from ⟨HB.out.1, HB.out.2.2.1, HB.out.2.2.2, HB.out.2.1⟩)
      have hrl := HB.out.1.rle
      have hrm := HB.out.1.rmx
      unfold maxLen at hrm
      clear HB HL hm12 hj
      obtain ⟨tA0, tc0, HR1⟩ : ∃ tA tc, Hid ((some ⟨wr.heap.size, 0, none⟩ : Option Addr) = tA ∧ 1 = tc) := ⟨_, _, Lib.hid ⟨rfl, rfl⟩⟩
      go_loopw [12, 55] (fun th i wx => ∃ (q : Nat) (tA : Option Addr) (tc : Nat) (rows : Nat → Value), q ≤ s.nr ∧ i = .int .i64 q ∧ th = .slice tA (1 + q : Nat) tc ∧ Hid (LaidS s (w.heap.size + 1) tA tc rows (1 + q) wx ∧ Kept (fun _ => False) y wx)) (fun _ i _ => s.nr - (intOf i).toNat)
      case atStart => exact ⟨0, _, _, _, by omega, rfl, rfl, HR0⟩
      case round =>
        obtain ⟨q, tA, tc, rows, hq, rfl, rfl, HC⟩ := hrel
        clear HR0 HR1
        have hz : y.heap.size ≤ wr.heap.size := HC.out.2.size
        have HX := Lib.hid (show s.At W wr ∧ Blk wr w.heap.size 37 s.vals ∧ w.heap.size + 1 ≤ wr.heap.size from
          ⟨HY.out.1.keep (cells_kept (by have := HY.out.2.2.1; omega) HC.out.2), HY.out.2.1.kept HC.out.2 id, by have := HY.out.2.2.1; omega⟩)
        clear hz
        by_cases hlt : q < s.nr
        · have c3 : wr.cell? ⟨w.heap.size, 3, none⟩ = some (.slice s.rA s.rn s.rc) := HX.out.2.1.cell 3
          by_cases hqr : q < s.rn
          · obtain ⟨⟨b, o, hA, hb, hcell⟩, hrow⟩ := HX.out.1.row q hqr
            have hl1 := hrow.le
            have hl2 := hrow.mx
            unfold maxLen at hl2
            have HA := Lib.hid hA
            have HRow := Lib.hid hrow
            clear hrow
            rw [hA] at c3
            go_wp2
            go_quiet (fail)
            have HLX : Hid (LaidS s (w.heap.size + 1) tA tc rows (1 + q) (wr.drewN nq) ∧ Kept (fun _ => False) y (wr.drewN nq)) := Lib.hid ⟨HC.out.1.kept (Kept.drewN _ _ _), HC.out.2.trans (Kept.drewN _ _ _)⟩
            have HX2 := Lib.hid (show Kept (fun _ => False) wr (wr.drewN nq) ∧ BytesAt W (wr.drewN nq) (s.A q) (s.cap q) (s.rows q) ∧ w.heap.size + 1 ≤ (wr.drewN nq).heap.size ∧ (wr.drewN nq).heap.size = wr.heap.size from
              ⟨Kept.drewN _ _ _, HRow.out.keep fun _ _ _ _ h => h, HX.out.2.2, rfl⟩)
            clear c3 hA hcell HRow HC
            generalize wr.drewN nq = x at HX2 HLX ⊢
            have hm12 : min (s.rows q).length 12 ≤ 12 ∧ min (s.rows q).length 12 ≤ (s.rows q).length := by omega
            have HL : Hid (∃ l : List Int, (s.rows q).take 12 = l ∧ l.length = min (s.rows q).length 12 ∧ ∀ j, j < min (s.rows q).length 12 → l[j]? = some ((s.rows q).getD j 0)) := Lib.hid ⟨_, rfl, by simp; omega, fun j hj => by
              rw [List.getElem?_take, if_pos (by omega), List.getD_eq_getElem?_getD, List.getElem?_eq_getElem (by omega)]; rfl⟩
            go_wp2
            generalize min (s.rows q).length 12 = m at HL hm12 ⊢
            obtain ⟨l, hl0, hl1, hl2⟩ := HL.out
            have HL := Lib.hid (And.intro hl0 (And.intro hl1 hl2))
            clear hl0 hl1 hl2
            go_loopw [14, 77] (fun v i wr' => ∃ e : Nat, e ≤ m ∧ i = .int .i64 e ∧ Hid (wr'.ownsRow x.heap.size 46 4 v e (opCells ((l.take e).map rOp)) ∧ Kept (fun _ => False) x wr')) (fun _ i _ => m - (intOf i).toNat)
            case atStart => exact ⟨0, by omega, rfl, Lib.hid ⟨World.ownsRow_nil _ _ _ _, Kept.refl _ _⟩⟩
            case round =>
              obtain ⟨e, he, rfl, HR⟩ := hrel
              by_cases hle : e < m
              · have hBy : BytesAt W wr (s.A q) (s.cap q) (s.rows q) := HX2.out.2.1.keep (cells_kept (by have := HX2.out.2.2.1; omega) HR.out.2)
                obtain ⟨b2, o2, hA2, hb2, hcell⟩ := hBy.at_ e (by omega)
                have hbd : 0 ≤ (s.rows q).getD e 0 ∧ (s.rows q).getD e 0 < 256 := hBy.bd _ (by rw [List.getD_eq_getElem?_getD, List.getElem?_eq_getElem (by omega)]; exact List.getElem_mem _)
                have HV := Lib.hid (HL.out.2.2 e hle)
                clear hBy
                generalize (s.rows q).getD e 0 = x0 at HV hbd hcell
                have hcell : wr.cell? ⟨b2, o2 + e, none⟩ = some (.int .u8 x0) := hcell
                obtain ⟨vA2, vc2, rfl⟩ := own_slice HR.out.1
                have HA2 := Lib.hid hA2
                have hl : (l.take (e + 1)).map rOp = (l.take e).map rOp ++ [rOp x0] := by rw [List.take_add_one, HV.out]; simp
                have HLL := Lib.hid hl
                clear hl HV
                have hxz : w.heap.size + 1 ≤ wr.heap.size := Nat.le_trans HX2.out.2.2.1 HR.out.2.size
                by_cases h4 : 0 < x0 % 4
                · go_wp2_with (at_builtin; refine wpList_app _ rfl _ _ 44 rfl x.heap.size 46 i1 (.agg #[.int .i64 0, .int .i64 0, .int .i64 0, .int .i64 0]) 4 32 Try.underlying44 hi1 hz01 hz11 hz21 rfl (by decide) _ _ (opCells ((l.take e).map rOp)) rfl ((HR.out.1.alloc _).alloc _) (some ⟨wr.heap.size + 1, 0, none⟩) 1 1 rfl (fun h => by cases h) (Nat.le_refl _) [.int .i64 6, .int .i64 (x0 % 4), .int .i64 0, .int .i64 0] (by simp) (cells_newG _ _ _ _ (by simp)) (by simp [Value.oneCell']) (by unfold maxLen; omega) (by omega) (by have := HR.out.2.size; simp; omega) ?_)
                  intro v' w2 h1 k1 _ _ _
                  have ho2 : w2.ownsRow x.heap.size 46 4 v' (e + 1) (opCells ((l.take (e + 1)).map rOp)) := by
                    rw [HLL.out, opCells_snoc, show rOp x0 = ⟨6, x0 % 4, 0, 0⟩ from by unfold rOp; rw [if_pos h4], List.map_take]
                    exact h1
                  have hk2 : Kept (fun _ => False) x w2 := ((HR.out.2.trans (Kept.alloc _ _)).trans (Kept.alloc _ _)).later k1 fun b hb => (HR.out.1.lt b hb).1
                  have HO2 := Lib.hid (And.intro ho2 hk2)
                  clear h1 k1 ho2 hk2 hcell hA2
                  obtain ⟨vA', vc', rfl⟩ := own_slice HO2.out.1
                  rw [← HA2.out]
                  go_wp2
                  go_roundw
                  case rel => exact ⟨e + 1, by omega, by go_num, HO2⟩
                  case measure => simp [intOf]; omega
                · go_wp2_with (at_builtin; refine wpList_app _ rfl _ _ 44 rfl x.heap.size 46 i1 (.agg #[.int .i64 0, .int .i64 0, .int .i64 0, .int .i64 0]) 4 32 Try.underlying44 hi1 hz01 hz11 hz21 rfl (by decide) _ _ (opCells ((l.take e).map rOp)) rfl ((HR.out.1.alloc _).alloc _) (some ⟨wr.heap.size + 1, 0, none⟩) 1 1 rfl (fun h => by cases h) (Nat.le_refl _) [.int .i64 5, .int .i64 (0), .int .i64 0, .int .i64 0] (by simp) (cells_newG _ _ _ _ (by simp)) (by simp [Value.oneCell']) (by unfold maxLen; omega) (by omega) (by have := HR.out.2.size; simp; omega) ?_)
                  intro v' w2 h1 k1 _ _ _
                  have ho2 : w2.ownsRow x.heap.size 46 4 v' (e + 1) (opCells ((l.take (e + 1)).map rOp)) := by
                    rw [HLL.out, opCells_snoc, show rOp x0 = ⟨5, 0, 0, 0⟩ from by unfold rOp; rw [if_neg (by omega)], List.map_take]
                    exact h1
                  have hk2 : Kept (fun _ => False) x w2 := ((HR.out.2.trans (Kept.alloc _ _)).trans (Kept.alloc _ _)).later k1 fun b hb => (HR.out.1.lt b hb).1
                  have HO2 := Lib.hid (And.intro ho2 hk2)
                  clear h1 k1 ho2 hk2 hcell hA2
                  obtain ⟨vA', vc', rfl⟩ := own_slice HO2.out.1
                  rw [← HA2.out]
                  go_wp2
                  go_roundw
                  case rel => exact ⟨e + 1, by omega, by go_num, HO2⟩
                  case measure => simp [intOf]; omega
              · obtain rfl : e = m := by omega
                obtain ⟨vA2, vc2, rfl⟩ := own_slice HR.out.1
                have hops : s.ops (1 + q) = (l.take e).map rOp := by
                  unfold Sm.ops
                  rw [if_neg (by omega), if_pos (by omega), show 1 + q - 1 = q by omega, HL.out.1, List.take_of_length_le (by rw [HL.out.2.1]; omega)]
                have hlen : (s.ops (1 + q)).length = e := by rw [hops]; simp [HL.out.2.1]
                have HOps := Lib.hid (And.intro hlen hops)
                clear hops hlen
                have hk2 : Kept (fun _ => False) x wr := HR.out.2
                have hown : wr.ownsRow x.heap.size 46 4 (.slice vA2 e vc2) (s.ops (1 + q)).length (opCells (s.ops (1 + q))) := by
                  have := HR.out.1
                  rw [HOps.out.1, HOps.out.2]
                  exact this
                have hxs : w.heap.size + 1 ≤ x.heap.size := HX2.out.2.2.1
                have HOW := Lib.hid (And.intro hk2 hown)
                clear hk2 hown
                go_wp2_with (at_builtin; refine wpList_app _ rfl _ _ 22 rfl (w.heap.size + 1) 44 i2 (.slice none 0 0) 1 24 Try.underlying22 hi2 hz02 hz12 hz22 rfl (by decide) _ _ ((List.range (1 + q)).map rows) rfl ((own_kept HLX.out.1.t HOW.out.1 (fun _ _ z => z)).alloc _) (some ⟨wr.heap.size, 0, none⟩) 1 1 rfl (fun h => by cases h) (Nat.le_refl _) [.slice vA2 e vc2] (by simp) (cells_new _ _ _) (by simp [Value.oneCell']) (by unfold maxLen; omega) (by omega) (by have := HOW.out.1.size; simp; omega) ?_)
                intro v' w2 h2 k2 _ _ _
                obtain ⟨tA', tc', rfl⟩ := own_slice h2
                have hS := HLX.out.1.snoc hxs HOW.out.1 HOW.out.2 h2 k2
                have hK : Kept (fun _ => False) y w2 := ((HLX.out.2.trans HOW.out.1).trans (Kept.alloc _ _)).later k2 fun b hb => by
                  have h1 := (own_lt HLX.out.1.t hb).1
                  have h2 := HY.out.2.2.1
                  omega
                have HSK := Lib.hid (And.intro hS hK)
                clear h2 k2 hS hK
                go_wp2
                go_roundw
                case rel => exact ⟨q + 1, _, _, _, by omega, by go_num, by rw [show 1 + (q + 1) = 1 + q + 1 by omega], HSK⟩
                case measure => simp [intOf]; omega
          · have hown : wr.ownsRow wr.heap.size 46 4 (.slice none 0 0) (s.ops (1 + q)).length (opCells (s.ops (1 + q))) := by
              rw [show s.ops (1 + q) = [] from by unfold Sm.ops; rw [if_neg (by omega), if_neg (by omega)]]
              exact World.ownsRow_nil _ _ _ _
            have hk2 : Kept (fun _ => False) wr wr := Kept.refl _ _
            have HLX := HC
            have HA : Hid (s.rA = s.rA) := Lib.hid rfl
            have hxs : w.heap.size + 1 ≤ wr.heap.size := HX.out.2.2
            have HOW := Lib.hid (And.intro hk2 hown)
            clear hk2 hown
            go_wp2_with (at_builtin; refine wpList_app _ rfl _ _ 22 rfl (w.heap.size + 1) 44 i2 (.slice none 0 0) 1 24 Try.underlying22 hi2 hz02 hz12 hz22 rfl (by decide) _ _ ((List.range (1 + q)).map rows) rfl ((own_kept HLX.out.1.t HOW.out.1 (fun _ _ z => z)).alloc _) (some ⟨wr.heap.size, 0, none⟩) 1 1 rfl (fun h => by cases h) (Nat.le_refl _) [.slice none 0 0] (by simp) (cells_new _ _ _) (by simp [Value.oneCell']) (by unfold maxLen; omega) (by omega) (by have := HOW.out.1.size; simp; omega) ?_)
            intro v' w2 h2 k2 _ _ _
            obtain ⟨tA', tc', rfl⟩ := own_slice h2
            have hS := HLX.out.1.snoc hxs HOW.out.1 HOW.out.2 h2 k2
            have hK : Kept (fun _ => False) y w2 := ((HLX.out.2.trans HOW.out.1).trans (Kept.alloc _ _)).later k2 fun b hb => by
              have h1 := (own_lt HLX.out.1.t hb).1
              have h2 := HY.out.2.2.1
              omega
            have HSK := Lib.hid (And.intro hS hK)
            clear h2 k2 hS hK
            go_wp2
            go_roundw
            case rel => exact ⟨q + 1, _, _, _, by omega, by go_num, by rw [show 1 + (q + 1) = 1 + q + 1 by omega], HSK⟩
            case measure => simp [intOf]; omega
        · obtain rfl : q = s.nr := by omega
          have HF : Hid (LaidS s w.heap.size tA tc rows (1 + s.nr) wr ∧ Kept (fun _ => False) w wr) := Lib.hid ⟨HC.out.1.base (by omega), HY.out.2.2.2.trans HC.out.2⟩
          clear HC HX HY
          go_wp2
          refine bodyPost_ret (v := .tuple #[.int .i64 s.size, .int .i64 s.nr, .slice tA (1 + s.nr : Nat) tc]) (by simp [results, Try.f10, go_sem]) rfl ?_
          exact ⟨tA, tc, rows, rfl, HF.out.1, HF.out.2⟩
end Go.Proofs.Ytlcplealnbekeaa
/- DERIVED. A small world that is handed in (package carillonlaw12: Small), opened. -/
namespace Go.Proofs.Ytlcplealnbekeaa
open Go.ChangeShapes Go.WideShapes Go.ChangeAt Go.RowKit Go.Deep
set_option linter.unusedVariables false
set_option linter.unusedSectionVars false
set_option linter.unusedSimpArgs false
section
variable {H : Type} {enc : TypeId × Value → H}
theorem Try.u8Cells : Try.prog.cellsOf 5 = 1 := by kernel_rfl
theorem Try.u8sCells : Try.prog.cellsOf 34 = 1 := by kernel_rfl
theorem Try.u8ssCells : Try.prog.cellsOf 35 = 1 := by kernel_rfl
theorem Try.intsCells : Try.prog.cellsOf 23 = 1 := by kernel_rfl
theorem Try.smallCells : Try.prog.cellsOf 37 = 5 := by kernel_rfl
set_option maxRecDepth 100000 in
theorem open_small {W : World} {sp : Nat → Bool} {fuel : Nat} {c : Array Value} {x : DataW H × List MemPlace} (h : DataW.trod enc Try.prog W 0 sp true fuel 37 c.toList = some x) :
    ∃ s : Sm, c = s.vals ∧ s.At W W := by
  obtain ⟨ys, k', _, hx1, hcl, hlx, hf⟩ := DataW.trod_struct Try.underlying37 h
  rw [Try.smallCells] at hcl
  obtain ⟨l⟩ := c
  simp only at hcl h hf
  match l, hcl with
  | [v0, v1, v2, v3, v4], _ =>
    match ys, hlx with
    | [x0, x1, x2, x3, x4], _ =>
      have f0 : DataW.trod enc Try.prog W 0 sp true k' 5 [v0] = some x0 := by
        have h := hf 0 _ rfl
        change DataW.trod enc Try.prog W 0 sp true k' 5 (List.take (Try.prog.cellsOf 5) (List.drop 0 [v0, v1, v2, v3, v4])) = some x0 at h
        rw [Try.u8Cells] at h
        exact h
      have f1 : DataW.trod enc Try.prog W 0 sp true k' 5 [v1] = some x1 := by
        have h := hf 1 _ rfl
        change DataW.trod enc Try.prog W 0 sp true k' 5 (List.take (Try.prog.cellsOf 5) (List.drop 1 [v0, v1, v2, v3, v4])) = some x1 at h
        rw [Try.u8Cells] at h
        exact h
      have f2 : DataW.trod enc Try.prog W 0 sp true k' 34 [v2] = some x2 := by
        have h := hf 2 _ rfl
        change DataW.trod enc Try.prog W 0 sp true k' 34 (List.take (Try.prog.cellsOf 34) (List.drop 2 [v0, v1, v2, v3, v4])) = some x2 at h
        rw [Try.u8sCells] at h
        exact h
      have f3 : DataW.trod enc Try.prog W 0 sp true k' 35 [v3] = some x3 := by
        have h := hf 3 _ rfl
        change DataW.trod enc Try.prog W 0 sp true k' 35 (List.take (Try.prog.cellsOf 35) (List.drop 3 [v0, v1, v2, v3, v4])) = some x3 at h
        rw [Try.u8ssCells] at h
        exact h
      have f4 : DataW.trod enc Try.prog W 0 sp true k' 23 [v4] = some x4 := by
        have h := hf 4 _ rfl
        change DataW.trod enc Try.prog W 0 sp true k' 23 (List.take (Try.prog.cellsOf 23) (List.drop 4 [v0, v1, v2, v3, v4])) = some x4 at h
        rw [Try.intsCells] at h
        exact h
      obtain ⟨sz, e0, _, w0⟩ := DataW.trod_int Try.underlying5 f0
      obtain ⟨rd, e1, _, w1⟩ := DataW.trod_int Try.underlying5 f1
      obtain ⟨wA, wc, ws, e2, a1, a2, a3, a4, a5⟩ := open_kind Try.underlying34 Try.underlying5 Try.u8Cells f2
      obtain ⟨rA, rn, rc, A, cap, rows, e3, b1, b2, b3, b4⟩ := open_u8ss Try.underlying35 Try.underlying34 Try.underlying5 Try.u8Cells Try.u8sCells f3
      obtain ⟨sA, sc, xs, e4, c1, c2, c3, c4, _⟩ := open_kind Try.underlying23 Try.underlying3 Try.intCells f4
      simp only [List.cons.injEq, and_true] at e0 e1 e2 e3 e4
      subst e0 e1 e2 e3 e4
      refine ⟨⟨sz, rd, wA, ws, wc, rA, rn, rc, A, rows, cap, sA, xs, sc⟩, rfl, ⟨wf_u8 w0, wf_u8 w1, ⟨a1, a2, a3, a4, fun y hy => wf_u8 (a5 y hy)⟩, b1, b2, b3, fun i hi => ?_, c1, c2, c3, c4⟩⟩
      obtain ⟨d1, d2, d3, d4, d5, d6⟩ := b4 i hi
      exact ⟨d1, d2, d3, d4, d5, d6⟩
end
end Go.Proofs.Ytlcplealnbekeaa
/- DERIVED. 'runs' of the statements of layer 12, walked: what it asks of a trace. -/
namespace Go.Proofs.Ytlcplealnbekeaa
open Go.RowKit Go.Turn Go.Tame Go.Conc
set_option linter.unusedVariables false
set_option linter.unusedSectionVars false
set_option linter.unusedSimpArgs false
/-- A reader's answers against all that was written. -/
structure RdSteps (all : List Int) (lo : List OpI) (la : List Ans) (g : Nat → Nat) (vs : Nat → List Int) : Prop where
  len : la.length = lo.length
  zero : g 0 = 0
  step : ∀ i, i < la.length → g (i + 1) = g i + (vs i).length
  no : ∀ i (h : i < la.length), la[i].ok = false → la[i].n = 4 ∧ la[i].ls = [] ∧ vs i = []
  r5 : ∀ i (h : i < la.length), la[i].ok = true → (lo[i]'(by omega)).kind = 5 → vs i = [la[i].n]
  r6 : ∀ i (h : i < la.length), la[i].ok = true → (lo[i]'(by omega)).kind = 6 → vs i = la[i].ls ∧ la[i].ls ≠ [] ∧ (la[i].ls.length : Int) ≤ (lo[i]'(by omega)).a
  kd : ∀ i (h : i < lo.length), lo[i].kind = 5 ∨ lo[i].kind = 6 ∧ 1 ≤ lo[i].a ∧ lo[i].a ≤ 3
  le : ∀ i, i ≤ la.length → g i ≤ all.length
  at_ : ∀ i, i < la.length → ∀ e (h : e < (vs i).length), all[g i + e]? = some (vs i)[e]
structure RunsOk (sz k : Nat) (ops : Nat → List OpI) (ans : Nat → List Ans) (sta : List Int) (f : Nat → List Int) (all : List Int) (g : Nat → Nat → Nat) (vs : Nat → Nat → List Int) : Prop where
  sl : sta.length = 2 + k + 2 * sz
  lens : ∀ i, i < 1 + k → (ans i).length = (ops i).length
  wr : WrSteps (ops 0) (ans 0) f
  all_ : f (ans 0).length = all
  s0 : sta.getD 0 0 = all.length
  s1 : sta.getD 1 0 = (all.length : Int) - 1
  rd : ∀ r, 1 ≤ r → r ≤ k → RdSteps all (ops r) (ans r) (g r) (vs r) ∧ sta.getD (1 + r) 0 = (g r (ans r).length : Int) - 1 ∧ all.length ≤ g r (ans r).length + sz ∧ g r (ans r).length ≤ all.length
set_option maxHeartbeats 4000000 in
set_option maxRecDepth 100000 in
theorem runs_ok (w : World) (sz k : Nat) (A : Option Addr) (tc : Nat) (ops : Nat → List OpI) (ans : Nat → List Ans) (ord sta : List Int) (Aa : Option Addr) (ca : Nat) (ov tv : Value) (f : Nat → List Int) (all : List Int) (g : Nat → Nat → Nat) (vs : Nat → Nat → List Int) (hsz : sz ≤ 8) (hk : k ≤ 8)
    (hT : ThreadsAt w A (1 + k) ops) (hA : TraceAt w (1 + k) ans ord sta Aa ca ov tv) (hr : RunsOk sz k ops ans sta f all g vs) :
    Calls Try.prog 11 #[.int .i64 sz, .int .i64 k, .slice A (1 + k : Nat) tc, .agg #[.slice Aa (1 + k : Nat) ca, ov, tv, .bool false]] w fun e w' => e = .returned (.bool true) ∧ Kept (fun _ => False) w w' := by
  obtain ⟨o1, d1, e1, -⟩ := id hA.ord.1
  obtain ⟨s1, f1, e3, hsc⟩ := id hA.sta.1
  subst e1 e3
  obtain ⟨n, hn⟩ : ∃ n : Nat, n = 1 + k := ⟨_, rfl⟩
  have HN := Lib.hid hn
  rw [← hn] at hT hA ⊢
  obtain ⟨S, hS⟩ : ∃ S : Nat, S = sta.length := ⟨_, rfl⟩
  have hS2 : (S : Int) = 2 + k + 2 * sz := by have := hr.sl; omega
  have HSL := Lib.hid hS
  rw [← hS] at hA ⊢
  have HT := Lib.hid hT
  have HA := Lib.hid hA
  have HR := Lib.hid hr
  have HS := Lib.hid hsc
  have hn1 : (1 : Int) ≤ n := by omega
  have hn9 : (n : Int) ≤ 9 := by omega
  clear hT hA hr hsc hn hS
  go_enter Try.func11, Try.ntmps11
  have tst : ((S : Int) != wrap64 (wrap64 (2 + k) + wrap64 (2 * sz))) = false := by
    rw [IntWalk.wrap64_in (2 + (k : Int)) (by omega), IntWalk.wrap64_in (2 * (sz : Int)) (by omega), IntWalk.wrap64_in _ (by omega)]
    simp; omega
  go_wp2_with fail
  have hb : Kept (fun _ => False) w (w.alloc (.cells #[.slice Aa n ca, .slice o1 ord.length d1, .slice s1 S f1, .bool false] 31)) ∧ Blk (w.alloc (.cells #[.slice Aa n ca, .slice o1 ord.length d1, .slice s1 S f1, .bool false] 31)) w.heap.size 31 #[.slice Aa n ca, .slice o1 ord.length d1, .slice s1 S f1, .bool false] := ⟨Kept.alloc _ _, Blk.new _ _ _⟩
  generalize w.alloc _ = z at hb ⊢
  have HTZ := Lib.hid (HT.out.below hb.1.bel)
  have HAZ := Lib.hid (HA.out.below hb.1.bel)
  have HB := Lib.hid hb
  clear hb tst HT HA
  obtain ⟨tb, to, rfl, hT⟩ := HTZ.out.fix (by omega)
  obtain ⟨ab, ao, rfl, hA⟩ := HAZ.out.fix (by omega)
  have HT := Lib.hid hT
  have HA := Lib.hid hA
  clear hT hA
  go_loopw [43] (fun i wr => ∃ j : Nat, j ≤ n ∧ i = .int .i64 j ∧ wr = z) (fun i _ => n - (intOf i).toNat)
  case atStart => exact ⟨0, by omega, rfl, rfl⟩
  case round =>
    obtain ⟨j, hj, rfl, rfl⟩ := hrel
    by_cases hlt : j < n
    · obtain ⟨rA, rc, h1, h2, -⟩ := HT.out j hlt
      obtain ⟨qA, qc, k1, k2, -⟩ := HA.out j hlt
      rw [HR.out.lens j (by have := HN.out; omega)] at k1
      have b0 : (0 : Int) ≤ j := by omega
      have b1' : (j : Int) < n := by omega
      have c0 : wr.cell? ⟨w.heap.size, 0, none⟩ = some (.slice (some ⟨ab, ao, none⟩) n ca) := HB.out.2.cell 0
      generalize (ops j).length = L at h1 h2 k1
      have t0 : ((L : Int) != L) = false := by simp
      clear k2
      unfold maxLen at h2
      go_wp2
      go_roundw
      case rel => exact ⟨j + 1, by omega, by go_num, by trivial⟩
      case measure => simp [intOf]; omega
    · have c0 : wr.cell? ⟨w.heap.size, 0, none⟩ = some (.slice (some ⟨ab, ao, none⟩) n ca) := HB.out.2.cell 0
      have c1 : wr.cell? ⟨w.heap.size, 1, none⟩ = some (.slice o1 ord.length d1) := HB.out.2.cell 1
      have c2 : wr.cell? ⟨w.heap.size, 2, none⟩ = some (.slice s1 S f1) := HB.out.2.cell 2
      have c3 : wr.cell? ⟨w.heap.size, 3, none⟩ = some (.bool false) := HB.out.2.cell 3
      go_wp2_with fail
      refine (written_ok wr (some ⟨tb, to, none⟩) tc n ops ans ord sta (some ⟨ab, ao, none⟩) ca (.slice o1 ord.length d1) (.slice s1 S f1) false f (by omega) (ans 0).length rfl HTZ.out HAZ.out HR.out.wr).mono ?_
      rintro e w2 ⟨v, rfl, hv, hk2⟩
      rw [HR.out.all_] at hv
      obtain ⟨vA, vc, rfl⟩ := own_slice hv
      obtain ⟨tb2, to2, e, hT2⟩ := (HTZ.out.below hk2.bel).fix (by omega)
      cases e
      obtain ⟨ab2, ao2, e, hA2⟩ := (HAZ.out.below hk2.bel).fix (by omega)
      cases e
      obtain ⟨sb, so, rfl, hS2'⟩ := (HAZ.out.sta.1.below hk2.bel).fix (by omega)
      have hsz4 : all.length ≤ 4096 := by have := HR.out.wr.sz (ans 0).length (Nat.le_refl _); rw [HR.out.all_] at this; exact this
      have q0 := hS2' 0 (by omega)
      have q1 := hS2' 1 (by omega)
      rw [HR.out.s0] at q0
      rw [HR.out.s1] at q1
      rw [Nat.add_zero] at q0
      have hB2 : Blk w2 w.heap.size 31 #[.slice (some ⟨ab, ao, none⟩) n ca, .slice o1 ord.length d1, .slice (some ⟨sb, so, none⟩) S f1, .bool false] := HB.out.2.kept hk2 id
      have c0 : w2.cell? ⟨w.heap.size, 0, none⟩ = some (.slice (some ⟨ab, ao, none⟩) n ca) := hB2.cell 0
      have c2 : w2.cell? ⟨w.heap.size, 2, none⟩ = some (.slice (some ⟨sb, so, none⟩) S f1) := hB2.cell 2
      have HT2 := Lib.hid hT2
      have HA2 := Lib.hid hA2
      have HS2 := Lib.hid hS2'
      have HV2 := Lib.hid (IntsAt.of_own hv)
      have HB2 := Lib.hid (And.intro hB2 (HB.out.1.trans hk2))
      clear hT2 hA2 hS2' hv hk2 hB2 HT HA HTZ HAZ HB
      obtain ⟨N, hN⟩ : ∃ N : Nat, N = all.length := ⟨_, rfl⟩
      rw [← hN] at hsz4 q0 q1 HV2 ⊢
      have HNN := Lib.hid hN
      clear hN
      have wN : Go.RowKit.wrap64 ((N : Int) - 1) = (N : Int) - 1 := IntWalk.wrap64_in _ (by omega)
      have t1 : ((N : Int) - 1 != (N : Int) - 1) = false := by simp
      have t2 : ((N : Int) != N) = false := by simp
      go_wp2
      clear q0 q1 c0 c1 c2 c3 wN t1 t2
      go_loopw [13] (fun i wx => ∃ r : Nat, 1 ≤ r ∧ r ≤ k + 1 ∧ i = .int .i64 r ∧ Hid (Kept (fun _ => False) w2 wx)) (fun i _ => k + 1 - (intOf i).toNat)
      case atStart => exact ⟨1, by omega, by omega, rfl, Lib.hid (Kept.refl _ _)⟩
      case round =>
        obtain ⟨r, hr1, hr2, rfl, HKR⟩ := hrel
        by_cases hlt : r ≤ k
        · have hrn : r < n := by have := HN.out; omega
          obtain ⟨rA, rc, h1, h2, h3⟩ := HT2.out r hrn
          obtain ⟨qA, qc, k1, k2, k3⟩ := HA2.out r hrn
          obtain ⟨hrd, hs, hov, hgl⟩ := HR.out.rd r hr1 hlt
          have qs := HS2.out (1 + r) (by omega)
          rw [hs] at qs
          have HH3 := Lib.hid (And.intro h1 h3)
          have HK3 := Lib.hid k3
          have HRD := Lib.hid hrd
          obtain ⟨L, hL⟩ : ∃ L, L = (ans r).length := ⟨_, rfl⟩
          rw [← hL] at k1 k2 hgl hov qs
          have HLA := Lib.hid hL
          have HLO := Lib.hid (hL.trans hrd.len)
          have HQS := Lib.hid qs
          rw [← HNN.out] at hgl hov
          have HG := Lib.hid (And.intro hgl hov)
          have k1 := HKR.out.cellK k1
          have HK1 := Lib.hid k1
          have c0 : wr.cell? ⟨w.heap.size, 0, none⟩ = some (.slice (some ⟨ab, ao, none⟩) n ca) := HKR.out.cellK (HB2.out.1.cell 0)
          have b0 : (0 : Int) ≤ r := by omega
          have b1' : (r : Int) < n := by omega
          unfold maxLen at k2
          clear h3 k3 hL hrd h1 h2 hs hov hgl qs
          generalize g r = g' at HRD HG HQS
          generalize vs r = vs' at HRD
          go_wp2
          clear c0 k1
          go_loopw [14, 96] (fun a i wx => ∃ j : Nat, j ≤ L ∧ a = .int .i64 (g' j : Nat) ∧ i = .int .i64 j ∧ Hid (Kept (fun _ => False) w2 wx)) (fun _ i _ => L - (intOf i).toNat)
          case atStart => exact ⟨0, by omega, by rw [HRD.out.zero]; rfl, rfl, HKR⟩
          case round =>
            obtain ⟨j, hj, rfl, rfl, HKJ⟩ := hrel
            have hgj : g' j ≤ N := by have := HRD.out.le j (by have := HLA.out; omega); have := HNN.out; omega
            by_cases hjl : j < L
            · have hja : j < (ans r).length := by have := HLA.out; omega
              have hjo : j < (ops r).length := by have := HLO.out; omega
              obtain ⟨b2, o2, rfl, q2, q3, q4, q5⟩ := HH3.out.2 j hjo
              obtain ⟨b1, p1, lA, lc, rfl, m1, m2, m3, m4, m5⟩ := HK3.out j hja
              have hno := HRD.out.no j hja
              have h5 := HRD.out.r5 j hja
              have h6 := HRD.out.r6 j hja
              have hkd := HRD.out.kd j hjo
              have HAT := Lib.hid (HRD.out.at_ j hja)
              have hrow := HH3.out.1
              rw [← HLO.out] at hrow
              generalize (ans r)[j] = a at *
              generalize (ops r)[j] = op at *
              obtain ⟨okv, na, ls⟩ := a
              obtain ⟨kd, oa, ob, ocv⟩ := op
              simp only at q2 q3 q4 q5 m1 m2 m3 m4 m5 hno h5 h6 hkd
              have hrow := HKJ.out.cellK hrow
              have q2 := HKJ.out.cellK q2
              have q3 := HKJ.out.cellK q3
              have m1 := HKJ.out.cellK m1
              have m2 := HKJ.out.cellK m2
              have m3 := HKJ.out.cellK m3
              have m4 := m4.below HKJ.out.bel
              have l0 := lt_of_cell hrow
              have l1 := lt_of_cell m1
              have l2 := lt_of_cell q2
              have M4 := Lib.hid m4
              have b0 : (0 : Int) ≤ j := by omega
              have b1' : (j : Int) < L := by omega
              unfold maxLen at m5
              obtain ⟨l, hl⟩ : ∃ l, l = vs' j := ⟨_, rfl⟩
              have HLV := Lib.hid hl.symm
              have HAT : Hid (∀ e, e < l.length → all[g' j + e]? = some (l.getD e 0)) := Lib.hid fun e he => by
                subst hl
                rw [HAT.out e he, List.getD_eq_getElem?_getD, List.getElem?_eq_getElem he]
                rfl
              rw [← hl] at hno h5 h6
              clear m4 q4 q5 hl
              cases okv with
              | false =>
                obtain ⟨rfl, hls, hl0⟩ := hno rfl
                have hll : l = ls := hl0.trans hls.symm
                have hln : (ls.length : Int) ≤ 0 := by rw [hls]; decide
                clear h5 h6 hno hls hl0
                rcases hkd with rfl | ⟨rfl, ho1, ho3⟩
                · clear hln
                  have HLEN : Hid (l.length = ls.length) := Lib.hid (by rw [hll])
                  have M4 : Hid (IntsAt wr (.slice lA ls.length lc) l) := Lib.hid (hll ▸ M4.out)
                  clear hll
                  go_wp2
                  clear m1 m2 m3 q2 q3 hrow l0 l1 l2
                  have HKX : Hid (Kept (fun _ => False) w2 (wr.alloc (.cells #[.bool false, .int .i64 4, .slice lA ls.length lc] 48))) := Lib.hid (HKJ.out.trans (Kept.alloc _ _))
                  have HVS : Hid (IntsAt (wr.alloc (.cells #[.bool false, .int .i64 4, .slice lA ls.length lc] 48)) (.slice lA ls.length lc) l) := Lib.hid (M4.out.below (Kept.alloc (S := fun _ => False) _ _).bel)
                  generalize wr.alloc (.cells #[.bool false, .int .i64 4, .slice lA ls.length lc] 48) = y at HKX HVS ⊢
                  clear M4
                  go_loopw [14, 160] (fun a i wx => ∃ e p : Nat, e ≤ ls.length ∧ Hid (p = g' j + e) ∧ p ≤ N ∧ a = .int .i64 p ∧ i = .int .i64 e ∧ wx = y) (fun _ i _ => ls.length - (intOf i).toNat)
                  case atStart => exact ⟨0, g' j, by omega, Lib.hid rfl, hgj, rfl, rfl, rfl⟩
                  case round =>
                    obtain ⟨e, p, he, hp, hpN, rfl, rfl, rfl⟩ := hrel
                    by_cases hle : e < ls.length
                    · obtain ⟨b5, o5, hvA5, hv⟩ := HVS.out.fix (by omega)
                      first | subst hvA5 | cases hvA5
                      have hv1 := hv e hle
                      try simp only [Nat.zero_add] at hv1
                      clear hv
                      have hat := HAT.out e (by rw [HLEN.out]; exact hle)
                      rw [← hp.out] at hat
                      obtain ⟨hpl, hget⟩ := List.getElem?_eq_some_iff.1 hat
                      rw [← HNN.out] at hpl
                      obtain ⟨b6, o6, hvA, hall⟩ := (HV2.out.below (HKX.out.bel)).fix (by omega)
                      have hall1 := hall p hpl
                      clear hall
                      rw [List.getD_eq_getElem?_getD, hat, Option.getD_some] at hall1
                      generalize l.getD e 0 = x at hv1 hall1
                      have hx : (x != x) = false := by simp
                      have b0 : (0 : Int) ≤ e := by omega
                      have b1 : (e : Int) < ls.length := by omega
                      have b2 : (0 : Int) ≤ p := by omega
                      have b3 : (p : Int) < N := by omega
                      subst hvA
                      clear hat hget
                      go_wp2
                      go_roundw
                      case rel => exact ⟨e + 1, p + 1, by omega, Lib.hid (by rw [hp.out]; omega), by omega, by go_num, by go_num, by trivial⟩
                      case measure => simp [intOf]; omega
                    · obtain rfl : e = ls.length := by omega
                      go_wp2
                      go_roundw
                      case rel => exact ⟨j + 1, by omega, by rw [HRD.out.step j (by have := HLA.out; omega), hp.out, HLV.out, HLEN.out], by go_num, HKX⟩
                      case measure => simp [intOf]; omega
                · have hgt : (ls.length : Int) ≤ oa := by omega
                  clear hln
                  have HLEN : Hid (l.length = ls.length) := Lib.hid (by rw [hll])
                  have M4 : Hid (IntsAt wr (.slice lA ls.length lc) l) := Lib.hid (hll ▸ M4.out)
                  clear hll
                  go_wp2
                  clear m1 m2 m3 q2 q3 hrow l0 l1 l2
                  have HKX : Hid (Kept (fun _ => False) w2 (wr.alloc (.cells #[.bool false, .int .i64 4, .slice lA ls.length lc] 48))) := Lib.hid (HKJ.out.trans (Kept.alloc _ _))
                  have HVS : Hid (IntsAt (wr.alloc (.cells #[.bool false, .int .i64 4, .slice lA ls.length lc] 48)) (.slice lA ls.length lc) l) := Lib.hid (M4.out.below (Kept.alloc (S := fun _ => False) _ _).bel)
                  generalize wr.alloc (.cells #[.bool false, .int .i64 4, .slice lA ls.length lc] 48) = y at HKX HVS ⊢
                  clear M4
                  go_loopw [14, 160] (fun a i wx => ∃ e p : Nat, e ≤ ls.length ∧ Hid (p = g' j + e) ∧ p ≤ N ∧ a = .int .i64 p ∧ i = .int .i64 e ∧ wx = y) (fun _ i _ => ls.length - (intOf i).toNat)
                  case atStart => exact ⟨0, g' j, by omega, Lib.hid rfl, hgj, rfl, rfl, rfl⟩
                  case round =>
                    obtain ⟨e, p, he, hp, hpN, rfl, rfl, rfl⟩ := hrel
                    by_cases hle : e < ls.length
                    · obtain ⟨b5, o5, hvA5, hv⟩ := HVS.out.fix (by omega)
                      first | subst hvA5 | cases hvA5
                      have hv1 := hv e hle
                      try simp only [Nat.zero_add] at hv1
                      clear hv
                      have hat := HAT.out e (by rw [HLEN.out]; exact hle)
                      rw [← hp.out] at hat
                      obtain ⟨hpl, hget⟩ := List.getElem?_eq_some_iff.1 hat
                      rw [← HNN.out] at hpl
                      obtain ⟨b6, o6, hvA, hall⟩ := (HV2.out.below (HKX.out.bel)).fix (by omega)
                      have hall1 := hall p hpl
                      clear hall
                      rw [List.getD_eq_getElem?_getD, hat, Option.getD_some] at hall1
                      generalize l.getD e 0 = x at hv1 hall1
                      have hx : (x != x) = false := by simp
                      have b0 : (0 : Int) ≤ e := by omega
                      have b1 : (e : Int) < ls.length := by omega
                      have b2 : (0 : Int) ≤ p := by omega
                      have b3 : (p : Int) < N := by omega
                      subst hvA
                      clear hat hget
                      go_wp2
                      go_roundw
                      case rel => exact ⟨e + 1, p + 1, by omega, Lib.hid (by rw [hp.out]; omega), by omega, by go_num, by go_num, by trivial⟩
                      case measure => simp [intOf]; omega
                    · obtain rfl : e = ls.length := by omega
                      go_wp2
                      go_roundw
                      case rel => exact ⟨j + 1, by omega, by rw [HRD.out.step j (by have := HLA.out; omega), hp.out, HLV.out, HLEN.out], by go_num, HKX⟩
                      case measure => simp [intOf]; omega
              | true =>
                clear hno
                rcases hkd with rfl | ⟨rfl, ho1, ho3⟩
                · have hll : l = [na] := h5 rfl rfl
                  have HLEN : Hid (l.length = 1) := Lib.hid (by rw [hll]; rfl)
                  have HVV := Lib.hid hll
                  clear h5 h6 hll
                  go_wp2
                  clear m1 m2 m3 q2 q3 hrow l0 l1 l2
                  have HKX : Hid (Kept (fun _ => False) w2 ((wr.alloc (.cells #[.bool true, .int .i64 na, .slice lA ls.length lc] 48)).alloc (.cells #[.int .i64 na] 2))) := Lib.hid (HKJ.out.trans ((Kept.alloc _ _).trans (Kept.alloc _ _)))
                  have HVS : Hid (IntsAt ((wr.alloc (.cells #[.bool true, .int .i64 na, .slice lA ls.length lc] 48)).alloc (.cells #[.int .i64 na] 2)) (.slice (some ⟨wr.heap.size + 1, 0, none⟩) 1 1) l) := Lib.hid (by rw [HVV.out]; have := ints_new (wr.alloc (.cells #[.bool true, .int .i64 na, .slice lA ls.length lc] 48)) [na] 1 rfl 2; rw [World.size_alloc] at this; exact this)
                  generalize (wr.alloc (.cells #[.bool true, .int .i64 na, .slice lA ls.length lc] 48)).alloc (.cells #[.int .i64 na] 2) = y at HKX HVS ⊢
                  clear M4
                  generalize wr.heap.size = gs at HVS ⊢
                  go_loopw [14, 160] (fun a i wx => ∃ e p : Nat, e ≤ 1 ∧ Hid (p = g' j + e) ∧ p ≤ N ∧ a = .int .i64 p ∧ i = .int .i64 e ∧ wx = y) (fun _ i _ => 1 - (intOf i).toNat)
                  case atStart => exact ⟨0, g' j, by omega, Lib.hid rfl, hgj, rfl, rfl, rfl⟩
                  case round =>
                    obtain ⟨e, p, he, hp, hpN, rfl, rfl, rfl⟩ := hrel
                    by_cases hle : e < 1
                    · obtain ⟨b5, o5, hvA5, hv⟩ := HVS.out.fix (by omega)
                      first | subst hvA5 | cases hvA5
                      have hv1 := hv e hle
                      try simp only [Nat.zero_add] at hv1
                      clear hv
                      have hat := HAT.out e (by rw [HLEN.out]; exact hle)
                      rw [← hp.out] at hat
                      obtain ⟨hpl, hget⟩ := List.getElem?_eq_some_iff.1 hat
                      rw [← HNN.out] at hpl
                      obtain ⟨b6, o6, hvA, hall⟩ := (HV2.out.below (HKX.out.bel)).fix (by omega)
                      have hall1 := hall p hpl
                      clear hall
                      rw [List.getD_eq_getElem?_getD, hat, Option.getD_some] at hall1
                      generalize l.getD e 0 = x at hv1 hall1
                      have hx : (x != x) = false := by simp
                      have b0 : (0 : Int) ≤ e := by omega
                      have b1 : (e : Int) < 1 := by omega
                      have b2 : (0 : Int) ≤ p := by omega
                      have b3 : (p : Int) < N := by omega
                      subst hvA
                      clear hat hget
                      go_wp2
                      go_roundw
                      case rel => exact ⟨e + 1, p + 1, by omega, Lib.hid (by rw [hp.out]; omega), by omega, by go_num, by go_num, by trivial⟩
                      case measure => simp [intOf]; omega
                    · obtain rfl : e = 1 := by omega
                      go_wp2
                      go_roundw
                      case rel => exact ⟨j + 1, by omega, by rw [HRD.out.step j (by have := HLA.out; omega), hp.out, HLV.out, HLEN.out], by go_num, HKX⟩
                      case measure => simp [intOf]; omega
                · obtain ⟨hll, hne, hgt⟩ := h6 rfl rfl
                  have hpos : (0 : Int) < ls.length := by have := List.length_pos_iff.2 hne; omega
                  have hnz : ((ls.length : Int) == 0) = false := by simp; exact hne
                  clear h5 h6 hne
                  have HLEN : Hid (l.length = ls.length) := Lib.hid (by rw [hll])
                  have M4 : Hid (IntsAt wr (.slice lA ls.length lc) l) := Lib.hid (hll ▸ M4.out)
                  clear hll
                  go_wp2
                  clear m1 m2 m3 q2 q3 hrow l0 l1 l2
                  have HKX : Hid (Kept (fun _ => False) w2 (wr.alloc (.cells #[.bool true, .int .i64 na, .slice lA ls.length lc] 48))) := Lib.hid (HKJ.out.trans (Kept.alloc _ _))
                  have HVS : Hid (IntsAt (wr.alloc (.cells #[.bool true, .int .i64 na, .slice lA ls.length lc] 48)) (.slice lA ls.length lc) l) := Lib.hid (M4.out.below (Kept.alloc (S := fun _ => False) _ _).bel)
                  generalize wr.alloc (.cells #[.bool true, .int .i64 na, .slice lA ls.length lc] 48) = y at HKX HVS ⊢
                  clear M4
                  go_loopw [14, 160] (fun a i wx => ∃ e p : Nat, e ≤ ls.length ∧ Hid (p = g' j + e) ∧ p ≤ N ∧ a = .int .i64 p ∧ i = .int .i64 e ∧ wx = y) (fun _ i _ => ls.length - (intOf i).toNat)
                  case atStart => exact ⟨0, g' j, by omega, Lib.hid rfl, hgj, rfl, rfl, rfl⟩
                  case round =>
                    obtain ⟨e, p, he, hp, hpN, rfl, rfl, rfl⟩ := hrel
                    by_cases hle : e < ls.length
                    · obtain ⟨b5, o5, hvA5, hv⟩ := HVS.out.fix (by omega)
                      first | subst hvA5 | cases hvA5
                      have hv1 := hv e hle
                      try simp only [Nat.zero_add] at hv1
                      clear hv
                      have hat := HAT.out e (by rw [HLEN.out]; exact hle)
                      rw [← hp.out] at hat
                      obtain ⟨hpl, hget⟩ := List.getElem?_eq_some_iff.1 hat
                      rw [← HNN.out] at hpl
                      obtain ⟨b6, o6, hvA, hall⟩ := (HV2.out.below (HKX.out.bel)).fix (by omega)
                      have hall1 := hall p hpl
                      clear hall
                      rw [List.getD_eq_getElem?_getD, hat, Option.getD_some] at hall1
                      generalize l.getD e 0 = x at hv1 hall1
                      have hx : (x != x) = false := by simp
                      have b0 : (0 : Int) ≤ e := by omega
                      have b1 : (e : Int) < ls.length := by omega
                      have b2 : (0 : Int) ≤ p := by omega
                      have b3 : (p : Int) < N := by omega
                      subst hvA
                      clear hat hget
                      go_wp2
                      go_roundw
                      case rel => exact ⟨e + 1, p + 1, by omega, Lib.hid (by rw [hp.out]; omega), by omega, by go_num, by go_num, by trivial⟩
                      case measure => simp [intOf]; omega
                    · obtain rfl : e = ls.length := by omega
                      go_wp2
                      go_roundw
                      case rel => exact ⟨j + 1, by omega, by rw [HRD.out.step j (by have := HLA.out; omega), hp.out, HLV.out, HLEN.out], by go_num, HKX⟩
                      case measure => simp [intOf]; omega
            · obtain rfl : j = L := by omega
              have c2 : wr.cell? ⟨w.heap.size, 2, none⟩ = some (.slice (some ⟨sb, so, none⟩) S f1) := HKJ.out.cellK (HB2.out.1.cell 2)
              have qs := HKJ.out.cellK HQS.out
              have hgl := HG.out.1
              have hov := HG.out.2
              generalize g' j = G at qs hgl hov ⊢
              have b3 : (1 : Int) + r < S := by omega
              have b4 : (0 : Int) ≤ 1 + r := by omega
              have t1 : ((G : Int) - 1 != (G : Int) - 1) = false := by simp
              have t3 : ((N : Int) - G) ≤ sz := by omega
              go_wp2
              clear t1
              go_roundw
              case rel => exact ⟨r + 1, by omega, by omega, by go_num, HKJ⟩
              case measure => simp [intOf]; omega
        · go_wp2
          go_ret
          exact ⟨rfl, HB2.out.2.trans HKR.out⟩
end Go.Proofs.Ytlcplealnbekeaa
/- DERIVED. What a run on the ring with one writer keeps is what 'runs' of the statements of layer 12 asks. -/
namespace Go.Proofs.Ytlcplealnbekeaa
open Go.RowKit Go.Turn Go.Tame Go.Conc
set_option linter.unusedVariables false
set_option linter.unusedSectionVars false
set_option linter.unusedSimpArgs false
theorem take_snoc {α : Type} {d : List α} {j : Nat} (h : j < d.length) : d.take (j + 1) = d.take j ++ [d[j]] := (List.take_append_getElem h).symm
theorem split_at {α : Type} {d : List α} {j : Nat} (h : j < d.length) : d = d.take j ++ d[j] :: d.drop (j + 1) := by rw [List.getElem_cons_drop, List.take_append_drop]
theorem wroteP_app (a b : List (OpI × Ans)) : wroteP (a ++ b) = wroteP a ++ wroteP b := by simp [wroteP]
theorem readP_app (a b : List (OpI × Ans)) : readP (a ++ b) = readP a ++ readP b := by simp [readP]
theorem zip_get {α β : Type} {l : List α} {m : List β} {j : Nat} (h1 : j < l.length) (h2 : j < m.length) (h : j < (l.zip m).length) : (l.zip m)[j] = (l[j], m[j]) := by simp
theorem wr_steps {lo : List OpI} {la : List Ans} (hl : la.length = lo.length) (hok : wokP (lo.zip la)) (hb : ∀ o ∈ lo, 1 ≤ o.b ∧ o.b ≤ 8) (hs : (wroteP (lo.zip la)).length ≤ 4096) : WrSteps lo la fun j => wroteP ((lo.zip la).take j) := by
  have key : ∀ j (h : j < la.length), (la[j].ok = true → la[j].n = ((wroteP ((lo.zip la).take j)).length : Int)) ∧ (la[j].ok = false → la[j].n = 3) ∧ wroteP ((lo.zip la).take (j + 1)) = wroteP ((lo.zip la).take j) ++ if la[j].ok then rowV (lo[j]'(by omega)).a (lo[j]'(by omega)).b.toNat else [] := fun j h => by
    have hd : j < (lo.zip la).length := by simp; omega
    have h1 := hok _ _ _ (split_at hd)
    have h2 := wroteP_snoc ((lo.zip la).take j) (lo.zip la)[j]
    rw [← take_snoc hd] at h2
    rw [zip_get (by omega) h] at h1 h2
    exact ⟨h1.1, h1.2, h2⟩
  refine ⟨Nat.le_of_eq hl, by simp [wroteP], fun j h => hb _ (List.getElem_mem h), fun j h e => ?_, fun j h e => ?_, fun j h => ?_⟩
  · obtain ⟨k1, _, k3⟩ := key j h
    exact ⟨k1 e, by rw [k3, if_pos e]⟩
  · obtain ⟨_, k2, k3⟩ := key j h
    exact ⟨k2 e, by rw [k3, if_neg (by simp [e]), List.append_nil]⟩
  · have := congrArg List.length (wroteP_app ((lo.zip la).take j) ((lo.zip la).drop j))
    rw [List.take_append_drop, List.length_append] at this
    show (wroteP ((lo.zip la).take j)).length ≤ 4096
    omega
def valsAt (d : List (OpI × Ans)) (i : Nat) : List Int := (d[i]?.map valsP).getD []
theorem valsAt_lt {d : List (OpI × Ans)} {i : Nat} (h : i < d.length) : valsAt d i = valsP d[i] := by simp [valsAt, h]
theorem rd_steps {all : List Int} {m : Nat} {lo : List OpI} {la : List Ans} (hl : la.length = lo.length) (hok : rokP (lo.zip la)) (hk : ∀ o ∈ lo, o.kind = 5 ∨ o.kind = 6 ∧ 1 ≤ o.a ∧ o.a ≤ 3) (hr : readP (lo.zip la) = all.take m) :
    RdSteps all lo la (fun i => (readP ((lo.zip la).take i)).length) (valsAt (lo.zip la)) := by
  have hd : ∀ {j}, j < la.length → j < (lo.zip la).length := fun h => by simp; omega
  have key : ∀ i (h : i < la.length), valsAt (lo.zip la) i = (if (lo[i]'(by omega)).kind = 5 ∧ la[i].ok = true then [la[i].n] else la[i].ls) := fun i h => by
    rw [valsAt_lt (hd h), zip_get (by omega) h]
    rfl
  have key2 : ∀ i (h : i < la.length), (la[i].ok = false → la[i].n = 4 ∧ la[i].ls = []) ∧ (la[i].ok = true → valsAt (lo.zip la) i ≠ []) ∧ ((lo[i]'(by omega)).kind = 6 → (valsAt (lo.zip la) i).length ≤ (lo[i]'(by omega)).a.toNat) := fun i h => by
    have h1 := hok _ (List.getElem_mem (hd h))
    rw [valsAt_lt (hd h), zip_get (by omega) h]
    rw [zip_get (by omega) h] at h1
    exact h1
  refine ⟨hl, by simp [readP], fun i h => ?_, fun i h e => ?_, fun i h e e5 => ?_, fun i h e e6 => ?_, fun i h => hk _ (List.getElem_mem h), fun i h => ?_, fun i h e he => ?_⟩
  · show (readP ((lo.zip la).take (i + 1))).length = _
    rw [take_snoc (hd h), readP_snoc, List.length_append, valsAt_lt (hd h)]
  · obtain ⟨k1, k2⟩ := (key2 i h).1 e
    refine ⟨k1, k2, ?_⟩
    rw [key i h, if_neg (by simp [e]), k2]
  · rw [key i h, if_pos ⟨e5, e⟩]
  · have k1 := key i h
    rw [if_neg (by omega)] at k1
    have k2 := (key2 i h).2.1 e
    have k3 := (key2 i h).2.2 e6
    rw [k1] at k2 k3
    have := (hk _ (List.getElem_mem (show i < lo.length by omega))).resolve_left (by omega)
    exact ⟨k1, k2, by omega⟩
  · have h1 := congrArg List.length (readP_app ((lo.zip la).take i) ((lo.zip la).drop i))
    rw [List.take_append_drop, List.length_append, hr, List.length_take] at h1
    show (readP ((lo.zip la).take i)).length ≤ _
    omega
  · have h1 := hr
    have h2 := readP_app ((lo.zip la).take (i + 1)) ((lo.zip la).drop (i + 1))
    rw [List.take_append_drop, take_snoc (hd h), readP_snoc, hr] at h2
    have h3 := valsAt_lt (hd h)
    have h4 : (all.take m)[(readP ((lo.zip la).take i)).length + e]? = some (valsAt (lo.zip la) i)[e] := by
      have he' : e < (valsP ((lo.zip la)[i]'(hd h))).length := h3 ▸ he
      rw [h2, List.append_assoc, List.getElem?_append_right (by omega), show (readP ((lo.zip la).take i)).length + e - (readP ((lo.zip la).take i)).length = e by omega, List.getElem?_append_left he']
      simp only [h3]
      exact List.getElem?_eq_getElem he'
    rw [List.getElem?_take] at h4
    split at h4
    · exact h4
    · cases h4
section
variable (P : SPar)
theorem runs_of {all : List Int} {s : SSt} (hI : SInv P all s) (hp : ∀ i, i < P.k + 1 → (soP P i).po all s) :
    RunsOk P.n P.k P.ops s.2 (stateL (I0 P.n P.k) s.1) (fun j => wroteP (((P.ops 0).zip (s.2 0)).take j)) all (fun r i => (readP (((P.ops r).zip (s.2 r)).take i)).length) (fun r => valsAt ((P.ops r).zip (s.2 r))) := by
  obtain ⟨w1, w2, w3⟩ : wokP ((P.ops 0).zip (s.2 0)) ∧ (s.2 0).length = (P.ops 0).length ∧ all = P.wr s := hp 0 (by omega)
  have hn8 := P.n8
  have hwl : (P.wr s).length = all.length := by rw [w3]
  have hcu := hI.cu
  have hst : stateL (I0 P.n P.k) s.1 = [s.1.next, s.1.cursor] ++ listN s.1.num P.k ++ rowN s.1.st P.n ++ rowN s.1.va P.n := rfl
  have hwf : ∀ j, (s.2 0).length = j → ((P.ops 0).zip (s.2 0)).take j = (P.ops 0).zip (s.2 0) := fun j h => List.take_of_length_le (by simp; omega)
  refine ⟨by simp [hst, listN, rowN]; omega, fun i hi => ?_, wr_steps w2 w1 (fun o ho => by obtain ⟨_, h1, h2⟩ := P.w o ho; omega) (by rw [show wroteP ((P.ops 0).zip (s.2 0)) = all from w3.symm]; exact hI.sz), ?_, ?_, ?_, fun r h1 hrk => ?_⟩
  · cases i with
    | zero => exact w2
    | succ j =>
      obtain ⟨_, h, _⟩ : rokP ((P.ops (j + 1)).zip (s.2 (j + 1))) ∧ (s.2 (j + 1)).length = (P.ops (j + 1)).length ∧ _ := hp (j + 1) (by omega)
      exact h
  · show wroteP (((P.ops 0).zip (s.2 0)).take _) = all
    rw [hwf _ rfl]
    exact w3.symm
  · rw [hst]; exact hI.nx
  · rw [hst]
    show s.1.cursor = _
    omega
  · obtain ⟨j, rfl⟩ : ∃ j, r = j + 1 := ⟨r - 1, by omega⟩
    obtain ⟨r1, r2, r3⟩ : rokP ((P.ops (j + 1)).zip (s.2 (j + 1))) ∧ (s.2 (j + 1)).length = (P.ops (j + 1)).length ∧ readP ((P.ops (j + 1)).zip (s.2 (j + 1))) = all.take (s.1.place j + 1).toNat := hp (j + 1) (by omega)
    obtain ⟨n1, n2, n3⟩ := hI.rd j (by omega)
    have hov := hI.ov j (by omega)
    have hnx := hI.nx
    have hg : (readP (((P.ops (j + 1)).zip (s.2 (j + 1))).take (s.2 (j + 1)).length)).length = (s.1.place j + 1).toNat := by
      rw [List.take_of_length_le (by simp; omega), r3, List.length_take]
      omega
    refine ⟨rd_steps r2 r1 (fun o ho => P.r j (by omega) o ho) r3, ?_, ?_, ?_⟩
    · show _ = ((readP (((P.ops (j + 1)).zip (s.2 (j + 1))).take (s.2 (j + 1)).length)).length : Int) - 1
      rw [hg, hst]
      have : ([s.1.next, s.1.cursor] ++ listN s.1.num P.k ++ rowN s.1.st P.n ++ rowN s.1.va P.n).getD (1 + (j + 1)) 0 = s.1.num j := by
        rw [List.getD_eq_getElem?_getD, List.append_assoc, List.append_assoc, List.getElem?_append_right (by simp; omega), List.getElem?_append_left (by simp [listN]; omega)]
        simp [listN, show 1 + (j + 1) - 2 = j by omega, show j < P.k by omega]
      rw [this]
      omega
    · show _ ≤ (readP (((P.ops (j + 1)).zip (s.2 (j + 1))).take (s.2 (j + 1)).length)).length + P.n
      rw [hg]
      omega
    · show (readP (((P.ops (j + 1)).zip (s.2 (j + 1))).take (s.2 (j + 1)).length)).length ≤ _
      rw [hg]
      omega
end
end Go.Proofs.Ytlcplealnbekeaa
namespace Go.Proofs.Ytlcplealnbekeaa
open Go.RowKit Go.Turn Go.Tame Go.Conc
set_option linter.unusedVariables false
set_option linter.unusedSectionVars false
set_option linter.unusedSimpArgs false
def vAd : Value → Option Addr
  | .slice a _ _ => a
  | _ => none
def vCap : Value → Nat
  | .slice _ _ c => c
  | _ => 0
theorem LaidS.rowsAt {s : Sm} {B n tc : Nat} {tA : Option Addr} {rows : Nat → Value} {w : World} (C : LaidS s B tA tc rows n w) (hn : 0 < n) : ∃ Tb, tA = some ⟨Tb, 0, none⟩ ∧ RowsAt w Tb 0 n (fun i => vAd (rows i)) (fun i => (s.ops i).length) (fun i => vCap (rows i)) := by
  obtain ⟨g, rfl, _, _⟩ := row_addr C.t hn
  refine ⟨g, rfl, ⟨fun i hi => ?_, fun i hi => ?_, fun i hi => ?_, fun i hi => ?_⟩⟩
  · have hc := C.t.cellAt (g := g) i (by omega)
    obtain ⟨A, c, e⟩ := own_slice (C.r i hi)
    rw [List.getElem?_map, List.getElem?_range hi] at hc
    rw [Nat.zero_add, hc, Option.map_some]
    show some (rows i) = some (.slice (vAd (rows i)) _ (vCap (rows i)))
    rw [e]
    rfl
  · obtain ⟨A, c, e⟩ := own_slice (C.r i hi)
    have := C.r i hi
    rw [e] at this ⊢
    exact row_cap this
  · rcases (C.r i hi).2 with ⟨e, _⟩ | ⟨g, cap, cur, e, _, _, _, h, _⟩
    · rw [e]; exact Nat.zero_le _
    · rw [e]; exact h
  · rcases (C.r i hi).2 with ⟨e, _⟩ | ⟨g, cap, cur, e, _, _, _, h, _⟩
    · rw [e]; exact fun _ => rfl
    · rw [e]; exact fun z => by cases z
theorem LaidS.opsCells {s : Sm} {B n tc : Nat} {tA : Option Addr} {rows : Nat → Value} {w W0 : World} {good : OpI → Prop} (C : LaidS s B tA tc rows n w) (hg : ∀ i, i < n → ∀ o ∈ s.ops i, good o) (hl : ∀ i, i < n → (s.ops i).length ≤ 12) : OpsCells W0 good w n (fun i => vAd (rows i)) (fun i => (s.ops i).length) s.ops where
  len := fun i hi => by have := hl i hi; omega
  good := hg
  cells := fun i hi j hj => by
    rcases (C.r i hi).2 with ⟨_, e⟩ | ⟨g, cap, cur, e, _, hh, h1, h2, h3, h4⟩
    · omega
    · refine ⟨g, 0, cur, _, (0, 0), by rw [e]; rfl, hh, .inl (by decide), fun m hm => ?_⟩
      have h5 := opCells_get (s.ops i) j m hm
      rw [← h4, List.getElem?_take, if_pos (by omega), List.getElem?_eq_getElem hj] at h5
      rw [Nat.zero_add, ← Array.getElem?_toList, h5]
      rfl
theorem LaidS.threads {s : Sm} {B n tc : Nat} {tA : Option Addr} {rows : Nat → Value} {w : World} (C : LaidS s B tA tc rows n w) : ThreadsAt w tA n s.ops := fun i hi => by
  obtain ⟨g, rfl, _, _⟩ := row_addr C.t (by omega)
  have hc := C.t.cellAt (g := g) i (by omega)
  rw [List.getElem?_map, List.getElem?_range hi] at hc
  exact ⟨g, 0, rows i, rfl, by rw [Nat.zero_add, hc]; rfl, OpRow.of_own (C.r i hi)⟩
/-- Own rows stand, where what is near stands. -/
theorem own_near {w w' : World} {base : Nat} {e : TypeId} {size n : Nat} {v : Value} {xs : List Value} (h : w.ownsRow base e size v n xs) (k : ∀ (b : Nat) (c : Array Value) (t : TypeId), w.heap[b]? = some (.cells c t (0, 0)) → w'.heap[b]? = some (.cells c t (0, 0))) : w'.ownsRow base e size v n xs := by
  obtain ⟨h1, h2⟩ := h
  refine ⟨h1, ?_⟩
  rcases h2 with h2 | ⟨g, cap, cur, hv, hg, hh, r⟩
  · exact .inl h2
  · exact .inr ⟨g, cap, cur, hv, hg, k _ _ _ hh, r⟩
theorem LaidS.near {s : Sm} {B n tc : Nat} {tA : Option Addr} {rows : Nat → Value} {w w' : World} (C : LaidS s B tA tc rows n w) (k : ∀ (b : Nat) (c : Array Value) (t : TypeId), w.heap[b]? = some (.cells c t (0, 0)) → w'.heap[b]? = some (.cells c t (0, 0))) : LaidS s B tA tc rows n w' :=
  ⟨own_near C.t k, fun i hi => own_near (C.r i hi) k⟩
theorem Sm.size_le (s : Sm) (h : 0 ≤ s.sz) : 0 < s.size ∧ s.size ≤ 8 ∧ (s.size = 1 ∨ s.size = 2 ∨ s.size = 4 ∨ s.size = 8) := by
  unfold Sm.size
  have : (s.sz % 4).toNat = 0 ∨ (s.sz % 4).toNat = 1 ∨ (s.sz % 4).toNat = 2 ∨ (s.sz % 4).toNat = 3 := by omega
  rcases this with e | e | e | e <;> rw [e] <;> decide
theorem Sm.nr_le (s : Sm) : s.nr ≤ 3 := by unfold Sm.nr; omega
theorem Sm.ops_w (s : Sm) (h : 0 ≤ s.sz) : ∀ o ∈ s.ops 0, o.kind = 4 ∧ (1 ≤ o.b ∧ o.b ≤ s.size) ∧ 100 ≤ o.a ∧ o.a ≤ 220 := fun o ho => by
  have hz := s.size_le h
  have ho : o ∈ wOps s.size (s.ws.take 12) := ho
  obtain ⟨j, hj, e⟩ := List.mem_iff_getElem.1 ho
  have hj2 : j < 12 := by simp [wOps] at hj; omega
  simp only [wOps, List.getElem_mapIdx, wOp] at e
  subst e
  have hjt : j < (s.ws.take 12).length := by simpa [wOps] using hj
  generalize (s.ws.take 12)[j] = x
  have h1 := Int.emod_nonneg x (show (s.size : Int) ≠ 0 by omega)
  have h2 := Int.emod_lt_of_pos x (show (0 : Int) < s.size by omega)
  refine ⟨rfl, ?_, ?_, ?_⟩ <;> dsimp only <;> omega
theorem Sm.ops_r (s : Sm) (i : Nat) (hi : i ≠ 0) : ∀ o ∈ s.ops i, (o.kind = 5 ∧ o.a = 0 ∨ o.kind = 6 ∧ 1 ≤ o.a ∧ o.a ≤ 3) ∧ o.b = 0 := fun o ho => by
  unfold Sm.ops at ho
  rw [if_neg hi] at ho
  split at ho
  · obtain ⟨v, _, rfl⟩ := List.mem_map.1 ho
    unfold rOp
    split
    · exact ⟨.inr ⟨rfl, by dsimp only; omega, by dsimp only; omega⟩, rfl⟩
    · exact ⟨.inl ⟨rfl, rfl⟩, rfl⟩
  · cases ho
theorem Sm.ops_le (s : Sm) (i : Nat) : (s.ops i).length ≤ 12 := by
  unfold Sm.ops
  split
  · simp [wOps]; omega
  · split
    · simp; omega
    · simp
theorem Sm.ops_good (s : Sm) (h : 0 ≤ s.sz) (i : Nat) : ∀ o ∈ s.ops i, SG o := fun o ho => by
  have hz := s.size_le h
  by_cases e : i = 0
  · subst e
    obtain ⟨_, h1, h2⟩ := s.ops_w h o ho
    unfold SG
    omega
  · have := s.ops_r i e o ho
    unfold SG
    omega
def Sm.par (s : Sm) (h : 0 ≤ s.sz) : SPar where
  n := s.size
  k := s.nr
  ops := s.ops
  n0 := (s.size_le h).1
  n8 := (s.size_le h).2.1
  k8 := by have := s.nr_le; omega
  len := s.ops_le
  w := fun o ho => by obtain ⟨h1, h2, _⟩ := s.ops_w h o ho; exact ⟨h1, h2.1, h2.2⟩
  r := fun j hj o ho => by
    have := s.ops_r (j + 1) (by omega) o ho
    omega
theorem Sm.At.schi {s : Sm} {W w : World} (h : s.At W w) (Z : Nat → Prop) : SchI W (.slice s.sA s.xs.length s.sc) s.xs Z w :=
  ⟨⟨s.sA, s.sc, rfl, fun i hi => by
    obtain ⟨b, o, h1, h2, h3⟩ := h.sch i hi
    unfold World.cell? at h3
    cases ho : w.heap[b]? with
    | none => simp [ho] at h3
    | some x =>
      cases x with
      | cells cs t r =>
        refine ⟨b, o, cs, t, r, h1, ho, .inl h2, ?_⟩
        simpa [ho] using h3
      | _ => simp [ho] at h3⟩, Nat.le_trans h.sle h.smx⟩
theorem Sm.bits (s : Sm) (h : 0 ≤ s.sz) : (bits BinOp.and IntKind.i64 (s.size : Int) ((s.size : Int) - 1) != 0) = false := by
  rcases (s.size_le h).2.2 with e | e | e | e <;> rw [e] <;> decide
end Go.Proofs.Ytlcplealnbekeaa
