/- DERIVED. A subscription polled (package bus: Poll), lone. -/
import Derived.Test.YtbmjmamodnapiaaGreatDoorBusP
namespace Go.Proofs.YtbmjmamodnapiaaGreatDoor
open Go.RowKit
set_option linter.unusedVariables false
/-- An item as it is seen. -/
def seW (v : Int) : Int := if unE v = 0 then itW v else -1
def seN (v : Int) : Int := itN v
def seX (v : Int) : Int := if unE v = 0 then itX v else v
def seeC (x : Int × Int) : List Value := [.int .i64 x.1, .int .i64 (seW x.2), .int .i64 (seN x.2), .int .i64 (seX x.2)]
/-- What a filter lets through, of the first j numbers. -/
def seenL (kd a b q : Int) (xs : List Int) : Nat → List (Int × Int)
  | 0 => []
  | j + 1 => seenL kd a b q xs j ++ if letsB kd a b (q + j) (xs.getD j 0) then [(q + (j : Int), xs.getD j 0)] else []
theorem seenL_le (kd a b q : Int) (xs : List Int) : ∀ j, (seenL kd a b q xs j).length ≤ j
  | 0 => Nat.le_refl _
  | j + 1 => by
    have := seenL_le kd a b q xs j
    simp only [seenL, List.length_append]
    split <;> simp <;> omega
theorem own_pos {w : World} {b0 n c : Nat} {e : TypeId} {A : Option Addr} {xs : List Value} (h : w.ownsRow b0 e 1 (.slice A n c) n xs) (hn : 0 < n) : ∃ L, A = some ⟨L, 0, none⟩ ∧ b0 ≤ L ∧ n ≤ c ∧ c ≤ maxLen ∧ L < w.heap.size ∧ ∀ j u, xs[j]? = some u → w.cell? ⟨L, j, none⟩ = some u := by
  obtain ⟨m, rfl⟩ : ∃ m, n = m + 1 := ⟨n - 1, by omega⟩
  obtain ⟨L, h1, h2, h3, h4, h5⟩ := own_succ h
  subst h1
  exact ⟨L, rfl, h2, h3, h4, (h.lt L rfl).2, h5⟩
theorem cells_new (w : World) (t : TypeId) (news : List Value) (g : Nat) (hg : g = w.heap.size) : ∀ j u, news[j]? = some u → (w.alloc (.cells news.toArray t)).cell? ((⟨g, 0, none⟩ : Addr).add j) = some u := by
  intro j u h
  subst hg
  have := (Blk.new w t news.toArray).cell j
  rw [List.getElem?_toArray, h] at this
  have e : (⟨w.heap.size, 0, none⟩ : Addr).add j = ⟨w.heap.size, j, none⟩ := by cases j <;> simp [Addr.add]
  rw [e]
  exact this
theorem Tryz.infoSeen : (Tryz.prog.info? 52).map (fun i => (i.zero, i.size, i.bytes)) = some (some (.agg #[.int .i64 0, .int .i64 0, .int .i64 0, .int .i64 0]), 4, 32) := by kernel_rfl
set_option maxHeartbeats 4000000 in
set_option maxRecDepth 100000 in
theorem sub_poll {w : World} {M R Rs C Sn n u T r G i : Nat} {kd a b : Int} {st va f : Nat → Int} {cur seen : Int} (gp : Option Addr) (q m : Int) (k : Nat) (hu : SubAt w u T r kd a b i) (hr : RdAt w r M G i true q) (hM : MulAt w M R Rs C Sn n st va cur seen) (hG : GateAt w G gp f) (hi : i < 64)
    (h0 : 0 ≤ q) (hq : q ≤ cur) (h1 : cur < 4611686018427387904) (hm0 : -9223372036854775808 ≤ m) (hm1 : m < 9223372036854775808) (hk : (k : Int) = min (cur - q + 1) (min (max m 1) n)) (hst : ∀ j : Nat, j < k → st ((q + j) % n).toNat = 2 * ((q + j) / n)) (ha : a ≤ 9223372036854775807) (d1 : r ≠ G) (d2 : M ≠ G) (d3 : u ≠ G) (d4 : u ≠ r) :
    Calls Tryz.prog 21 #[.pointer (some ⟨u, 0, none⟩), .nilIface, .int .i64 m] w fun e w' => ∃ v', e = .returned (.tuple #[v', .int .i64 0, .int .i64 0]) ∧ Kept (fun b => b = G ∨ b = r) w w' ∧
      w'.ownsRow w.heap.size 52 4 v' (seenL kd a b q (rowV va n q k) k).length ((seenL kd a b q (rowV va n q k) k).flatMap seeC) ∧ RdAt w' r M G i true (q + k) ∧ GateAt w' G gp (upd f i (q + k - 1)) := by
  have hkk : 1 ≤ k ∧ q + k - 1 ≤ cur ∧ k ≤ n := by have := hM.ring.pos; omega
  obtain ⟨hk1, hk2, hk3⟩ := hkk
  have hn2 := hM.ring.most
  have HU := Lib.hid hu
  have HH := Lib.hid (And.intro hr (And.intro hM hG))
  have HS := Lib.hid (And.intro h0 (And.intro hq (And.intro h1 (And.intro hm0 (And.intro hm1 (And.intro hk (And.intro hst (And.intro d1 d2))))))))
  have HD := Lib.hid (And.intro d3 d4)
  clear hu hr hM hG hq hm0 hm1 hk hst d1 d2 d3 d4
  go_enter Tryz.func21, Tryz.ntmps21
  go_wp2_with (go_at_call 38; refine (sub_over u T r i kd a b _ HU.out).mono ?_; rintro e w' ⟨rfl, rfl⟩)
  obtain ⟨-, hq, -, hm0, hm1, hk, hst, d1, d2⟩ := HS.out
  refine (sub_read gp q m k HU.out HH.out.1 HH.out.2.1 HH.out.2.2 hi h0 hq h1 hm0 hm1 hk hst d1 d2).mono ?_
  clear hq hm0 hm1 hk hst d1 d2
  rintro e w1 ⟨v', rfl, k1, o1, r1, g1⟩
  obtain ⟨vA, vc, rfl⟩ := own_slice o1
  obtain ⟨L, hLA, hL0, hLc, hLm, hLt, hLx⟩ := own_pos o1 (by omega)
  subst hLA
  have hz1 := k1.size
  have hu1 : SubAt w1 u T r kd a b i := Blk.kept HU.out k1 (fun z => by rcases z with z | z; exact HD.out.1 z; exact HD.out.2 z)
  have hult := Blk.lt hu1
  have hcells : ∀ j, j < k → w1.cell? ⟨L, j, none⟩ = some (.int .i64 ((rowV va n q k).getD j 0)) := fun j hj => by
    have hlen : (rowV va n q k).length = k := by simp [rowV]
    refine hLx j _ ?_
    rw [List.getElem?_map, List.getElem?_eq_getElem (by omega), List.getD_eq_getElem?_getD, List.getElem?_eq_getElem (by omega)]
    rfl
  obtain ⟨xs, hxs⟩ : ∃ xs, xs = rowV va n q k := ⟨_, rfl⟩
  rw [← hxs] at hcells
  have HXS := Lib.hid hxs
  clear hxs
  have H1 := Lib.hid (And.intro k1 (And.intro r1 (And.intro g1 (And.intro hu1 hcells))))
  clear k1 o1 r1 g1 hLx hu1 hcells
  unfold maxLen at hLm
  go_wp2_with (go_at_call 19; refine (sub_next u T r i M G kd a b (q + k) true _ H1.out.2.2.2.1 H1.out.2.1).mono ?_; rintro e w' ⟨rfl, rfl⟩)
  obtain ⟨t0, hi0, hy0, hy1, hy2⟩ := info_parts Tryz.infoSeen
  go_loopw [12, 59] (fun l p wr => ∃ j : Nat, j ≤ k ∧ p = .int .i64 j ∧ Hid (wr.ownsRow w1.heap.size 52 4 l (seenL kd a b q xs j).length ((seenL kd a b q xs j).flatMap seeC) ∧ Kept (fun b => w1.heap.size ≤ b) w1 wr)) (fun l p _ => k - (intOf p).toNat)
  case atStart => exact ⟨0, by omega, rfl, Lib.hid ⟨World.ownsRow_nil _ _ _ _, Kept.refl _ _⟩⟩
  case round =>
    obtain ⟨j, hj, rfl, HR⟩ := hrel
    have hle := seenL_le kd a b q xs j
    obtain ⟨oA, oc, rfl⟩ := own_slice HR.out.1
    by_cases hlt : j < k
    · have cv : wr.cell? ⟨L, j, none⟩ = some (.int .i64 (xs.getD j 0)) := cell_keep (H1.out.2.2.2.2 j hlt) HR.out.2 (show ¬ w1.heap.size ≤ L by omega)
      have HN := Lib.hid (show seenL kd a b q xs (j + 1) = seenL kd a b q xs j ++ (if letsB kd a b (q + j) (xs.getD j 0) then [(q + (j : Int), xs.getD j 0)] else []) from rfl)
      generalize xs.getD j 0 = x at cv HN
      have hur : SubAt wr u T r kd a b i := Blk.kept H1.out.2.2.2.1 HR.out.2 (by omega)
      have c1 : wr.cell? ⟨u, 1, none⟩ = some (.int .i64 kd) := Blk.cell hur 1
      have c2 : wr.cell? ⟨u, 2, none⟩ = some (.int .i64 a) := Blk.cell hur 2
      have c3 : wr.cell? ⟨u, 3, none⟩ = some (.int .i64 b) := Blk.cell hur 3
      clear hur
      obtain ⟨len, hlen⟩ : ∃ len, len = (seenL kd a b q xs j).length := ⟨_, rfl⟩
      rw [← hlen] at hle ⊢
      have hro := HR.out.1
      rw [← hlen] at hro
      have HRo := Lib.hid hro
      have HLEN := Lib.hid hlen
      clear hlen hro
      go_wp2_with fail
      refine (lets_ok kd a b (q + j) x wr (by omega) (by omega) ha).mono ?_
      rintro e w2 ⟨rfl, k2⟩
      obtain ⟨B, hB⟩ : ∃ B, letsB kd a b (q + j) x = B := ⟨_, rfl⟩
      have HN2 := HN.out
      rw [hB] at HN2 ⊢
      clear hB HN
      have H2 := Lib.hid (HR.out.2.trans (k2.mono fun _ _ z => z.elim))
      have HO2 := Lib.hid (own_kept HRo.out k2 (fun _ _ z => z))
      clear k2 cv c1 c2 c3
      cases B with
      | false =>
        simp only [Bool.false_eq_true, if_false, List.append_nil] at HN2
        have HN := Lib.hid HN2
        clear HN2
        go_wp2
        go_roundw
        case rel =>
          refine ⟨j + 1, by omega, by go_num, Lib.hid ⟨?_, H2.out⟩⟩
          rw [HN.out, ← HLEN.out]
          exact HO2.out
        case measure => simp [intOf]; omega
      | true =>
        simp only [if_true] at HN2
        have HN := Lib.hid HN2
        clear HN2
        go_wp2_with fail
        refine (unpack_bus x w2).mono ?_
        rintro e w3 ⟨rfl, k3⟩
        have H3 := Lib.hid (H2.out.trans (k3.mono fun _ _ z => z.elim))
        have HO3 := Lib.hid (own_kept HO2.out k3 (fun _ _ z => z))
        have hz3 := H3.out.size
        clear k3
        by_cases hE : unE x = 0
        · rw [hE]
          have eW : seW x = itW x := if_pos hE
          have eX : seX x = itX x := if_pos hE
          have eN : seN x = itN x := rfl
          have HE := Lib.hid (And.intro eW (And.intro eN eX))
          clear eW eX eN hE
          generalize itW x = xW at *
          generalize itN x = xN at *
          generalize itX x = xX at *
          go_wp2_with (at_builtin; refine wpList_append_own _ rfl _ _ 48 rfl w1.heap.size 52 t0 (.agg #[.int .i64 0, .int .i64 0, .int .i64 0, .int .i64 0]) 4 32 Tryz.underlying48 hi0 hy0 hy1 hy2 rfl (by decide) _ _ _ rfl ((HO3.out.alloc _).alloc _) ⟨w3.heap.size + 1, 0, none⟩ 1 1 [.int .i64 (q + j), .int .i64 (xW), .int .i64 (xN), .int .i64 (xX)] rfl rfl ?c1 ?c2 ?c3 ?c4 ?c5 ?_)
          case c1 => exact cells_new _ _ [.int .i64 (q + j), .int .i64 (xW), .int .i64 (xN), .int .i64 (xX)] _ (by simp)
          case c2 => simp [Value.oneCell']
          case c3 => unfold maxLen; omega
          case c4 => omega
          case c5 => simp; omega
          intro v' w4 hown1 hg1 _
          have ho1 : w4.ownsRow w1.heap.size 52 4 v' (seenL kd a b q xs (j + 1)).length ((seenL kd a b q xs (j + 1)).flatMap seeC) := by
            rw [HN.out, List.length_append, List.flatMap_append, ← HLEN.out]
            have e : [(q + (j : Int), x)].flatMap seeC = [.int .i64 (q + j), .int .i64 (xW), .int .i64 (xN), .int .i64 (xX)] := by simp [seeC, HE.out.1, HE.out.2.1, HE.out.2.2]
            rw [e]
            exact hown1
          have hk4 : Kept (fun b => w1.heap.size ≤ b) w3 w4 := ((Kept.alloc _ _).trans (Kept.alloc _ _)).trans (Kept.grown hg1 (fun b hb => (HO3.out.lt b hb).1))
          have HO4 := Lib.hid (And.intro ho1 (H3.out.trans hk4))
          clear hown1 hg1 ho1 hk4
          obtain ⟨oA', oc', rfl⟩ := own_slice HO4.out.1
          go_wp2
          go_roundw
          case rel => exact ⟨j + 1, by omega, by go_num, HO4⟩
          case measure => simp [intOf]; omega
        · have eW : seW x = -1 := if_neg hE
          have eX : seX x = x := if_neg hE
          have eN : seN x = itN x := rfl
          have eN0 : itN x = 0 := by
            unfold unE at hE
            unfold itN
            cases h : okI x
            · rfl
            · rw [h] at hE; exact absurd rfl hE
          have eE : (unE x != 0) = true := by simpa using hE
          rw [eN0] at eN
          have HE := Lib.hid (And.intro eW (And.intro eN eX))
          clear eW eX eN hE eN0
          generalize itW x = xW at *
          generalize itN x = xN at *
          generalize itX x = xX at *
          go_wp2_with (at_builtin; refine wpList_append_own _ rfl _ _ 48 rfl w1.heap.size 52 t0 (.agg #[.int .i64 0, .int .i64 0, .int .i64 0, .int .i64 0]) 4 32 Tryz.underlying48 hi0 hy0 hy1 hy2 rfl (by decide) _ _ _ rfl ((HO3.out.alloc _).alloc _) ⟨w3.heap.size + 1, 0, none⟩ 1 1 [.int .i64 (q + j), .int .i64 (-1), .int .i64 (0), .int .i64 (x)] rfl rfl ?d1 ?d2 ?d3 ?d4 ?d5 ?_)
          case d1 => exact cells_new _ _ [.int .i64 (q + j), .int .i64 (-1), .int .i64 (0), .int .i64 (x)] _ (by simp)
          case d2 => simp [Value.oneCell']
          case d3 => unfold maxLen; omega
          case d4 => omega
          case d5 => simp; omega
          intro v' w4 hown1 hg1 _
          have ho1 : w4.ownsRow w1.heap.size 52 4 v' (seenL kd a b q xs (j + 1)).length ((seenL kd a b q xs (j + 1)).flatMap seeC) := by
            rw [HN.out, List.length_append, List.flatMap_append, ← HLEN.out]
            have e : [(q + (j : Int), x)].flatMap seeC = [.int .i64 (q + j), .int .i64 (-1), .int .i64 (0), .int .i64 (x)] := by simp [seeC, HE.out.1, HE.out.2.1, HE.out.2.2]
            rw [e]
            exact hown1
          have hk4 : Kept (fun b => w1.heap.size ≤ b) w3 w4 := ((Kept.alloc _ _).trans (Kept.alloc _ _)).trans (Kept.grown hg1 (fun b hb => (HO3.out.lt b hb).1))
          have HO4 := Lib.hid (And.intro ho1 (H3.out.trans hk4))
          clear hown1 hg1 ho1 hk4
          obtain ⟨oA', oc', rfl⟩ := own_slice HO4.out.1
          go_wp2
          go_roundw
          case rel => exact ⟨j + 1, by omega, by go_num, HO4⟩
          case measure => simp [intOf]; omega
    · have hjk : j = k := by omega
      subst hjk
      go_wp2
      go_ret3
      rw [← HXS.out]
      have kz : Kept (fun b => b = G ∨ b = r) w wr := H1.out.1.later HR.out.2 (fun b hb => by omega)
      have hrl := Blk.lt H1.out.2.1
      have hgl := H1.out.2.2.1.lt
      exact ⟨_, rfl, kz, own_baseL HR.out.1 hz1, Blk.kept H1.out.2.1 HR.out.2 (by omega), H1.out.2.2.1.kept HR.out.2 (by omega)⟩
end Go.Proofs.YtbmjmamodnapiaaGreatDoor
