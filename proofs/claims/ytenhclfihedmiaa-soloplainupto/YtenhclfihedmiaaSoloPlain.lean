/- DERIVED. SoloPlain, walked. -/
import Derived.Test.YtenhclfihedmiaaSoloL
namespace Go.Proofs.Ytenhclfihedmiaa
open Go.RowKit

theorem shl_ok (s : Nat) (h : s < 5) : (IntKind.wrap .i64 ((1 : Int) * 2 ^ s) = ((2 ^ s : Nat) : Int)) ∧ 0 < 2 ^ s ∧ 2 ^ s ≤ 16 ∧ (bits BinOp.and IntKind.i64 ((2 ^ s : Nat) : Int) (((2 ^ s : Nat) : Int) - 1) != 0) = false := by
  match s, h with
  | 0, _ => decide
  | 1, _ => decide
  | 2, _ => decide
  | 3, _ => decide
  | 4, _ => decide

theorem many (b : Int) (n : Nat) (h : n ≤ 16) : ∃ c : Nat, c < n + 2 ∧ wrap64 ((IntKind.u64.wrap b).tmod ((n : Int) + 2)) = c := by
  have h0 : 0 ≤ IntKind.u64.wrap b := by rw [IntKind.wrap_u64]; omega
  rw [Int.tmod_eq_emod_of_nonneg h0]
  have h1 := Int.emod_nonneg (IntKind.u64.wrap b) (b := (n : Int) + 2) (by omega)
  have h2 := Int.emod_lt_of_pos (IntKind.u64.wrap b) (b := (n : Int) + 2) (by omega)
  refine ⟨(IntKind.u64.wrap b % ((n : Int) + 2)).toNat, by omega, ?_⟩
  unfold wrap64; omega
theorem many5 (b : Int) : ∃ c : Nat, c < 5 ∧ wrap64 ((IntKind.u64.wrap b).tmod 5) = c := by
  have h0 : 0 ≤ IntKind.u64.wrap b := by rw [IntKind.wrap_u64]; omega
  rw [Int.tmod_eq_emod_of_nonneg h0]
  refine ⟨(IntKind.u64.wrap b % 5).toNat, by omega, ?_⟩
  unfold wrap64; omega
/-- What a Write act writes. -/
def actVals (a : Int) (c : Nat) : List Int := (List.range c).map fun j => wrap64 (a + (j : Nat))
theorem actVals_succ (a : Int) (c : Nat) : (actVals a (c + 1)).map (Value.int .i64) = (actVals a c).map (Value.int .i64) ++ [.int .i64 (wrap64 (a + (c : Nat)))] := by
  simp [actVals, List.range_succ]
def lowR (rd : Nat → Nat) (M : Int) : Nat → Int
  | 0 => M
  | i + 1 => if (rd i : Int) < lowR rd M i then (rd i : Int) else lowR rd M i
theorem lowR_lt (rd : Nat → Nat) (M t : Int) (k : Nat) : lowR rd M k < t ↔ M < t ∨ ∃ j, j < k ∧ (rd j : Int) < t := by
  induction k with
  | zero => simp [lowR]
  | succ k ih =>
    simp only [lowR]
    constructor
    · intro h
      split at h
      · exact .inr ⟨k, by omega, h⟩
      · rcases ih.1 h with h | ⟨j, hj, h⟩
        · exact .inl h
        · exact .inr ⟨j, by omega, h⟩
    · intro h
      have ha : (M < t ∨ ∃ j, j < k ∧ (rd j : Int) < t) ∨ (rd k : Int) < t := by
        rcases h with h | ⟨j, hj, h⟩
        · exact .inl (.inl h)
        · by_cases e : j = k
          · exact .inr (e ▸ h)
          · exact .inl (.inr ⟨j, by omega, h⟩)
      rcases ha with ha | ha
      · have := ih.2 ha
        split <;> omega
      · split <;> omega
theorem lowR_full (I : Ids) (all : List Int) (rd : Nat → Nat) (c : Nat) (hn : 0 < I.n) : lowR rd ((all.length : Int) + c) I.k < (all.length : Int) + c - I.n ↔ fullB I all rd c := by
  rw [lowR_lt]
  unfold fullB
  constructor
  · rintro (h | ⟨j, hj, h⟩)
    · omega
    · exact ⟨j, hj, by omega⟩
  · rintro ⟨j, hj, h⟩
    exact .inr ⟨j, hj, by omega⟩
theorem own_addr {w : World} {base : Nat} {e : TypeId} {size n cap : Nat} {A : Option Addr} {xs : List Value} (h : w.ownsRow base e size (.slice A n cap) n xs) (hn : 0 < n) : ∃ g, A = some ⟨g, 0, none⟩ ∧ base ≤ g := by
  rcases h.2 with ⟨e, _⟩ | ⟨g, cap', cur, e, hg, _⟩
  · cases e; omega
  · cases e; exact ⟨g, rfl, hg⟩
theorem Try.wordInfo : (Try.prog.info? 3).map (fun i => (i.zero, i.size, i.bytes)) = some (some (.int .i64 0), 1, 8) := by kernel_rfl
/-- The acts of a slice of acts, by their place. -/
def ActsAt (w : World) (A : Option Addr) (len : Nat) : Prop :=
  ∀ j, j < len → ∃ (p : Addr) (who kd a b c : Int), A = some p ∧ (p.add (j * 5)).block < w.heap.size ∧ 0 ≤ who ∧ who < 256 ∧ (w.cell? (p.add (j * 5)) = some (.int .u8 who)) ∧ (w.cell? ⟨(p.add (j * 5)).block, (p.add (j * 5)).off + 1, none⟩ = some (.int .i64 kd)) ∧ (w.cell? ⟨(p.add (j * 5)).block, (p.add (j * 5)).off + 2, none⟩ = some (.int .i64 a)) ∧ (w.cell? ⟨(p.add (j * 5)).block, (p.add (j * 5)).off + 3, none⟩ = some (.int .i64 b)) ∧ (w.cell? ⟨(p.add (j * 5)).block, (p.add (j * 5)).off + 4, none⟩ = some (.int .i64 c))
/-- The world at the head of the great loop, behind j acts. -/
def PlainAt (w : World) (I : Ids) (ab j : Nat) (v : Value) (wr : World) : Prop :=
  ∃ (all : List Int) (rd : Nat → Nat), SoloIs wr I all rd ∧ NumsAt wr ab I.k (fun i => (rd i : Int)) ∧ wr.ownsRow (ab + 1) 2 1 v all.length (all.map (Value.int .i64)) ∧ all.length ≤ 16 * j ∧ Below w.heap.size w wr
theorem own_cells {w : World} {base g cap n : Nat} {e : TypeId} {xs : List Value} (h : w.ownsRow base e 1 (.slice (some ⟨g, 0, none⟩) n cap) n xs) : ∀ j u, xs[j]? = some u → w.cell? ((⟨g, 0, none⟩ : Addr).add j) = some u := by
  intro j u hj
  have hl : xs.length = n := by simpa using h.1
  have hjl : j < xs.length := (List.getElem?_eq_some_iff.1 hj).1
  have hc := h.cellAt (g := g) j (by omega)
  have e0 : (⟨g, 0, none⟩ : Addr).add j = ⟨g, j, none⟩ := by unfold Addr.add; split <;> simp_all
  rw [e0, hc, hj]
theorem own_cap {w : World} {base n cap size : Nat} {A : Option Addr} {e : TypeId} {xs : List Value} (h : w.ownsRow base e size (.slice A n cap) n xs) : n ≤ cap := by
  rcases h.2 with ⟨e, _⟩ | ⟨g, cap', cur, e, hg, _, h1, _⟩
  · cases e; omega
  · cases e; exact h1
theorem left_ints {w : World} {base g r X m cap c : Nat} {e : TypeId} {xs : List Int} (h : w.ownsRow base e 1 (.slice (some ⟨g, 0, none⟩) xs.length cap) xs.length (xs.map (Value.int .i64))) (hX : X = m) (hm : r + m ≤ xs.length) :
    IntsAt w (.slice (some ⟨g, r, none⟩) X c) ((xs.drop r).take m) := by
  subst hX
  have hl : ((xs.drop r).take X).length = X := by rw [List.length_take, List.length_drop]; omega
  refine ⟨_, _, by rw [hl], fun i hi => ⟨g, r, rfl, ?_⟩⟩
  rw [hl] at hi
  have hc := own_cells h (r + i) (.int .i64 (((xs.drop r).take X).getD i 0)) (by
    rw [List.getElem?_map, List.getD_eq_getElem?_getD, List.getElem?_take, if_pos hi, List.getElem?_drop, List.getElem?_eq_getElem (show r + i < xs.length by omega)]; rfl)
  have e0 : (⟨g, 0, none⟩ : Addr).add (r + i) = ⟨g, r + i, none⟩ := by unfold Addr.add; split <;> simp_all
  rw [e0] at hc
  exact ⟨lt_of_cell hc, hc⟩
theorem list_cell {w : World} {base g cap n x : Nat} {e : TypeId} {f : Nat → Int} (h : w.ownsRow base e 1 (.slice (some ⟨g, 0, none⟩) n cap) n ((listN f n).map (Value.int .i64))) (hx : x < n) : w.cell? ⟨g, x, none⟩ = some (.int .i64 (f x)) := by
  have hc := own_cells h x (.int .i64 (f x)) (by simp [listN, hx])
  have e0 : (⟨g, 0, none⟩ : Addr).add x = ⟨g, x, none⟩ := by unfold Addr.add; split <;> simp_all
  rwa [e0] at hc
set_option maxRecDepth 100000 in
set_option maxHeartbeats 4000000 in
theorem solo_plain (s r : Nat) (A : Option Addr) (len cap : Nat) (w : World) (hs : s < 256) (hr : r < 256) (hlen : len ≤ 1048576) (ha : ActsAt w A len) : Calls Try.prog 3 #[.int .u8 s, .int .u8 r, .slice A len cap] w (TrueBelow w) := by
  obtain ⟨i0, hi, hz0, hz1, hz2⟩ := info_parts Try.wordInfo
  have hmk0 := fun wx (k : Nat) (hk : k < 3) => run_make (P := Try.prog) wx 30 3 i0 _ Try.underlying30 hi hz0 .i64 .i64 k k (by omega) (by omega) (by rw [hz2]; omega) (by omega)
  simp only [Int.toNat_natCast, hz1, Value.cells, Nat.mul_one] at hmk0
  clear hi hz0 hz1 hz2
  obtain ⟨i0', hi0, hy0, hy1, hy2⟩ := info_parts Try.intInfo
  go_enter Try.func3, Try.ntmps3
  go_wp2_with fail
  refine (writes_true w).mono ?_
  rintro e w1 ⟨rfl, b1⟩
  have z1 : w.heap.size ≤ w1.heap.size := b1.size
  have B1 := Lib.hid b1
  clear b1
  go_wp2_with fail
  obtain ⟨en, hn0, hn1, hn2⟩ := shl_ok (s % 5) (Nat.mod_lt _ (by decide))
  have en' : wrap64 (2 ^ (s % 5)) = ((2 ^ (s % 5) : Nat) : Int) := by
    have e0 : ((2 : Int) ^ (s % 5)) = ((2 ^ (s % 5) : Nat) : Int) := by simp
    rw [e0]; unfold wrap64; omega
  have ek : ((r : Int) % 3) = ((r % 3 : Nat) : Int) := by omega
  have hk0 : r % 3 < 3 := Nat.mod_lt _ (by decide)
  simp only [en', ek]
  clear en en' ek
  generalize 2 ^ (s % 5) = n at *
  generalize r % 3 = k at *
  have hmk := fun wx => hmk0 wx k hk0
  clear hmk0
  refine (solo_new n k w1 hn0 (by omega) (by omega) hn2).mono ?_
  rintro e w2 ⟨I, rfl, rfl, l1, l2, l3, l4, l5, rfl, HS, hb⟩
  have HI : SoloIs w2 I [] (fun _ => 0) := ⟨_, HS, inv_zero hn0⟩
  have lt1 := HI.lts
  have HI := Lib.hid HI
  have HS := Lib.hid HS
  have B2 := Lib.hid (B1.out.trans (hb.mono B1.out.size))
  clear hb hn2
  go_wp2_with (first | (go_at_call 7; refine (solo_size _ _ _ HS.out).mono ?_; rintro e w' ⟨rfl, rfl⟩) | (go_at_call 8; refine (solo_readers _ _ _ HS.out).mono ?_; rintro e w' ⟨rfl, rfl⟩))
  go_loopw [11, 70] (fun v q wr => ∃ j : Nat, j ≤ len ∧ q = .int .i64 j ∧ PlainAt w I w2.heap.size j v wr) (fun _ q _ => (len - intOf q).toNat)
  case atStart =>
    have bk := Blk.new w2 3 (madeCells #[.int .i64 0] I.k)
    exact ⟨0, Nat.zero_le _, rfl, [], fun _ => 0, HI.out.kept (Kept.alloc (S := fun _ => False) _ _) id id id id id,
      ⟨fun i hi => by rw [bk.cell i, made_one _ _ hi]; rfl, fun i => bk.frozen i, bk.lt⟩, ⟨rfl, .inl ⟨rfl, rfl⟩⟩, Nat.zero_le _, B2.out.alloc B2.out.size _⟩
  case round =>
    obtain ⟨j, hj, rfl, all, rd, HI, HP, HO, hall, hB⟩ := hrel
    obtain ⟨A1, cap1, rfl⟩ := own_slice HO
    rename World => wq
    by_cases hlt : j < len
    · obtain ⟨p, who, kd, a, b, c', rfl, hpb, hw0, hw1, hp0, hp1, hp2, hp3, hp4⟩ := ha j hlt
      have hp0 := (hB.cell (p := p.add (j * 5)) hpb).trans hp0
      have hp1 := (hB.cell (p := ⟨(p.add (j * 5)).block, (p.add (j * 5)).off + 1, none⟩) hpb).trans hp1
      have hp2 := (hB.cell (p := ⟨(p.add (j * 5)).block, (p.add (j * 5)).off + 2, none⟩) hpb).trans hp2
      have hp3 := (hB.cell (p := ⟨(p.add (j * 5)).block, (p.add (j * 5)).off + 3, none⟩) hpb).trans hp3
      have hp4 := (hB.cell (p := ⟨(p.add (j * 5)).block, (p.add (j * 5)).off + 4, none⟩) hpb).trans hp4
      by_cases h0 : who % ((I.k : Int) + 1) = 0
      · have HI := Lib.hid HI
        have HP := Lib.hid HP
        have HO := Lib.hid HO
        have HB := Lib.hid hB
        obtain ⟨c, hc, ec⟩ := many b I.n hn1
        have hz0 : w.heap.size ≤ wq.heap.size := hB.size
        clear hB
        go_wp2_with fail
        simp only [ec, h0]
        clear ec h0
        have k0 : Kept (fun _ => False) wq (wq.alloc (.cells #[.int .u8 who, .int .i64 kd, .int .i64 a, .int .i64 b, .int .i64 c'] 34)) := Kept.alloc _ _
        have bA := Blk.new wq 34 #[.int .u8 who, .int .i64 kd, .int .i64 a, .int .i64 b, .int .i64 c']
        have zA : (wq.alloc (.cells #[.int .u8 who, .int .i64 kd, .int .i64 a, .int .i64 b, .int .i64 c'] 34)).heap.size = wq.heap.size + 1 := by simp
        generalize wq.alloc (.cells #[.int .u8 who, .int .i64 kd, .int .i64 a, .int .i64 b, .int .i64 c'] 34) = wA at k0 bA zA ⊢
        have K0 := Lib.hid (And.intro k0 bA)
        clear hp0 hp1 hp2 hp3 hp4 k0 bA
        go_loopw [17, 92] (fun v q wx => ∃ i : Nat, i ≤ c ∧ q = .int .i64 i ∧ wx.ownsRow (wq.heap.size + 1) 2 1 v i ((actVals a i).map (Value.int .i64)) ∧ Kept (fun b => wq.heap.size + 1 ≤ b) wA wx) (fun _ q _ => (c - intOf q).toNat)
        case atStart => exact ⟨0, Nat.zero_le _, rfl, ⟨by simp [actVals], .inl ⟨rfl, rfl⟩⟩, Kept.refl _ _⟩
        case round =>
          obtain ⟨i, hi, rfl, hown, hkx⟩ := hrel
          obtain ⟨A', cap', rfl⟩ := own_slice hown
          have hact := (K0.out.2.kept hkx (by omega)).cell 2
          have hzx := hkx.size
          by_cases hic : i < c
          · go_wp2_with (at_builtin; refine wpList_append_own _ rfl _ _ 29 rfl (wq.heap.size + 1) 2 i0' (.int .i64 0) 1 8 Try.underlying29 hi0 hy0 hy1 hy2 rfl (by decide) _ _ _ rfl (hown.alloc _) ⟨wr.heap.size, 0, none⟩ 1 1 [.int .i64 (wrap64 (a + (i : Nat)))] rfl rfl ?c1 ?c2 ?c3 ?c4 ?c5 ?_)
            case c1 => exact cell_one_new _ _ _
            case c2 => simp [Value.oneCell']
            case c3 => unfold maxLen; omega
            case c4 => omega
            case c5 => simp; omega
            intro v' w3 hown1 hg1 _
            have ho1 : w3.ownsRow (wq.heap.size + 1) 2 1 v' (i + 1) ((actVals a (i + 1)).map (Value.int .i64)) := by rw [actVals_succ]; exact hown1
            have hk3 : Kept (fun b => wq.heap.size + 1 ≤ b) wr w3 := (Kept.alloc _ _).trans (Kept.grown hg1 (fun k hk => (hown.lt k hk).1))
            have HO2 := Lib.hid (And.intro ho1 (hkx.trans hk3))
            clear hown1 hg1 ho1 hk3
            go_wp2
            go_roundw
            case rel => exact ⟨i + 1, by omega, by go_num, HO2.out.1, HO2.out.2⟩
            case measure => simp [intOf]; omega
          · obtain rfl : i = c := by omega
            have HV := Lib.hid hown
            have HK := Lib.hid hkx
            clear hown hkx hact
            go_wp2_with fail
            have KK : Kept (fun b => wq.heap.size + 1 ≤ b) wq wr := (K0.out.1.mono (fun _ _ h => h.elim)).trans HK.out
            have HP2 : NumsAt wr w2.heap.size I.k fun i => (rd i : Int) := HP.out.kept KK (by have := HP.out.lt; omega)
            have HP3 := Lib.hid HP2
            have HK2 := Lib.hid KK
            clear HP2 KK
            go_loop [19, 110] (fun v q => ∃ x : Nat, x ≤ I.k ∧ q = .int .i64 x ∧ v = .int .i64 (lowR rd ((all.length + i : Nat) : Int) x)) (fun _ q => (I.k - intOf q).toNat)
            case atStart => exact ⟨0, Nat.zero_le _, rfl, by simp [lowR]⟩
            case round =>
              obtain ⟨x, hx, rfl, rfl⟩ := hrel
              by_cases hxk : x < I.k
              · have hcx := HP3.out.cell x hxk
                go_wp2
                go_round
                case rel => exact ⟨x + 1, by omega, by go_num, by simp only [lowR]; rfl⟩
                case measure => simp [intOf]; omega
              · obtain rfl : x = I.k := by omega
                have KW : Kept (fun _ => False) wq wr := HK2.out.mono (fun k hk h => by omega)
                have H1 : SoloIs wr I all rd := HI.out.kept KW id id id id id
                have O1 : wr.ownsRow (w2.heap.size + 1) 2 1 (.slice A1 all.length cap1) all.length (all.map (Value.int .i64)) := own_kept HO.out KW (fun _ _ h => h)
                have b1 : Below w.heap.size w wr := HB.out.trans (HK2.out.to_below (fun k hk => by omega) hz0)
                have HH1 := Lib.hid H1
                have OO1 := Lib.hid O1
                have BB1 := Lib.hid b1
                clear KW H1 O1 b1
                by_cases hr0 : i = 0 ∨ I.n < i
                · have hr1 := Lib.hid hr0
                  obtain ⟨S, HA, _⟩ := HH1.out
                  have HA1 := Lib.hid HA
                  clear HA hr0
                  by_cases hi0 : i < 1
                  · go_wp2_with fail
                    refine (solo_write_range _ _ I S HA1.out _ _ _ hr1.out (by unfold maxLen; omega)).mono ?_
                    rintro e w' ⟨rfl, rfl⟩
                    go_wp2
                    go_roundw
                    case rel => exact ⟨j + 1, by omega, by go_num, all, rd, HH1.out, HP3.out, OO1.out, by omega, BB1.out⟩
                    case measure => simp [intOf]; omega
                  · have hi1 : I.n < i := by have := hr1.out; omega
                    go_wp2_with fail
                    refine (solo_write_range _ _ I S HA1.out _ _ _ hr1.out (by unfold maxLen; omega)).mono ?_
                    rintro e w' ⟨rfl, rfl⟩
                    go_wp2
                    go_roundw
                    case rel => exact ⟨j + 1, by omega, by go_num, all, rd, HH1.out, HP3.out, OO1.out, by omega, BB1.out⟩
                    case measure => simp [intOf]; omega
                · have hi1 : 0 < i := by omega
                  have hi2 : i ≤ I.n := by omega
                  clear hr0
                  obtain ⟨g, rfl, hg⟩ := own_addr HV.out hi1
                  have hl : (actVals a i).length = i := by simp [actVals]
                  have hz2 : w2.heap.size < wq.heap.size := HP.out.lt
                  have hv := IntsAt.of_own HV.out
                  have hwr := write_is .none 0 wr I (walks_none I) all (actVals a i) rd HH1.out trivial _ hv (by omega) (by omega) (by omega) (fun a n c e => by cases e; exact ⟨by dsimp only; omega, by dsimp only; omega, id⟩)
                  have HWR := Lib.hid hwr
                  clear hv hwr
                  by_cases hf : fullB I all rd i
                  · have hlow := (lowR_full I all rd i hn0).2 hf
                    have HF := Lib.hid hf
                    clear hf
                    go_wp2_with fail
                    refine HWR.out.mono ?_
                    rintro e wd ⟨⟨_, rfl, H2, _⟩ | ⟨hn, _⟩, kd, zd⟩
                    rotate_left
                    · rw [hl] at hn; exact absurd HF.out hn
                    have H2 := Lib.hid H2
                    have KD := Lib.hid kd
                    clear kd
                    go_wp2
                    go_roundw
                    case rel => exact ⟨j + 1, by omega, by go_num, all, rd, H2.out, HP3.out.kept KD.out (by rintro (h | h | h) <;> first | omega | exact h), own_kept OO1.out KD.out (by rintro b hb (h | h | h) <;> first | omega | exact h), by omega, BB1.out.trans (KD.out.to_below (by rintro b (h | h | h) <;> first | omega | exact h.elim) (by omega))⟩
                    case measure => simp [intOf]; omega
                  · have hlow := Int.not_lt.1 (mt (lowR_full I all rd i hn0).1 hf)
                    have HF := Lib.hid hf
                    clear hf
                    go_wp2_with fail
                    refine HWR.out.mono ?_
                    rintro e wd ⟨⟨hn, _⟩ | ⟨_, rfl, H2, _⟩, kd, zd⟩
                    · rw [hl] at hn; exact absurd hn HF.out
                    have H2 := Lib.hid H2
                    have KD := Lib.hid kd
                    have od := own_kept OO1.out kd (by rintro b hb (h | h | h) <;> first | omega | exact h)
                    have vd := own_kept HV.out kd (by rintro b hb (h | h | h) <;> first | omega | exact h)
                    clear kd
                    go_wp2_with (at_builtin; refine wpList_append_own _ rfl _ _ 29 rfl (w2.heap.size + 1) 2 i0' (.int .i64 0) 1 8 Try.underlying29 hi0 hy0 hy1 hy2 rfl (by decide) _ _ _ rfl od ⟨g, 0, none⟩ i cap' ((actVals a i).map (Value.int .i64)) rfl (by simp [actVals]) ?c1 ?c2 ?c3 ?c4 ?c5 ?_)
                    case c1 => exact own_cells vd
                    case c2 => simp [Value.oneCell']
                    case c3 => unfold maxLen; omega
                    case c4 => omega
                    case c5 => omega
                    intro v' w3 hown1 hg1 _
                    have hk3 : Kept (fun b => w2.heap.size + 1 ≤ b) wd w3 := Kept.grown hg1 (fun k hk => (od.lt k hk).1)
                    have HK3 := Lib.hid hk3
                    have HO3 := Lib.hid hown1
                    clear hown1 hg1 hk3 od vd
                    go_wp2
                    go_roundw
                    case rel => exact ⟨j + 1, by omega, by go_num, all ++ actVals a i, rd, H2.out.kept HK3.out (by omega) (by omega) (by omega) (by omega) (by omega), (HP3.out.kept KD.out (by rintro (h | h | h) <;> first | omega | exact h)).kept HK3.out (by omega), by rw [List.length_append, hl, List.map_append]; exact HO3.out, by rw [List.length_append]; omega, (BB1.out.trans (KD.out.to_below (by rintro b (h | h | h) <;> first | omega | exact h.elim) (by omega))).trans (HK3.out.to_below (by intro b h; omega) (by omega))⟩
                    case measure => simp [intOf]; omega
      · obtain ⟨y, hy, ey⟩ : ∃ y : Nat, y < I.k ∧ who % ((I.k : Int) + 1) = (y : Int) + 1 := by
          have h1 := Int.emod_nonneg who (b := (I.k : Int) + 1) (by omega)
          have h2 := Int.emod_lt_of_pos who (b := (I.k : Int) + 1) (by omega)
          exact ⟨(who % ((I.k : Int) + 1) - 1).toNat, by omega, by omega⟩
        obtain ⟨mo, hmo, em⟩ := many5 a
        have hz0 : w.heap.size ≤ wq.heap.size := hB.size
        have hz2 : w2.heap.size < wq.heap.size := HP.lt
        have hnum := HP.cell y hy
        have hle : rd y ≤ all.length := by
          obtain ⟨S, _, hi⟩ := HI
          exact hi.le y hy
        have HI := Lib.hid HI
        have HP := Lib.hid HP
        have HO := Lib.hid HO
        have HB := Lib.hid hB
        clear hB
        go_wp2_with fail
        simp only [ey, em]
        clear ey em h0
        have k0 : Kept (fun _ => False) wq (wq.alloc (.cells #[.int .u8 who, .int .i64 kd, .int .i64 a, .int .i64 b, .int .i64 c'] 34)) := Kept.alloc _ _
        have zA : (wq.alloc (.cells #[.int .u8 who, .int .i64 kd, .int .i64 a, .int .i64 b, .int .i64 c'] 34)).heap.size = wq.heap.size + 1 := by simp
        generalize wq.alloc (.cells #[.int .u8 who, .int .i64 kd, .int .i64 a, .int .i64 b, .int .i64 c'] 34) = wA at k0 zA ⊢
        have K0 := Lib.hid k0
        have HH1 := Lib.hid (HI.out.kept k0 id id id id id)
        have HP1 := Lib.hid (HP.out.kept k0 id)
        have HO1 := Lib.hid (own_kept HO.out k0 (fun _ _ h => h))
        clear hp0 hp1 hp2 hp3 hp4 k0 hnum
        by_cases hnone : rd y = all.length
        · refine (batch_none .none 0 wA I (walks_none I) all rd HH1.out trivial y mo hy hnone).mono ?_
          rintro e wb ⟨rfl, kb, hib, _⟩
          have KB := Lib.hid kb
          have HI2 := Lib.hid hib
          have HP2 := Lib.hid (HP1.out.kept kb id)
          have HO2 := Lib.hid (own_kept HO1.out kb (fun _ _ h => h))
          have hnum := HP2.out.cell y hy
          have hzb := kb.size
          clear kb hib
          have hown := HO2.out.2
          rcases hown with ⟨e1, e2⟩ | ⟨g, cap2, cur, e1, hg, _, hle2, _⟩
          · simp only [Value.slice.injEq] at e1
            obtain ⟨rfl, e3, rfl⟩ := e1
            obtain rfl : all = [] := List.length_eq_zero_iff.1 e3
            simp only [List.length_nil] at hnum hnone hle ⊢
            go_wp2
            go_roundw
            case rel => exact ⟨j + 1, by omega, by go_num, _, rd, HI2.out, HP2.out, HO2.out, by (try simp only [List.length_nil]); omega, (HB.out.trans ((K0.out.trans KB.out).to_below (fun _ h => h.elim) hz0))⟩
            case measure => simp [intOf]; omega
          · cases e1
            go_wp2
            go_roundw
            case rel => exact ⟨j + 1, by omega, by go_num, _, rd, HI2.out, HP2.out, HO2.out, by (try simp only [List.length_nil]); omega, (HB.out.trans ((K0.out.trans KB.out).to_below (fun _ h => h.elim) hz0))⟩
            case measure => simp [intOf]; omega
        · obtain ⟨g, rfl, hg⟩ := own_addr HO1.out (by omega)
          obtain ⟨m, hm⟩ : ∃ m : Nat, m = min (all.length - rd y) (max mo 1) := ⟨_, rfl⟩
          have hmle : rd y + m ≤ all.length := by omega
          have hmpos : 0 < m := by omega
          refine (batch_is .none 0 wA I (walks_none I) all rd HH1.out trivial y m mo hy hmpos (by omega) (by omega) (by omega) (by omega)).mono ?_
          rintro e wb ⟨v, rfl, ho, hib, kb, _⟩
          obtain ⟨A2, cap2, rfl⟩ := own_slice ho
          have hzb := kb.size
          have HI2 := Lib.hid hib
          have HP2 := Lib.hid (HP1.out.kept kb (by rintro (h | h | h) <;> first | omega | exact h))
          have HO2 := Lib.hid (own_kept HO1.out kb (by rintro b hb (h | h | h) <;> first | omega | exact h))
          have HV := Lib.hid ho
          have KB := Lib.hid kb
          have hnum := HP2.out.cell y hy
          have hcap : all.length ≤ cap1 := own_cap HO2.out
          have HM := Lib.hid hm
          clear kb hib ho hm
          go_wp2_with fail
          all_goals
            have hm := HM.out
            refine (same_numbers _ _ _ _ wb (IntsAt.of_own HV.out) (left_ints HO2.out (by omega) hmle) (by rw [List.length_take, List.length_drop]; unfold maxLen; omega)).mono ?_
            rintro e wc ⟨rfl, kc, hc⟩
            have kc : Kept (fun _ => False) wb wc := hc ▸ Kept.drewN _ _ _
            have HI3 := Lib.hid (HI2.out.kept kc id id id id id)
            have HP3 := Lib.hid (HP2.out.kept kc id)
            have HO3 := Lib.hid (own_kept HO2.out kc (fun _ _ h => h))
            have KC := Lib.hid kc
            have hnum := HP3.out.cell y hy
            have hfree := HP3.out.free y
            rw [decide_eq_true (rfl : ((all.drop (rd y)).take m) = (all.drop (rd y)).take m)]
            clear hc kc hm
            go_wp2
            go_roundw
            case rel =>
              have ks : Kept (fun b => b = w2.heap.size) wc (wc.setCell ⟨w2.heap.size, y, none⟩ (.int .i64 ((rd y : Int) + m))) := Kept.setCell (S := fun b => b = w2.heap.size) wc (p := ⟨w2.heap.size, y, none⟩) rfl _
              have en : (fun i => ((bump rd y m i : Nat) : Int)) = upd (fun i => (rd i : Int)) y ((rd y : Int) + m) := by
                funext i; simp only [bump, upd]; split <;> simp
              exact ⟨j + 1, by omega, by go_num, all, bump rd y m, HI3.out.kept ks (by omega) (by omega) (by omega) (by omega) (by omega), en ▸ HP3.out.set hy _, own_kept HO3.out ks (fun b hb h => by omega), by omega,
                (((HB.out.trans (K0.out.to_below (fun _ h => h.elim) hz0)).trans (KB.out.to_below (by rintro b (h | h | h) <;> first | omega | exact h.elim) (by omega))).trans (KC.out.to_below (fun _ h => h.elim) (by omega))).trans (ks.to_below (by intro b h; omega) (by have := KC.out.size; omega))⟩
            case measure => simp [intOf]; omega
    · obtain rfl : j = len := by omega
      have hz0 : w.heap.size ≤ wq.heap.size := hB.size
      have hz2 : w2.heap.size < wq.heap.size := HP.lt
      have HI := Lib.hid HI
      have HP := Lib.hid HP
      have HO := Lib.hid HO
      have HB := Lib.hid hB
      clear hB
      go_wp2_with fail
      refine (state_is wq I all rd HI.out).mono ?_
      rintro e wb ⟨v, rfl, ho, hb⟩
      have HV := Lib.hid ho
      have HB2 := Lib.hid (HB.out.trans (hb.mono hz0))
      have HP2 := Lib.hid (HP.out.kept (Kept.of_below (S := fun _ => False) hb) id)
      clear hb
      rcases ho.2 with ⟨rfl, hk⟩ | ⟨g, cap2, cur, rfl, _⟩
      · clear ho
        go_wp2_with fail
        go_loop [245] (fun q => ∃ x : Nat, x ≤ I.k ∧ q = .int .i64 x) (fun q => (I.k - intOf q).toNat)
        case atStart => exact ⟨0, Nat.zero_le _, rfl⟩
        case round =>
          obtain ⟨x, hx, rfl⟩ := hrel
          obtain rfl : x = I.k := by omega
          go_wp2
          go_ret
          exact ⟨rfl, HB2.out⟩
      · have hc2 : I.k ≤ cap2 := own_cap ho
        clear ho
        go_wp2_with fail
        go_loop [245] (fun q => ∃ x : Nat, x ≤ I.k ∧ q = .int .i64 x) (fun q => (I.k - intOf q).toNat)
        case atStart => exact ⟨0, Nat.zero_le _, rfl⟩
        case round =>
          obtain ⟨x, hx, rfl⟩ := hrel
          by_cases hxk : x < I.k
          · have h1 := HP2.out.cell x hxk
            have h2 : wb.cell? ⟨g, x, none⟩ = some (.int .i64 ((rd x : Int) - 1)) := list_cell HV.out hxk
            have hrx : rd x ≤ all.length := by
              obtain ⟨S, _, hi⟩ := HI.out
              exact hi.le x hxk
            go_wp2
            go_round
            case rel => exact ⟨x + 1, by omega, by go_num⟩
            case measure => simp [intOf]; omega
          · obtain rfl : x = I.k := by omega
            go_wp2
            go_ret
            exact ⟨rfl, HB2.out⟩
end Go.Proofs.Ytenhclfihedmiaa
