/- DERIVED. Numbers out of items (package bus: Pack; carillonref19: the same), lone; what is packed is unpacked. -/
import Derived.Test.YtbmjmamodnapiaaGreatDoorBusS
import Derived.Laws.BitsLemmas
namespace Go.Proofs.YtbmjmamodnapiaaGreatDoor
open Go.RowKit
set_option linter.unusedVariables false
/-- Can an item be packed? -/
def okP (W N X : Int) : Bool := decide (0 ≤ W) && decide (W ≤ 63) && decide (0 ≤ N) && decide (N < 16777216) && decide (-2147483648 ≤ X) && decide (X < 2147483648)
def pkV (W N X : Int) : Int := if okP W N X then W * 72057594037927936 + N * 4294967296 + X % 4294967296 else 0
def pkE (W N X : Int) : Int := if okP W N X then 0 else 1
theorem okP_iff (W N X : Int) : okP W N X = true ↔ 0 ≤ W ∧ W ≤ 63 ∧ 0 ≤ N ∧ N < 16777216 ∧ -2147483648 ≤ X ∧ X < 2147483648 := by
  simp only [okP, Bool.and_eq_true, decide_eq_true_eq]
  omega
theorem wraps_i64 (n : Int) (h₀ : 0 ≤ n) (h₁ : n < 2 ^ 63) : IntKind.i64.wrap n = n := by rw [IntKind.wrap_i64]; omega
theorem or_items {W N x : Int} (h0 : 0 ≤ W) (h1 : W ≤ 63) (h2 : 0 ≤ N) (h3 : N < 16777216) (h4 : 0 ≤ x) (h5 : x < 4294967296) :
    bits .or .i64 (bits .or .i64 (W * 72057594037927936) (N * 4294967296)) x = W * 72057594037927936 + N * 4294967296 + x := by
  rw [bits_join .i64 63 (by decide) wraps_i64 56 (W * 72057594037927936) (N * 4294967296) (by omega) (by omega) (by omega) (by omega) (by omega) (by omega)]
  rw [bits_join .i64 63 (by decide) wraps_i64 32 _ x (by omega) (by omega) (by omega) (by omega) (by omega) (by omega)]
theorem unpack_pack {W N X : Int} (h : okP W N X = true) : itW (pkV W N X) = W ∧ itN (pkV W N X) = N ∧ itX (pkV W N X) = X ∧ unE (pkV W N X) = 0 ∧ 0 ≤ pkV W N X := by
  have h' := (okP_iff W N X).1 h
  have e : pkV W N X = W * 72057594037927936 + N * 4294967296 + X % 4294967296 := by simp [pkV, h]
  rw [e]
  have ho : okI (W * 72057594037927936 + N * 4294967296 + X % 4294967296) = true := by
    simp only [okI, Bool.and_eq_true, decide_eq_true_eq]; omega
  simp only [itW, itN, itX, unE, ho, if_true]
  have hb : bits BinOp.and IntKind.i64 ((W * 72057594037927936 + N * 4294967296 + X % 4294967296) / 4294967296) 16777215 = ((W * 72057594037927936 + N * 4294967296 + X % 4294967296) / 4294967296) % 16777216 :=
    bits_mask .i64 63 (by decide) wraps_i64 24 (by decide) _ (by omega) (by omega)
  refine ⟨by omega, by rw [hb]; omega, ?_, trivial, by omega⟩
  have e1 : (W * 72057594037927936 + N * 4294967296 + X % 4294967296) % 4294967296 = X % 4294967296 := by omega
  rw [e1]
  simp only [wrap64, wrap32]
  omega
theorem pack_unpack {v : Int} (h : okI v = true) : okP (itW v) (itN v) (itX v) = true ∧ pkV (itW v) (itN v) (itX v) = v := by
  have h' : 0 ≤ v ∧ v < 4611686018427387904 := by simpa [okI] using h
  have hb : bits BinOp.and IntKind.i64 (v / 4294967296) 16777215 = (v / 4294967296) % 16777216 :=
    bits_mask .i64 63 (by decide) wraps_i64 24 (by decide) _ (by omega) (by omega)
  have e1 : itW v = v / 72057594037927936 := by simp [itW, h]
  have e2 : itN v = (v / 4294967296) % 16777216 := by simp [itN, h, hb]
  have e3 : itX v = (v % 4294967296 + 2147483648) % 4294967296 - 2147483648 := by
    simp only [itX, h, if_true, wrap64, wrap32]; omega
  have ho : okP (itW v) (itN v) (itX v) = true := by
    rw [okP_iff, e1, e2, e3]; omega
  refine ⟨ho, ?_⟩
  simp only [pkV, ho, if_true]
  rw [e1, e2, e3]; omega
theorem un_refused {v : Int} (h : okI v = false) : unE v = 1 := by simp [unE, h]
set_option maxHeartbeats 4000000 in
set_option maxRecDepth 100000 in
theorem pack_bus (W N X : Int) (w : World) (hX : -9223372036854775808 ≤ X ∧ X ≤ 9223372036854775807) : Calls Tryz.prog 10 #[.agg #[.int .i64 W, .int .i64 N, .int .i64 X]] w fun e w' => e = .returned (.tuple #[.int .i64 (pkV W N X), .int .i64 (pkE W N X)]) ∧ Kept (fun _ => False) w w' := by
  cases h : okP W N X with
  | true =>
    have h' := (okP_iff W N X).1 h
    have eV : pkV W N X = W * 72057594037927936 + N * 4294967296 + X % 4294967296 := by simp [pkV, h]
    have eE : pkE W N X = 0 := by simp [pkE, h]
    rw [eV, eE]
    clear eV eE h
    obtain ⟨h0, h1, h2, h3, h4, h5⟩ := h'
    go_enter Tryz.func10, Tryz.ntmps10
    go_wp2
    go_ret2
    first
      | exact ⟨rfl, Kept.alloc _ _⟩
      | (refine ⟨?_, Kept.alloc _ _⟩; show Ending.returned (.tuple #[.int .i64 (bits .or .i64 (bits .or .i64 (W * 72057594037927936) (N * 4294967296)) (X % 4294967296)), .int .i64 0]) = _; rw [or_items h0 h1 h2 h3 (by omega) (by omega)])
  | false =>
    have eV : pkV W N X = 0 := by simp [pkV, h]
    have eE : pkE W N X = 1 := by simp [pkE, h]
    rw [eV, eE]
    have hb : (decide (W < 0) || decide (63 < W) || decide (N < 0) || decide (16777216 ≤ N) || decide (X < -2147483648) || decide (2147483648 ≤ X)) = true := by
      have : ¬ (okP W N X = true) := by simp [h]
      rw [okP_iff] at this
      simp only [Bool.or_eq_true, decide_eq_true_eq]
      omega
    clear eV eE h hX
    go_enter Tryz.func10, Tryz.ntmps10
    go_wp2
    all_goals (go_ret2; exact ⟨rfl, Kept.alloc _ _⟩)
set_option maxHeartbeats 4000000 in
set_option maxRecDepth 100000 in
theorem pack_ref (W N X : Int) (w : World) (hX : -9223372036854775808 ≤ X ∧ X ≤ 9223372036854775807) : Calls Tryz.prog 11 #[.agg #[.int .i64 W, .int .i64 N, .int .i64 X]] w fun e w' => e = .returned (.tuple #[.int .i64 (pkV W N X), .int .i64 (pkE W N X)]) ∧ Kept (fun _ => False) w w' := by
  cases h : okP W N X with
  | true =>
    have h' := (okP_iff W N X).1 h
    have eV : pkV W N X = W * 72057594037927936 + N * 4294967296 + X % 4294967296 := by simp [pkV, h]
    have eE : pkE W N X = 0 := by simp [pkE, h]
    rw [eV, eE]
    clear eV eE h
    obtain ⟨h0, h1, h2, h3, h4, h5⟩ := h'
    go_enter Tryz.func11, Tryz.ntmps11
    go_wp2
    go_ret2
    first
      | exact ⟨rfl, Kept.alloc _ _⟩
      | (refine ⟨?_, Kept.alloc _ _⟩; show Ending.returned (.tuple #[.int .i64 (bits .or .i64 (bits .or .i64 (W * 72057594037927936) (N * 4294967296)) (X % 4294967296)), .int .i64 0]) = _; rw [or_items h0 h1 h2 h3 (by omega) (by omega)])
  | false =>
    have eV : pkV W N X = 0 := by simp [pkV, h]
    have eE : pkE W N X = 1 := by simp [pkE, h]
    rw [eV, eE]
    have hb : (decide (W < 0) || decide (63 < W) || decide (N < 0) || decide (16777216 ≤ N) || decide (X < -2147483648) || decide (2147483648 ≤ X)) = true := by
      have : ¬ (okP W N X = true) := by simp [h]
      rw [okP_iff] at this
      simp only [Bool.or_eq_true, decide_eq_true_eq]
      omega
    clear eV eE h hX
    go_enter Tryz.func11, Tryz.ntmps11
    go_wp2
    all_goals (go_ret2; exact ⟨rfl, Kept.alloc _ _⟩)
end Go.Proofs.YtbmjmamodnapiaaGreatDoor
