/-
  The claim SoloPlainUpto: the given row's step over the walk in SoloPlain: the acts, opened; the arguments read as they did.
-/
import Derived.Test.YtenhclfihedmiaaRows
import Derived.WalkKit
import Derived.ProofKit
import Derived.OpenShut
import Derived.JoinedCond
import Derived.Carry
import Derived.Deep.Slices
import Derived.Test.YtenhclfihedmiaaSoloPlain
namespace Go.Proofs.Ytenhclfihedmiaa.soloPlain
open Go.ChangeShapes Go.WideShapes Go.ChangeAt Go.RowKit Go.Deep
set_option linter.unusedVariables false

theorem own : ownKnob Try.prog.godebug = none := by kernel_rfl
theorem laidOut : laidOutB Try.prog = true := by kernel_rfl

/-- The bound, on the number of acts. -/
theorem short {H : Type} {d1 d2 : DataW H} {es sp : List (DataW H)} (hk : Rows.uptoSmall H [d1, d2, .slice es sp] = true) : es.length ≤ 1048576 := by
  have h : Rows.uptoBulkAll [d1, d2, .slice es sp] ≤ 1048576 := of_decide_eq_true hk
  have hl : ∀ l : List (DataW H), l.length ≤ Rows.uptoBulkAll l := by
    intro l
    induction l with
    | nil => simp [Rows.uptoBulkAll]
    | cons x r ih =>
      have : 1 ≤ Rows.uptoBulk x := by
        cases x with
        | lit l => cases l <;> simp [Rows.uptoBulk]
        | nil => simp [Rows.uptoBulk]
        | ptr d => simp [Rows.uptoBulk]
        | slice elems spare => simp [Rows.uptoBulk]
        | agg parts => simp [Rows.uptoBulk]
        | iface t d => simp [Rows.uptoBulk]
        | map entries => simp [Rows.uptoBulk]
        | held h => simp [Rows.uptoBulk]
      simp only [Rows.uptoBulkAll, List.length_cons]; omega
  simp only [Rows.uptoBulkAll, Rows.uptoBulk] at h
  have := hl es
  omega

theorem cell_lt {w : World} {p : Addr} {v : Value} (h : w.cell? p = some v) : p.block < w.heap.size := by
  rcases Nat.lt_or_ge p.block w.heap.size with hlt | hge
  · exact hlt
  · simp [World.cell?, Array.getElem?_eq_none hge] at h

theorem actCells : Try.prog.cellsOf 34 = 5 := by kernel_rfl
theorem opCells : Try.prog.cellsOf 32 = 4 := by kernel_rfl
theorem u8Cells : Try.prog.cellsOf 5 = 1 := by kernel_rfl
theorem intCells : Try.prog.cellsOf 3 = 1 := by kernel_rfl
theorem longCells : Try.prog.cellsOf 2 = 1 := by kernel_rfl
section
variable {H : Type} {enc : TypeId × Value → H}
/-- THE ACTS, OPENED. -/
theorem open_acts {W : World} {sp : Nat → Bool} {fuel : Nat} {cs : List Value} {x : DataW H × List MemPlace} (h : DataW.trod enc Try.prog W 0 sp true fuel 22 cs = some x) :
    ∃ (A : Option Addr) (len cap : Nat), cs = [.slice A len cap] ∧ ActsAt W A len ∧ (x.1 = .nil ∧ len = 0 ∨ ∃ es r, x.1 = .slice es r ∧ es.length = len) := by
  rcases open_slice Try.underlying22 h with ⟨rfl, rfl⟩ | ⟨a, len, cap, m, n, D, Pl, rfl, hb, hl, hm, hmm, rfl, hx⟩
  · exact ⟨none, 0, 0, rfl, fun j hj => by omega, .inl ⟨rfl, rfl⟩⟩
  have hlm : len ≤ m := by rw [hmm]; split <;> omega
  refine ⟨some a, len, cap, rfl, fun j hj => ?_, .inr ⟨_, _, rfl, by simp⟩⟩
  obtain ⟨cs', h1, h2⟩ := hx j (by omega)
  rw [actCells] at h1
  obtain ⟨_, hlen, hcell⟩ := World.cells?_some h1
  obtain ⟨y0, y1, k, hxy, _, u0, u1⟩ := trod_struct2 Try.underlying34 h2
  match cs', hlen with
  | [v0, v1, v2, v3, v4], _ =>
    simp only [u8Cells, opCells, List.drop, List.take] at u0 u1
    obtain ⟨who, e0, _, hw⟩ := DataW.trod_int Try.underlying5 u0
    obtain ⟨xs, k', _, _, _, hlx, hf⟩ := DataW.trod_struct Try.underlying32 u1
    match xs, hlx with
    | [x0, x1, x2, x3], _ =>
      have f0 : DataW.trod enc Try.prog W 0 sp true k' 3 [v1] = some x0 := by
        have h := hf 0 _ rfl
        change DataW.trod enc Try.prog W 0 sp true k' 3 (List.take (Try.prog.cellsOf 3) (List.drop 0 [v1, v2, v3, v4])) = some x0 at h
        rw [intCells] at h
        exact h
      have f1 : DataW.trod enc Try.prog W 0 sp true k' 2 [v2] = some x1 := by
        have h := hf 1 _ rfl
        change DataW.trod enc Try.prog W 0 sp true k' 2 (List.take (Try.prog.cellsOf 2) (List.drop 1 [v1, v2, v3, v4])) = some x1 at h
        rw [longCells] at h
        exact h
      have f2 : DataW.trod enc Try.prog W 0 sp true k' 2 [v3] = some x2 := by
        have h := hf 2 _ rfl
        change DataW.trod enc Try.prog W 0 sp true k' 2 (List.take (Try.prog.cellsOf 2) (List.drop 2 [v1, v2, v3, v4])) = some x2 at h
        rw [longCells] at h
        exact h
      have f3 : DataW.trod enc Try.prog W 0 sp true k' 2 [v4] = some x3 := by
        have h := hf 3 _ rfl
        change DataW.trod enc Try.prog W 0 sp true k' 2 (List.take (Try.prog.cellsOf 2) (List.drop 3 [v1, v2, v3, v4])) = some x3 at h
        rw [longCells] at h
        exact h
      obtain ⟨n0, g0, _, _⟩ := DataW.trod_int Try.underlying3 f0
      obtain ⟨n1, g1, _, _⟩ := DataW.trod_int Try.underlying2 f1
      obtain ⟨n2, g2, _, _⟩ := DataW.trod_int Try.underlying2 f2
      obtain ⟨n3, g3, _, _⟩ := DataW.trod_int Try.underlying2 f3
      simp only [List.cons.injEq, and_true] at e0 g0 g1 g2 g3
      subst e0; subst g0; subst g1; subst g2; subst g3
      have c0 := hcell 0 (by omega)
      have c1 := hcell 1 (by omega)
      have c2 := hcell 2 (by omega)
      have c3 := hcell 3 (by omega)
      have c4 := hcell 4 (by omega)
      have hw' : 0 ≤ who ∧ who < 256 := by
        simp [Lit.wf, IntKind.min, IntKind.max, IntKind.signed, IntKind.bits] at hw; omega
      refine ⟨a, who, n0, n1, n2, n3, rfl, cell_lt (p := a.add (j * 5)) c0, hw'.1, hw'.2, c0, ?_, ?_, ?_, ?_⟩
      · simpa [Addr.add] using c1
      · simpa [Addr.add] using c2
      · simpa [Addr.add] using c3
      · simpa [Addr.add] using c4

theorem contract (W : World) (base : Nat) (args : Array Value) (ds gs : List (DataW H)) (before : List MemPlace)
    (hval : ∀ (j : Nat) t v, Try.f3.params[j]? = some t → args[j]? = some v → Value.okWide Try.prog W .any base t v)
    (hW : DataW.Whole enc Try.prog Try.f3.params.toList Rows.soloPlainSpec.vars false W args.toList ds gs before) (hk : Rows.uptoSmall H (ds ++ gs) = true) :
    Calls Try.prog 3 args W fun e W' => ∃ v, e = .returned v ∧ Rows.soloPlainSpec.post enc Try.prog Try.f3 false true false false W args v W' := by
  have hW' := hW
  obtain ⟨p, q, hA0, hV, rfl, hfz, hnd⟩ := hW
  have hA : DataW.TrodAll enc Try.prog W 0 (fun _ => true) true Try.f3.params.toList args.toList ds p := hA0
  rw [Try.params3] at hA hval
  obtain ⟨v0, vs0, d0, ds0, p0, q0, hargs, rfl, rfl, h0, r0⟩ := trodAll_cons hA
  obtain ⟨v1, vs1, d1, ds1, p1, q1, rfl, rfl, rfl, h1, r1⟩ := trodAll_cons r0
  obtain ⟨v2, vs2, d2, ds2, p2, q2, rfl, rfl, rfl, h2, r2⟩ := trodAll_cons r1
  obtain ⟨rfl, rfl, rfl⟩ := trodAll_nil r2
  obtain rfl : args = #[v0, v1, v2] := by cases args; simp_all
  obtain ⟨rfl, rfl⟩ := trodVars_none hV
  obtain ⟨a0, rfl, rfl, rfl, w0⟩ := open_int Try.underlying5 (hval 0 5 v0 rfl rfl) h0
  obtain ⟨a1, rfl, rfl, rfl, w1⟩ := open_int Try.underlying5 (hval 1 5 v1 rfl rfl) h1
  obtain ⟨B, n, cap, rfl⟩ := okWide_slice Try.underlying22 (hval 2 22 v2 rfl rfl)
  have h2k := h2
  have hlt : ∀ x ∈ p2, x.block < W.heap.size := fun x hx => by simpa using hW'.lt x (by simpa using hx)
  obtain ⟨fuel, h2⟩ := h2
  obtain ⟨A, len, cap', hcs, hacts, hd⟩ := open_acts h2
  simp only [Value.cells, List.cons.injEq, and_true, Value.slice.injEq] at hcs
  obtain ⟨rfl, rfl, rfl⟩ := hcs
  simp only [List.append_nil, List.nil_append] at hW' hk
  have hlen : n ≤ 1048576 := by
    rcases hd with ⟨_, e⟩ | ⟨es, r, e, el⟩
    · omega
    · dsimp only at e
      subst e
      rw [← el]; exact short hk
  have b0 : 0 ≤ a0 ∧ a0 < 256 := by
    have h := w0
    simp [Lit.wf, IntKind.min, IntKind.max, IntKind.signed, IntKind.bits] at h; omega
  have b1 : 0 ≤ a1 ∧ a1 < 256 := by
    have h := w1
    simp [Lit.wf, IntKind.min, IntKind.max, IntKind.signed, IntKind.bits] at h; omega
  obtain ⟨s, rfl⟩ := Int.eq_ofNat_of_zero_le b0.1
  obtain ⟨r, rfl⟩ := Int.eq_ofNat_of_zero_le b1.1
  refine (solo_plain s r B n cap W (by omega) (by omega) hlen hacts).mono fun e W' ⟨he, hb⟩ => ?_
  subst he
  exact ⟨_, rfl, _, _, _, [], _, [], hW', trodAll_cons_mk (shut_bool Try.underlying4 _) trodAll_mk0, trodAll_cons_mk (shut_int Try.underlying5 w0) (trodAll_cons_mk (shut_int Try.underlying5 w1)
    (trodAll_cons_mk (Below.trod laidOut (by kernel_rfl) (of_decide_eq_true (by kernel_rfl)) h2k hb hlt) trodAll_mk0)), rfl, hb.frame _, fun h => by cases h⟩
end

set_option maxRecDepth 100000 in
theorem lifted (os : Os) (started : os.Started) (H : Type) (enc : TypeId × Value → H) (F : Stop.Interp) :
    ReturnsInHanded {} Try.checked os 3 .any ((Rows.OpenSpec.upto Rows.soloPlainSpec).pre6 enc Try.prog Try.f3 Rows.soloPlainUptoRow.domain false) (((Rows.OpenSpec.upto Rows.soloPlainSpec).at F).post enc Try.prog Try.f3 false true false false) := by
  refine returnsInHanded_of_cond (C := Try.checked) (s := Rows.OpenSpec.upto Rows.soloPlainSpec) (k := Rows.uptoSmall) rfl own started (by kernel_rfl) Try.func3
    (OpenSpec.witness (enc := enc) (C := Try.checked) (s := Rows.OpenSpec.upto Rows.soloPlainSpec) (k := Rows.uptoSmall) rfl false ⟨#[], #[.int .u8 0, .int .u8 0, .slice none 0 0], []⟩ 8 (by kernel_rfl) (by kernel_rfl) (by kernel_rfl)
      (x := ([.lit (.int .u8 0), .lit (.int .u8 0), .nil], [], [])) (by kernel_rfl) rfl (by kernel_rfl)) ?_
  intro W base args ds gs before hval hW _ hk _
  exact contract W base args ds gs before hval hW hk

/-- ████ THE STATEMENT ████ -/
theorem proved : Rows.SoloPlainUptoSaid :=
  OpenClaim.holds_of_cond 3 Try.f3 rfl rfl rfl rfl rfl rfl rfl ⟨rfl, rfl, rfl, rfl, rfl⟩ rfl rfl rfl rfl rfl (by kernel_rfl) Try.func3 (by kernel_rfl)
    (of_decide_eq_true (by kernel_rfl)) (by unfold Func.isWrapper; first | (rw [if_pos (by decide +kernel)]; kernel_rfl) | (rw [if_neg (by decide +kernel)]; exact ⟨rfl, rfl⟩))
    (fun os started H enc _ F => lifted os started H enc F)
end Go.Proofs.Ytenhclfihedmiaa.soloPlain
