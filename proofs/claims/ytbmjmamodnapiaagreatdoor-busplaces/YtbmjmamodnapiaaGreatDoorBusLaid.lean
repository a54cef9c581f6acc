/- DERIVED. The table that the rows of this claim lean on, laid: what the condition gives the walks; a world that meets it. -/
import Derived.Test.YtbmjmamodnapiaaGreatDoorBusF
import Derived.ProofKit
import Derived.LaidMore
import Derived.OpenShut
import Derived.Stop.Joined
namespace Go.Proofs.YtbmjmamodnapiaaGreatDoor
open Go.RowKit
set_option linter.unusedVariables false
theorem tz_global : Tryz.prog.globalNamed "math/bits.deBruijn64tab" = some 0 := by kernel_rfl
theorem tz_type : (Tryz.prog.globals[0]?).map (·.type) = some 191 := by kernel_rfl
theorem tz_cells : Tryz.prog.cellsOf 5 = 1 := by kernel_rfl
abbrev laidT : List (String × DataW Unit) := [("math/bits.deBruijn64tab", Rows.laid_math_bits_deBruijn64tab)]
theorem tz_list {H : Type} : (Rows.laid_math_bits_deBruijn64tab : DataW H) = .agg (tzTab.map fun x => .lit (.int .u8 x)) := by rfl
theorem door_met (os : Os) (args : Array Value) : laidMetH Tryz.prog laidT ((World.doorLaid Tryz.prog 400 os).forCall (fun _ _ => 0) ⟨#[], args, []⟩).memory :=
  laidMetH_of_parts3 (fuel := 8) (laidMet_of_run' 8 (by kernel_rfl) (by kernel_rfl)) (by kernel_rfl) (by kernel_rfl)
theorem tab_of_laid {W : World} (h : laidMetH Tryz.prog laidT W) : TabAt W := by
  rw [MakeChecks.laidMetH_plain _ _ _ (by kernel_rfl)] at h
  obtain ⟨ps, ⟨g0, t0, cs0, f0, p0, q0, hg0, ht0, hv0, hd0, _, _⟩, _, _⟩ := h
  obtain rfl := Option.some.inj (tz_global.symm.trans hg0)
  obtain rfl := Option.some.inj (tz_type.symm.trans ht0)
  obtain ⟨xs, m1, rfl, hx1, hlen, hn, hel⟩ := DataW.trod_array Tryz.underlying191 hd0
  rw [tz_list] at hx1
  simp only [Prod.mk.injEq, DataW.agg.injEq] at hx1
  intro i hi
  have h0 := hel i hi
  obtain ⟨x, hx⟩ : ∃ x, xs[i]? = some x := ⟨xs[i], List.getElem?_eq_getElem (by omega)⟩
  rw [hx] at h0
  obtain ⟨k, e1, e2, -⟩ := DataW.trod_int Tryz.underlying5 h0
  rw [World.var?_cell hg0 hv0 i]
  have hk : (tzTab.map fun x => (DataW.lit (.int .u8 x) : DataW Unit))[i]? = some x.1 := by rw [hx1.1, List.getElem?_map, hx]; rfl
  rw [e2, List.getElem?_map] at hk
  have hL : i < tzTab.length := hi
  rw [List.getElem?_eq_getElem hL] at hk
  simp only [Option.map_some, Option.some.injEq, DataW.lit.injEq, Lit.int.injEq, true_and] at hk
  rw [tz_cells, Nat.mul_one] at e1
  have : cs0[i]? = some (.int .u8 k) := by
    have e3 : cs0.toList[i]? = some (.int .u8 k) := by
      have := congrArg (fun l => l[0]?) e1
      simpa [List.getElem?_take, List.getElem?_drop] using this
    simpa using e3
  rw [this, ← hk, List.getD_eq_getElem?_getD, List.getElem?_eq_getElem hL]
  rfl
end Go.Proofs.YtbmjmamodnapiaaGreatDoor
