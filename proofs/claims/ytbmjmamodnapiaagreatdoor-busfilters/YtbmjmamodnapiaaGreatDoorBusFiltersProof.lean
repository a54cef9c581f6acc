/-
  Proved: for every filter, sequence and number, carillonlaw19.BusFilters returns true, and the input reads behind the call as it read before. Condition: none but the tied one of the card (the table of package math/bits reads as its initialiser lays it).
-/
import Derived.Test.YtbmjmamodnapiaaGreatDoorBusFilters
import Derived.Test.YtbmjmamodnapiaaGreatDoorBusLaid
import Derived.Test.YtbmjmamodnapiaaGreatDoorCards
import Derived.Test.YtbmjmamodnapiaaGreatDoorTie
import Derived.SevenTiedAt
import Derived.Lib.SmallJoins
namespace Go.Proofs.YtbmjmamodnapiaaGreatDoor.busFilters
open Go.ChangeShapes Go.WideShapes Go.ChangeAt Go.RowKit
set_option linter.unusedVariables false

theorem own : ownKnob Tryz.prog.godebug = none := by kernel_rfl
theorem cells24 : Tryz.prog.cellsOf 24 = 3 := by kernel_rfl

set_option maxRecDepth 100000 in
theorem lifted (os : Os) (started : os.Started) (H : Type) (enc : TypeId × Value → H) :
    ReturnsInHanded {} Tryz.checked os 3 .any (fun w args => (Rows.busFiltersSpec.pre enc Tryz.prog Tryz.f3 [] false w args ∧ laidMetH Tryz.prog laidT w) ∧ sizedMet enc Tryz.prog Tryz.f3 (OpenSpec.ofChange Rows.busFiltersSpec) false w args)
      (Rows.busFiltersSpec.post enc Tryz.prog Tryz.f3 false true false false) := by
  refine returnsInHanded_of_change_and (C := Tryz.checked) (X := fun w _ => laidMetH Tryz.prog laidT w) (fun _ _ _ hh h => h.of_heap hh) own started (by kernel_rfl) Tryz.func3
    (ChangeSpec.witness_shaped (enc := enc) (C := Tryz.checked) (os := os) (X := fun w _ => laidMetH Tryz.prog laidT w) false (World.doorLaid Tryz.prog 400 os) #[.agg #[.int .i64 0, .int .i64 0, .int .i64 0], .int .i64 0, .int .i64 0] 8 rfl (World.shaped_of_RefB (by kernel_rfl) (by kernel_rfl)) (by kernel_rfl) (by kernel_rfl) (by kernel_rfl) (door_met os _)) ?_
  intro W base args ds gs before hval0 hW _ _ hL _
  have hval : ∀ (j : Nat) t v, Tryz.f3.params[j]? = some t → args[j]? = some v → Value.okWide Tryz.prog W .any base t v := hval0
  have hW' := hW
  obtain ⟨p, q, hA0, hV, rfl, hfz, hnd⟩ := hW
  have hA : DataW.TrodAll enc Tryz.prog W 0 (fun _ => true) true Tryz.f3.params.toList args.toList ds p := hA0
  rw [Tryz.params3] at hA hval
  obtain ⟨v0, vs0, d0, ds0, p0, q0, hargs, rfl, rfl, h0, r0⟩ := trodAll_cons hA
  obtain ⟨v1, vs1, d1, ds1, p1, q1, rfl, rfl, rfl, h1, r1⟩ := trodAll_cons r0
  obtain ⟨v2, vs2, d2, ds2, p2, q2, rfl, rfl, rfl, h2, r2⟩ := trodAll_cons r1
  obtain ⟨rfl, rfl, rfl⟩ := trodAll_nil r2
  obtain rfl : args = #[v0, v1, v2] := by cases args; simp_all
  obtain ⟨rfl, rfl⟩ := trodVars_none hV
  obtain ⟨c0, c1, c2, y0, y1, y2, m, rfl, rfl, rfl, hy0, hy1, hy2⟩ := Joins.open_agg3 Tryz.underlying24 (by kernel_rfl) cells24 (hval 0 24 v0 rfl rfl) h0
  obtain ⟨kd, hc0, rfl, wk⟩ := DataW.trod_int Tryz.underlying22 hy0
  obtain ⟨a, hc1, rfl, wa⟩ := DataW.trod_int Tryz.underlying2 hy1
  obtain ⟨b, hc2, rfl, wb⟩ := DataW.trod_int Tryz.underlying2 hy2
  simp only [List.cons.injEq, and_true] at hc0 hc1 hc2
  subst hc0 hc1 hc2
  obtain ⟨s, rfl, rfl, rfl, ws⟩ := open_int Tryz.underlying2 (hval 1 2 v1 rfl rfl) h1
  obtain ⟨v, rfl, rfl, rfl, wv⟩ := open_int Tryz.underlying2 (hval 2 2 v2 rfl rfl) h2
  clear hA0 hval0
  simp only [List.append_nil] at hW'
  have bs := bounds_i64 ws
  have ba := bounds_i64 wa
  refine (filters_true kd a b s v W (tab_of_laid hL) bs.1 bs.2 ba.2).mono fun e W' ⟨he, hk⟩ => ?_
  subst he
  have hb : Below W.heap.size W W' := hk.to_below (fun _ z => z.elim) (Nat.le_refl _)
  have hs : ∀ (bb : Nat) (sp : Nat → Bool) (hd : Bool), DataW.Trod enc Tryz.prog W' bb sp hd 24 (.agg #[.int .i64 kd, .int .i64 a, .int .i64 b]) (.agg [.lit (.int .i64 kd), .lit (.int .i64 a), .lit (.int .i64 b)]) [] := fun bb sp hd => by
    simpa using Joins.shut_agg3 (enc := enc) (w := W') (base := bb) (spare := sp) (held := hd) (v0 := .int .i64 kd) (v1 := .int .i64 a) (v2 := .int .i64 b) (y0 := (.lit (.int .i64 kd), [])) (y1 := (.lit (.int .i64 a), [])) (y2 := (.lit (.int .i64 b), [])) Tryz.underlying24 (by kernel_rfl) cells24 ⟨1, by simp [DataW.trod, Tryz.underlying22, wk]⟩ ⟨1, by simp [DataW.trod, Tryz.underlying2, wa]⟩ ⟨1, by simp [DataW.trod, Tryz.underlying2, wb]⟩
  exact ⟨_, rfl, _, _, _, [], [], [], hW', trodAll_cons_mk (shut_bool Tryz.underlying4 _) trodAll_mk0,
    trodAll_cons_mk (hs _ _ _) (trodAll_cons_mk (shut_int Tryz.underlying2 ws) (trodAll_cons_mk (shut_int Tryz.underlying2 wv) trodAll_mk0)), rfl,
    hb.frame _, fun h => by cases h⟩

theorem over : Rows.BusFiltersSaid :=
  OpenClaim.holds_of_wide 3 Tryz.f3 rfl rfl rfl rfl rfl rfl rfl ⟨rfl, rfl, rfl, rfl, rfl⟩ rfl rfl rfl rfl rfl (by kernel_rfl) Tryz.func3 (by kernel_rfl)
    (of_decide_eq_true (by kernel_rfl)) (by unfold Func.isWrapper; first | (rw [if_pos (by decide +kernel)]; kernel_rfl) | (rw [if_neg (by decide +kernel)]; exact ⟨rfl, rfl⟩))
    (fun os started H enc _ => lifted os started H enc)

/-- ████ THE STATEMENT: THE TIED CARD ████ -/
theorem proved : Rows.BusFiltersCardSaid :=
  Claim7.holds_tied_plain_at .later [] [.data] true (true, "162ca0962a31c8e798551d6224cd38b066c4349663bafa29bae1df66a11253bc") false
    over (fun _ h => by cases h) (by kernel_rfl) (fun _ h => by cases h) busFilters_row_tie rfl ⟨rfl, rfl⟩ (by kernel_rfl) rfl
    (fun f fn hf hfn => by
      obtain rfl : f = 3 := Option.some.inj ((show Tryz.prog.funcNamed "carillon/carillonlaw19.BusFilters" = some 3 by kernel_rfl).symm.trans hf) |>.symm
      obtain rfl : fn = Tryz.f3 := (Option.some.inj (Tryz.func3.symm.trans hfn)).symm
      exact ⟨by kernel_rfl, fun j t ht => by
        rw [Tryz.params3] at ht
        have hm : t ∈ [24, 2, 2] := by simpa using Array.mem_of_getElem? ht
        have hall : ([24, 2, 2].all fun u => !Tryz.prog.wantsStandIn u) = true := by kernel_rfl
        exact (show Tryz.prog.wantsStandIn t = false by simpa using List.all_eq_true.1 hall t hm)⟩)
    (by kernel_rfl)
end Go.Proofs.YtbmjmamodnapiaaGreatDoor.busFilters
