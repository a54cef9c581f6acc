/- DERIVED. A bus's list of topics (package bus: among, find), lone. -/
import Derived.Test.YtbmjmamodnapiaaGreatDoorBusC
namespace Go.Proofs.YtbmjmamodnapiaaGreatDoor
open Go.RowKit
set_option linter.unusedVariables false
/-- A list of topics, as a value: names and blocks. -/
def TopicsAt (w : World) (v : Value) (ls : List (Int × Nat)) : Prop := ∃ A c, v = .slice A ls.length c ∧ ls.length ≤ c ∧ c ≤ maxLen ∧ (A = none → c = 0) ∧
  ∀ i (h : i < ls.length), ∃ L, A = some ⟨L, 0, none⟩ ∧ w.cell? ⟨L, i, none⟩ = some (.pointer (some ⟨ls[i].2, 0, none⟩)) ∧ w.cell? ⟨ls[i].2, 0, none⟩ = some (.int .i64 ls[i].1)
theorem TopicsAt.keep {w w' : World} {v : Value} {ls : List (Int × Nat)} (h : TopicsAt w v ls) (k : Kept (fun _ => False) w w') : TopicsAt w' v ls := by
  obtain ⟨A, c, h1, h2, h3, h4, h5⟩ := h
  exact ⟨A, c, h1, h2, h3, h4, fun i hi => by
    obtain ⟨L, k1, k2, k3⟩ := h5 i hi
    exact ⟨L, k1, cell_keep k2 k id, cell_keep k3 k id⟩⟩
/-- The topic of a name. -/
def lookT (ls : List (Int × Nat)) (name : Int) : Option Addr := (ls.find? fun x => x.1 == name).map fun x => ⟨x.2, 0, none⟩
theorem among_ok (v : Value) (ls : List (Int × Nat)) (name : Int) (w : World) (h : TopicsAt w v ls) : Calls Tryz.prog 30 #[v, .int .i64 name] w fun e w' => e = .returned (.pointer (lookT ls name)) ∧ w = w' := by
  obtain ⟨A, c, rfl, hl, hc, -, hx⟩ := h
  unfold maxLen at hc
  have HX := Lib.hid hx
  clear hx
  go_enter Tryz.func30, Tryz.ntmps30
  go_wp2
  go_loopw [9] (fun q wr => ∃ j : Nat, j ≤ ls.length ∧ q = .int .i64 j ∧ wr = w ∧ lookT ls name = lookT (ls.drop j) name) (fun q _ => ls.length - (intOf q).toNat)
  case atStart => exact ⟨0, Nat.zero_le _, rfl, rfl, rfl⟩
  case round =>
    obtain ⟨j, hj, rfl, rfl, hr⟩ := hrel
    have HR := Lib.hid hr
    clear hr
    by_cases hlt : j < ls.length
    · obtain ⟨L, rfl, c1, c2⟩ := HX.out j hlt
      have hd : ls.drop j = ls[j] :: ls.drop (j + 1) := List.drop_eq_getElem_cons hlt
      generalize hT : ls[j] = T at c1 c2 hd
      obtain ⟨nm, tb⟩ := T
      dsimp only at c1 c2
      by_cases he : nm = name
      · subst he
        have hv : lookT ls nm = some ⟨tb, 0, none⟩ := by rw [HR.out, hd]; simp [lookT]
        have HV := Lib.hid hv
        clear hd HR hv
        go_wp2
        go_ret
        exact ⟨by rw [HV.out]; rfl, rfl⟩
      · have hb : (nm == name) = false := by simpa using he
        have hv : lookT ls name = lookT (ls.drop (j + 1)) name := by rw [HR.out, hd]; simp [lookT, hb]
        have HV := Lib.hid hv
        clear hd HR hv
        go_wp2
        go_roundw
        case rel => exact ⟨j + 1, by omega, by go_num, trivial, HV.out⟩
        case measure => simp [intOf]; omega
    · have ej : j = ls.length := by omega
      have hv : lookT ls name = none := by rw [HR.out, ej]; simp [lookT]
      have HV := Lib.hid hv
      subst ej
      clear HR hv
      go_wp2
      go_ret
      exact ⟨by rw [HV.out]; rfl, rfl⟩
/-- A bus: its topics' names and blocks. -/
def BusAt (w : World) (b : Nat) (ls : List (Int × Nat)) : Prop := ∃ p v, Blk w b 72 #[.pointer p] ∧ BoxV 145 p v w ∧ TopicsAt w v ls
theorem BusAt.keep {w w' : World} {b : Nat} {ls : List (Int × Nat)} (h : BusAt w b ls) (k : Kept (fun _ => False) w w') : BusAt w' b ls := by
  obtain ⟨p, v, h1, h2, h3⟩ := h
  exact ⟨p, v, h1.kept k id, h2.kept k, h3.keep k⟩
theorem find_ok (b : Nat) (ls : List (Int × Nat)) (name : Int) (w : World) (h : BusAt w b ls) : Calls Tryz.prog 33 #[.pointer (some ⟨b, 0, none⟩), .nilIface, .int .i64 name] w fun e w' => e = .returned (.pointer (lookT ls name)) ∧ Kept (fun _ => False) w w' := by
  obtain ⟨p, v, h1, h2, h3⟩ := h
  have c0 : w.cell? ⟨b, 0, none⟩ = some (.pointer p) := h1.cell 0
  have HX := Lib.hid (And.intro h2 h3)
  clear h1 h2 h3
  go_enter Tryz.func33, Tryz.ntmps33
  go_wp2_with fail
  refine (box_load_tp _ p _ c0 HX.out.1.held).mono ?_
  rintro e w1 ⟨rfl, k1⟩
  have HK := Lib.hid k1
  clear k1
  go_wp2_with fail
  refine (held_value_tp _ p v _ (HX.out.1.kept HK.out)).mono ?_
  rintro e w2 ⟨rfl, k2⟩
  have HK2 := Lib.hid (HK.out.trans k2)
  clear k2
  go_wp2_with fail
  refine (among_ok v ls name _ (HX.out.2.keep HK2.out)).mono ?_
  rintro e w3 ⟨rfl, rfl⟩
  go_wp2
  go_ret
  exact ⟨rfl, HK2.out⟩
end Go.Proofs.YtbmjmamodnapiaaGreatDoor
