/- DERIVED. Who holds the writers back (package gate: List, Get, Least), lone. -/
import Derived.Test.YtbmjmamodnapiaaGreatDoorBusI
namespace Go.Proofs.YtbmjmamodnapiaaGreatDoor
open Go.RowKit
set_option linter.unusedVariables false
theorem gate_method (n : Nat) (a : Addr) (w : World) : (method (n + 1) 86 (.pointer (some a)) "Least").run Tryz.prog w = .ok (131, .pointer (some a)) w := by kernel_rfl
theorem gate_list (G : Nat) (gp : Option Addr) (mv : Value) (ml : List Int) (f : Nat → Int) (w : World) (hg : GateAt w G gp f) (hb : BoxV 214 gp mv w) (hm : MembersAt w mv ml) (hml : ml.length ≤ 64) :
    Calls Tryz.prog 133 #[.pointer (some ⟨G, 0, none⟩), .nilIface] w fun e w' => ∃ v', e = .returned v' ∧ Kept (fun _ => False) w w' ∧ w'.ownsRow w.heap.size 3 1 v' ml.length (ml.map (Value.int .i64)) := by
  have HG := Lib.hid hg
  have HM := Lib.hid (And.intro hb hm)
  clear hg hb hm
  go_enter Tryz.func133, Tryz.ntmps133
  go_wp2_with fail
  refine (box_load_mb ⟨G, 0, none⟩ gp _ HG.out.hd HM.out.1.held).mono ?_
  rintro e w1 ⟨rfl, k1⟩
  have H1 := Lib.hid k1
  clear k1
  go_wp2_with fail
  refine (held_value_mb (some ⟨G, 0, none⟩) gp mv _ (HM.out.1.kept H1.out)).mono ?_
  rintro e w2 ⟨rfl, k2⟩
  have H2 := Lib.hid (H1.out.trans k2)
  clear k2
  go_wp2_with fail
  refine (clone_ok mv ml _ (HM.out.2.kept H2.out) hml).mono ?_
  rintro e w3 ⟨v', rfl, k3, o3⟩
  have H3 := Lib.hid (And.intro (H2.out.trans k3) (own_baseL o3 H2.out.size))
  clear k3 o3
  go_wp2
  go_ret
  exact ⟨_, rfl, H3.out⟩
theorem gate_get (G i : Nat) (p : Option Addr) (f : Nat → Int) (w : World) (h : GateAt w G p f) (hi : i < 64) : Calls Tryz.prog 134 #[.pointer (some ⟨G, 0, none⟩), .nilIface, .int .i64 i] w fun e w' => e = .returned (.tuple #[.int .i64 (f i), .int .i64 0]) ∧ w = w' := by
  have c := h.num i hi
  have h0 : (0 : Int) ≤ i := by omega
  have h1 : (i : Int) < 64 := by omega
  clear h
  generalize f i = x at c ⊢
  go_enter Tryz.func134, Tryz.ntmps134
  go_wp2_with (first | (go_at_call 78; refine (refused_no _ i _ hi).mono ?_; rintro e w' ⟨rfl, rfl⟩) | (go_at_call 86; refine (gstep_nil _).mono ?_; rintro e w' ⟨rfl, rfl⟩) | (go_at_call 103; refine (atomic_load _ x _ c).mono ?_; rintro e w' ⟨rfl, rfl⟩))
  go_ret2
  exact ⟨rfl, rfl⟩
set_option maxHeartbeats 4000000 in
set_option maxRecDepth 100000 in
theorem gate_least (G : Nat) (x none_ : Int) (gp : Option Addr) (mv : Value) (ml : List Int) (f : Nat → Int) (w : World) (hg : GateAt w G gp f) (hb : BoxV 214 gp mv w) (hm : MembersAt w mv ml) (hml : ml.length ≤ 64) (h0 : 0 < ml.length)
    (hf : ∀ j (h : j < ml.length), ∃ i : Nat, i < 64 ∧ ml[j] = (i : Int) ∧ f i = x) :
    Calls Tryz.prog 131 #[.pointer (some ⟨G, 0, none⟩), .nilIface, .int .i64 none_] w fun e w' => (∃ p : Int, e = .returned (.tuple #[.int .i64 x, .int .i64 p])) ∧ Kept (fun _ => False) w w' := by
  have HG := Lib.hid hg
  have HM := Lib.hid (And.intro hb hm)
  have HF := Lib.hid hf
  clear hg hb hm hf
  go_enter Tryz.func131, Tryz.ntmps131
  go_wp2_with fail
  refine (gate_list G gp mv ml f w HG.out HM.out.1 HM.out.2 hml).mono ?_
  rintro e w1 ⟨v', rfl, k1, o1⟩
  obtain ⟨vA, vc, rfl⟩ := own_slice o1
  obtain ⟨n, hn⟩ : ∃ n, n = ml.length := ⟨_, rfl⟩
  rw [← hn] at o1 hml h0 ⊢
  obtain ⟨m, rfl⟩ : ∃ m, n = m + 1 := ⟨n - 1, by omega⟩
  obtain ⟨L, rfl, l1, l2, l3, l4⟩ := own_succ o1
  have HK := Lib.hid (And.intro k1 (And.intro l1 (And.intro l2 (And.intro l3 (fun j (h : j < ml.length) => l4 j _ (by rw [List.getElem?_map, List.getElem?_eq_getElem h]; rfl))))))
  have HN := Lib.hid hn
  clear k1 o1 l1 l2 l3 l4 hn
  go_wp2_with fail
  go_loopw [8, 9, 19] (fun le pl q wr => ∃ j : Nat, j ≤ m + 1 ∧ q = .int .i64 j ∧ wr = w1 ∧ ((j = 0 ∧ le = .int .i64 none_ ∧ pl = .int .i64 (-1)) ∨ (0 < j ∧ le = .int .i64 x ∧ ∃ p : Nat, p < 64 ∧ pl = .int .i64 p))) (fun _ _ q _ => m + 1 - (intOf q).toNat)
  case atStart => exact ⟨0, Nat.zero_le _, rfl, rfl, .inl ⟨rfl, rfl, rfl⟩⟩
  case round =>
    obtain ⟨j, hj, rfl, rfl, hh⟩ := hrel
    by_cases hlt : j < m + 1
    · have b1 : (j : Int) < ((m + 1 : Nat) : Int) := by omega
      have hjl : j < ml.length := by have := HN.out; omega
      have c1 := HK.out.2.2.2.2 j hjl
      obtain ⟨i, hi, hij, hfi⟩ := HF.out j hjl
      rw [hij] at c1
      have HFI := Lib.hid hfi
      clear hij hfi
      have i0 : (0 : Int) ≤ i := by omega
      have i1 : (i : Int) < 64 := by omega
      rcases hh with ⟨rfl, rfl, rfl⟩ | ⟨hj0, rfl, p, hp, rfl⟩
      · go_wp2_with (go_at_call 134; refine (gate_get G i gp f _ (HG.out.kept HK.out.1 id) hi).mono ?_; rintro e w' ⟨rfl, rfl⟩; rw [HFI.out])
        go_roundw
        case rel => exact ⟨1, by omega, by go_num, trivial, .inr ⟨by omega, rfl, i, hi, rfl⟩⟩
        case measure => simp [intOf]
      · have p0 : ¬ (p : Int) < 0 := by omega
        have xx : ¬ x < x := by omega
        go_wp2_with (go_at_call 134; refine (gate_get G i gp f _ (HG.out.kept HK.out.1 id) hi).mono ?_; rintro e w' ⟨rfl, rfl⟩; rw [HFI.out])
        go_roundw
        case rel => exact ⟨j + 1, by omega, by go_num, trivial, .inr ⟨by omega, rfl, p, hp, rfl⟩⟩
        case measure => simp [intOf]; omega
    · have ej : j = m + 1 := by omega
      subst ej
      rcases hh with ⟨hx, -⟩ | ⟨-, rfl, p, hp, rfl⟩
      · omega
      go_wp2
      go_ret2
      exact ⟨⟨_, rfl⟩, HK.out.1⟩
end Go.Proofs.YtbmjmamodnapiaaGreatDoor
