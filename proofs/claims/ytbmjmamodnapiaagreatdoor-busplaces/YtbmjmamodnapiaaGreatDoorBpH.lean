/- DERIVED. A subscription refused as there is no place (package bus: Subscribe), lone. -/
import Derived.Test.YtbmjmamodnapiaaGreatDoorBpE
import Derived.Test.YtbmjmamodnapiaaGreatDoorBpG
namespace Go.Proofs.YtbmjmamodnapiaaGreatDoor
open Go.RowKit
set_option linter.unusedVariables false
set_option maxHeartbeats 4000000 in
set_option maxRecDepth 100000 in
theorem subscribe_full (b B n : Nat) (ls : List (Int × Nat)) (S : TSt) (name kd fa fb : Int) (w : World) (hB : BusIn w b ls (B + 9)) (hl : lookT ls name = some ⟨B + 8, 0, none⟩) (hT : TopicAt w B n S) (hcl : S.closed = false) (hw : S.word = 18446744073709551615) :
    Calls Tryz.prog 16 #[.pointer (some ⟨b, 0, none⟩), .nilIface, .int .i64 name, .agg #[.int .i64 kd, .int .i64 fa, .int .i64 fb]] w fun e w' => e = .returned (.tuple #[.pointer none, .int .i64 3]) ∧ Kept (fun _ => False) w w' := by
  have HB := Lib.hid hB
  have HT := Lib.hid hT
  have Hl := Lib.hid (And.intro hl (And.intro hcl hw))
  clear hB hT hl hcl hw
  go_enter Tryz.func16, Tryz.ntmps16
  go_wp2_with fail
  have ka : Kept (fun _ => False) w (w.alloc (.cells #[.int .i64 kd, .int .i64 fa, .int .i64 fb] 24)) := Kept.alloc _ _
  obtain ⟨xf, hxf⟩ : ∃ x, x = w.heap.size := ⟨_, rfl⟩
  rw [← hxf]
  generalize w.alloc (.cells #[.int .i64 kd, .int .i64 fa, .int .i64 fb] 24) = wa at ka ⊢
  have HA := Lib.hid ka
  clear ka hxf
  refine (find_ok b ls name wa (HB.out.at_.keep HA.out)).mono ?_
  rintro e w1 ⟨rfl, k1⟩
  rw [Hl.out.1]
  have H1 := Lib.hid (HA.out.trans k1)
  clear k1
  have hT1 := HT.out.kept (Z := fun _ => False) H1.out (fun _ z => z.elim)
  have t4 : w1.cell? ⟨B + 8, 4, none⟩ = some (.int .u32 (if S.closed then 1 else 0)) := hT1.top.cell 4
  rw [Hl.out.2.1] at t4
  have t3 : w1.cell? ⟨B + 8, 3, none⟩ = some (.pointer (some ⟨B + 6, 0, none⟩)) := hT1.top.cell 3
  have hpw := hT1.pw
  rw [Hl.out.2.2] at hpw
  have HP := Lib.hid (And.intro hT1.pl hpw)
  have T4 := Lib.hid t4
  clear hT1 t4 hpw
  go_wp2_with (go_at_call 34; refine (flag_load _ false _ T4.out).mono ?_; rintro e w' ⟨rfl, rfl⟩)
  refine (claim_full (B + 6) (B + 5) w1 HP.out.1 HP.out.2).mono ?_
  rintro e w2 ⟨rfl, rfl⟩
  go_wp2
  go_ret2
  exact ⟨rfl, H1.out⟩
end Go.Proofs.YtbmjmamodnapiaaGreatDoor
