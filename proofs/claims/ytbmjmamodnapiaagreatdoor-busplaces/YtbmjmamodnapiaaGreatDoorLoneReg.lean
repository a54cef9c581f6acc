/- DERIVED. A region that draws its order, walked in a lone call: reads first, then the one operation that may come up. No program of this claim is in sight. -/
import Derived.WalkKit
import Derived.OrdersHeld
namespace Go.Proofs.YtbmjmamodnapiaaGreatDoor
set_option linter.unusedVariables false
theorem strictL {P : Program} {c : Code} {Q : Exit → Act → World → Prop} {a : Act} {w : World} (h : c.wp P (fun e a' w' => e = .normal ∧ Q .normal a' w') a w) : c.wp P Q a w := wp_mono h (by rintro e a w ⟨rfl, h⟩; exact h)
theorem opL {P : Program} {ops : Array Oper} {Q : Exit → Act → World → Prop} {i : Nat} {K : Act → World → Prop} {a : Act} {w : World} {o : Oper} (ho : ops[i]? = some o) (hw : Region.wanted o (yielded ops a.tmps) = true) (h : o.wp P a w K Q) : wpOp P ops Q i K a w := by
  unfold wpOp
  rw [ho]
  simp only [hw, if_true]
  exact .inl h
theorem oneL {P : Program} {ops : Array Oper} {md : Region.Mode} {Q : Exit → Act → World → Prop} {S : World → Prop} {i fuel : Nat} {listed : Array Bool} {a : Act} {w : World} {o : Oper} (hr : Region.ready md ops listed = [i]) (ho : ops[i]? = some o) (hw : Region.wanted o (yielded ops a.tmps) = true)
    (h : ∀ K : Act → World → Prop, (∀ a' w', S w' → wpAnyH P md ops Q S fuel (listed.setIfInBounds i true) a' w' → K a' w') → o.wp P a w K Q) : wpAnyH P md ops Q S (fuel + 1) listed a w :=
  wpAnyH_all hr (by simp) fun j hj => by
    simp only [List.mem_singleton] at hj
    subst hj
    exact opL ho hw (h _ fun _ _ h1 h2 => ⟨h1, h2⟩)
theorem rdL {P : Program} {ops : Array Oper} {md : Region.Mode} {Q : Exit → Act → World → Prop} {S : World → Prop} {listed : Array Bool} {a : Act} {w : World} (i fuel : Nat) (d : Tmp)
    (h : ∃ o, ops[i]? = some o ∧ o.dst = some d ∧ Region.noSelect ops = true ∧ Region.free md ops listed i = true ∧ (Region.ready md ops listed).contains i = true ∧ (∀ c a w, ¬ Q (.panic c) a w) ∧ Region.wanted o (yielded ops a.tmps) = true ∧ S w ∧
      ∃ v, (∀ wq, S wq → (execOp a.eval o).run P wq = .ok (.value v) wq) ∧ wpAnyH P md ops Q S fuel (listed.setIfInBounds i true) (a.put (some d) v) w) : wpAnyH P md ops Q S (fuel + 1) listed a w := by
  obtain ⟨o, h1, h2, h3, h4, h5, h6, h7, h8, v, h9, h10⟩ := h
  rw [← h2] at h10
  exact wpAnyH_take h1 h3 h4 h5 (fun c a w q => absurd q (h6 c _ w)) (.inl ⟨h7, h9⟩) h8 h10
end Go.Proofs.YtbmjmamodnapiaaGreatDoor
