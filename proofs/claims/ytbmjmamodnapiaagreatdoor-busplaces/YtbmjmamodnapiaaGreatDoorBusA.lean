/- DERIVED. Atomic words, flags and boxes (package cell), lone and without a Stepper. -/
import Derived.Test.YtbmjmamodnapiaaGreatDoorSlots
import Derived.Test.YtbmjmamodnapiaaGreatDoorLoneReg
import Derived.Laws.LoneSync
import Derived.Lib.Builder
namespace Go.Proofs.YtbmjmamodnapiaaGreatDoor
open Go.RowKit
set_option linter.unusedVariables false
section
variable {P : Program} {f : FuncId} {fn : Func}
theorem run_call_loadp (hf : P.funcs[f]? = some fn) (hname : (fn.name == "runtime.NumGoroutine") = false) (hb : fn.body.isNone = true) (hn : Extern.findNext fn = none)
    (he : Extern.find fn = some (Extern.Atomic.loadT .ptr)) {a : Addr} {x : Option Addr} {w : World} (hc : w.cell? a = some (.pointer x)) :
    (callFunc f #[.pointer (some a)]).run P w = .ok (.value (.pointer x)) w := by
  rw [run_callFunc_extern hf hname hb hn he]
  change (Sem.run P (do Extern.Atomic.read .ptr (← asAddr (.pointer (some a)))) w).andThen _ = _
  simp [Extern.Atomic.read, asAddr, hc, Result.andThen]
theorem run_call_swap (hf : P.funcs[f]? = some fn) (hname : (fn.name == "runtime.NumGoroutine") = false) (hb : fn.body.isNone = true) (hn : Extern.findNext fn = none) (k : IntKind)
    (he : Extern.find fn = some (Extern.Atomic.swapT (.int k))) {a : Addr} {x y : Int} {w : World} (hc : w.cell? a = some (.int k x)) (hz : w.frozen? a = false) :
    (callFunc f #[.pointer (some a), .int k y]).run P w = .ok (.value (.int k x)) (w.setCell a (.int k y)) := by
  rw [run_callFunc_extern hf hname hb hn he]
  change (Sem.run P (do
    let a' ← asAddr (.pointer (some a))
    let old ← Extern.Atomic.read (.int k) a'
    store a' (.int k y) .atomic
    pure old) w).andThen _ = _
  simp [Extern.Atomic.read, asAddr, hc, hz, run_store P w a (.int k y) .atomic rfl, Result.andThen]
theorem run_call_casp (hf : P.funcs[f]? = some fn) (hname : (fn.name == "runtime.NumGoroutine") = false) (hb : fn.body.isNone = true) (hn : Extern.findNext fn = none)
    (he : Extern.find fn = some (Extern.Atomic.casT .ptr)) {a : Addr} {x y : Option Addr} {w : World} (hx : (samePointer x x).run P w = .ok true w) (hc : w.cell? a = some (.pointer x)) (hz : w.frozen? a = false) :
    (callFunc f #[.pointer (some a), .pointer x, .pointer y]).run P w = .ok (.value (.bool true)) (w.setCell a (.pointer y)) := by
  rw [run_callFunc_extern hf hname hb hn he]
  change (Sem.run P (do
    let a' ← asAddr (.pointer (some a))
    if ← Extern.Atomic.touchesFrozen a' then unsupported (.unsafePointer "a write to bytes that a string shares")
    let eq ← match Extern.Atomic.T.ptr, ← Extern.Atomic.read .ptr a', Value.pointer x with
      | _, .int _ x, .int _ y => pure (x == y)
      | .ptr, .pointer x, .pointer y => samePointer x y
      | .int _, .pointer (some _), .int _ 0 | .int _, .int _ 0, .pointer (some _) => pure false
      | .int _, .pointer (some _), _ | .int _, _, .pointer (some _) => unsupported .addressObserved
      | _, _, _ => stuck "atomic.CompareAndSwap: old is no T"
    if eq then store a' (.pointer y) .atomic
    pure (Value.bool eq)) w).andThen _ = _
  simp [Extern.Atomic.touchesFrozen, Extern.Atomic.read, asAddr, viewAt, World.shape?_isSome_of_cell? hc, hc, hz, hx, run_store P w a (.pointer y) .atomic rfl, Result.andThen]
end
theorem cstep_nil (w : World) : Calls Tryz.prog 51 #[.nilIface] w fun e w' => e = .returned (.tuple #[]) ∧ w = w' := by
  go_enter Tryz.func51, Tryz.ntmps51
  go_wp2
  go_end0
  exact ⟨rfl, rfl⟩
theorem flag_load (a : Addr) (v : Bool) (w : World) (h : w.cell? a = some (.int .u32 (if v then 1 else 0))) : Calls Tryz.prog 34 #[.pointer (some a), .nilIface] w fun e w' => e = .returned (.bool v) ∧ w = w' := by
  have hld := run_call_load (P := Tryz.prog) Tryz.func75 (by kernel_rfl) (by kernel_rfl) (by kernel_rfl) .u32 (by kernel_rfl) h
  have hv : ((if v then (1 : Int) else 0) != 0) = v := by cases v <;> rfl
  generalize (if v then (1 : Int) else 0) = x at *
  go_enter Tryz.func34, Tryz.ntmps34
  go_wp2_with (first | (go_at_call 51; refine (cstep_nil _).mono ?_; rintro e w' ⟨rfl, rfl⟩) | (go_at_call 55; go_in))
  go_ret
  exact ⟨rfl, rfl⟩
theorem word_new (v : Int) (w : World) : Calls Tryz.prog 49 #[.int .i64 v] w fun e w' => e = .returned (.pointer (some ⟨w.heap.size, 0, none⟩)) ∧ w.alloc (.cells #[.int .i64 v] 177) = w' := by
  have c : (w.alloc (.cells #[.int .i64 0] 177)).cell? ⟨w.heap.size, 0, none⟩ = some (.int .i64 0) := (Blk.new w 177 #[.int .i64 0]).cell 0
  have z := (Blk.new w 177 #[.int .i64 0]).frozen 0
  go_enter Tryz.func49, Tryz.ntmps49
  go_wp2_with (go_at_call 50; refine (atomic_store _ v 0 _ c z).mono ?_; rintro e w' ⟨rfl, rfl⟩)
  go_ret
  refine ⟨rfl, ?_⟩
  simp
theorem word_load (a : Addr) (v : Int) (w : World) (h : w.cell? a = some (.int .i64 v)) : Calls Tryz.prog 85 #[.pointer (some a), .nilIface] w fun e w' => e = .returned (.int .i64 v) ∧ w = w' := by
  go_enter Tryz.func85, Tryz.ntmps85
  go_wp2_with (first | (go_at_call 51; refine (cstep_nil _).mono ?_; rintro e w' ⟨rfl, rfl⟩) | (go_at_call 103; refine (atomic_load _ _ _ h).mono ?_; rintro e w' ⟨rfl, rfl⟩))
  go_ret
  exact ⟨rfl, rfl⟩
theorem word_store (a : Addr) (v u : Int) (w : World) (h : w.cell? a = some (.int .i64 u)) (hf : w.frozen? a = false) : Calls Tryz.prog 105 #[.pointer (some a), .nilIface, .int .i64 v] w fun e w' => e = .returned (.tuple #[]) ∧ w.setCell a (.int .i64 v) = w' := by
  go_enter Tryz.func105, Tryz.ntmps105
  go_wp2_with (first | (go_at_call 51; refine (cstep_nil _).mono ?_; rintro e w' ⟨rfl, rfl⟩) | (go_at_call 50; refine (atomic_store _ v u _ h hf).mono ?_; rintro e w' ⟨rfl, rfl⟩))
  go_end0
  exact ⟨rfl, rfl⟩
theorem word_cas (a : Addr) (v u : Int) (w : World) (h : w.cell? a = some (.int .i64 u)) (hf : w.frozen? a = false) : Calls Tryz.prog 93 #[.pointer (some a), .nilIface, .int .i64 u, .int .i64 v] w fun e w' => e = .returned (.bool true) ∧ w.setCell a (.int .i64 v) = w' := by
  have hcas := run_call_cas_hit (P := Tryz.prog) Tryz.func113 (by kernel_rfl) (by kernel_rfl) (by kernel_rfl) .i64 (by kernel_rfl) (y := v) h hf
  go_enter Tryz.func93, Tryz.ntmps93
  go_wp2_with (first | (go_at_call 51; refine (cstep_nil _).mono ?_; rintro e w' ⟨rfl, rfl⟩) | (go_at_call 107; go_in))
  go_ret
  exact ⟨rfl, rfl⟩
theorem b32_true (w : World) : Calls Tryz.prog 99 #[.bool true] w fun e w' => e = .returned (.int .u32 1) ∧ w = w' := by
  go_enter Tryz.func99, Tryz.ntmps99
  go_wp2
  go_ret
  exact ⟨rfl, rfl⟩
theorem flag_set (a : Addr) (v : Bool) (w : World) (h : w.cell? a = some (.int .u32 (if v then 1 else 0))) (hf : w.frozen? a = false) : Calls Tryz.prog 45 #[.pointer (some a), .nilIface] w fun e w' => e = .returned (.bool (!v)) ∧ (w.setCell a (.int .u32 1)).drew = w' := by
  have hnot : ∀ (x : Bool) (w : World), (Op.unary .not (.bool x)).run Tryz.prog w = .ok (.bool (!x)) w := fun _ _ => rfl
  have hv : ((if v then (1 : Int) else 0) != 0) = v := by cases v <;> rfl
  have hsw : Sem.run Tryz.prog (callFunc 98 #[.pointer (some a), .int .u32 1]) w.drew = .ok (.value (.int .u32 (if v then 1 else 0))) (w.drew.setCell a (.int .u32 1)) := run_call_swap (P := Tryz.prog) Tryz.func98 (by kernel_rfl) (by kernel_rfl) (by kernel_rfl) .u32 (by kernel_rfl) (y := 1) (w := w.drew) h hf
  generalize (if v then (1 : Int) else 0) = x at *
  go_enter Tryz.func45, Tryz.ntmps45
  go_wp2_with (first | (go_at_call 51; refine (cstep_nil _).mono ?_; rintro e w' ⟨rfl, rfl⟩) | (go_at_call 71; go_in))
  rename_i K0 Q0 hK0
  refine strictL ?_
  refine wp_region_held (S := fun _ => True) (by kernel_rfl) ?_
  simp only [List.size_toArray, List.length_cons, List.length_nil, Nat.reduceAdd]
  refine rdL 0 7 5 ⟨_, rfl, rfl, by kernel_rfl, by kernel_rfl, by kernel_rfl, (fun c a w h => by cases h.1), rfl, trivial, ?_⟩
  apply Exists.intro
  refine ⟨fun wq _ => ?_, ?_⟩
  · go_simp
    rfl
  simp only [Act.put, List.setIfInBounds_toArray, List.set_cons_zero, List.set_cons_succ]
  refine rdL 1 6 6 ⟨_, rfl, rfl, by kernel_rfl, by kernel_rfl, by kernel_rfl, (fun c a w h => by cases h.1), rfl, trivial, ?_⟩
  apply Exists.intro
  refine ⟨fun wq _ => ?_, ?_⟩
  · go_simp
    rfl
  simp only [Act.put, List.setIfInBounds_toArray, List.set_cons_zero, List.set_cons_succ]
  refine rdL 2 5 7 ⟨_, rfl, rfl, by kernel_rfl, by kernel_rfl, by kernel_rfl, (fun c a w h => by cases h.1), rfl, trivial, ?_⟩
  apply Exists.intro
  refine ⟨fun wq _ => ?_, ?_⟩
  · go_simp
    rfl
  simp only [Act.put, List.setIfInBounds_toArray, List.set_cons_zero, List.set_cons_succ]
  refine rdL 3 4 8 ⟨_, rfl, rfl, by kernel_rfl, by kernel_rfl, by kernel_rfl, (fun c a w h => by cases h.1), rfl, trivial, ?_⟩
  apply Exists.intro
  refine ⟨fun wq _ => ?_, ?_⟩
  · go_simp
    rfl
  simp only [Act.put, List.setIfInBounds_toArray, List.set_cons_zero, List.set_cons_succ]
  refine oneL (i := 4) (fuel := 3) (by kernel_rfl) rfl rfl fun K hK' => ?_
  unfold Oper.wp
  go_simp
  refine (b32_true _).mono ?_
  rintro e w' ⟨rfl, rfl⟩
  dsimp only
  refine hK' _ _ trivial ?_
  clear hK' K
  refine oneL (i := 5) (fuel := 2) (by kernel_rfl) rfl rfl fun K hK' => ?_
  unfold Oper.wp
  go_simp
  refine hK' _ _ trivial ?_
  clear hK' K
  refine oneL (i := 6) (fuel := 1) (by kernel_rfl) rfl rfl fun K hK' => ?_
  unfold Oper.wp
  go_simp
  refine hK' _ _ trivial ?_
  clear hK' K
  refine oneL (i := 7) (fuel := 0) (by kernel_rfl) rfl rfl fun K hK' => ?_
  unfold Oper.wp
  go_simp
  refine hK' _ _ trivial ?_
  clear hK' K
  refine wpAnyH_done (by kernel_rfl) ⟨rfl, ?_⟩ _
  refine hK0 _ _ ?_
  go_wp2
  go_ret
  exact ⟨rfl, rfl⟩
/-- What an atomic pointer holds: nothing, or a place of two cells of its own kind. -/
def HeldP (t : TypeId) (p : Option Addr) (w : World) : Prop := p = none ∨ ∃ K a b, p = some ⟨K, 0, none⟩ ∧ Blk w K t #[a, b]
theorem HeldP.kept {t : TypeId} {p : Option Addr} {w w' : World} (h : HeldP t p w) (k : Kept (fun _ => False) w w') : HeldP t p w' := by
  rcases h with h | ⟨K, a, b, h1, h2⟩
  · exact .inl h
  · exact .inr ⟨K, a, b, h1, h2.kept k id⟩
theorem from_tp (p : Option Addr) (w : World) (h : HeldP 145 p w) : (convert 66 62 (.pointer p)).run Tryz.prog w = .ok (.pointer p) w := by
  rcases h with rfl | ⟨K, a, b, rfl, h⟩
  · simp [convert, run_underlying Tryz.underlying66, run_underlying Tryz.underlying62, Conv.unsafePointer]
  · obtain ⟨j, hj⟩ : ∃ j, Tryz.prog.info? 145 = some j := Option.isSome_iff_exists.1 (by kernel_rfl)
    have hb : w.heap[K]? = some (.cells #[a, b] 145 (0, 0)) := h
    exact Lib.run_from_unsafe (j := j) (e := 145) (cells := 2) w ⟨K, 0, none⟩ Tryz.underlying66 Tryz.underlying62 hj (by simp [World.shape?, hb]) (by kernel_rfl)
theorem to_tp (p : Option Addr) (w : World) (h : HeldP 145 p w) : (convert 62 66 (.pointer p)).run Tryz.prog w = .ok (.pointer p) w := by
  rcases h with rfl | ⟨K, a, b, rfl, h⟩
  · simp [convert, run_underlying Tryz.underlying66, run_underlying Tryz.underlying62, Conv.unsafePointer]
  · have hb : w.heap[K]? = some (.cells #[a, b] 145 (0, 0)) := h
    exact run_convert_to_unsafe Tryz.underlying62 Tryz.underlying66 (by kernel_rfl) (cell_of_row w K 0 _ _ (0, 0) hb)
theorem ptr_load_tp (a : Addr) (p : Option Addr) (w : World) (h : w.cell? a = some (.pointer p)) (hp : HeldP 145 p w) : Calls Tryz.prog 52 #[.pointer (some a)] w fun e w' => e = .returned (.pointer p) ∧ w = w' := by
  have hld := run_call_loadp (P := Tryz.prog) Tryz.func73 (by kernel_rfl) (by kernel_rfl) (by kernel_rfl) (by kernel_rfl) h
  have hcv := from_tp p w hp
  go_enter Tryz.func52, Tryz.ntmps52
  go_wp2
  go_ret
  exact ⟨rfl, rfl⟩
theorem from_mb (p : Option Addr) (w : World) (h : HeldP 214 p w) : (convert 66 129 (.pointer p)).run Tryz.prog w = .ok (.pointer p) w := by
  rcases h with rfl | ⟨K, a, b, rfl, h⟩
  · simp [convert, run_underlying Tryz.underlying66, run_underlying Tryz.underlying129, Conv.unsafePointer]
  · obtain ⟨j, hj⟩ : ∃ j, Tryz.prog.info? 214 = some j := Option.isSome_iff_exists.1 (by kernel_rfl)
    have hb : w.heap[K]? = some (.cells #[a, b] 214 (0, 0)) := h
    exact Lib.run_from_unsafe (j := j) (e := 214) (cells := 2) w ⟨K, 0, none⟩ Tryz.underlying66 Tryz.underlying129 hj (by simp [World.shape?, hb]) (by kernel_rfl)
theorem to_mb (p : Option Addr) (w : World) (h : HeldP 214 p w) : (convert 129 66 (.pointer p)).run Tryz.prog w = .ok (.pointer p) w := by
  rcases h with rfl | ⟨K, a, b, rfl, h⟩
  · simp [convert, run_underlying Tryz.underlying66, run_underlying Tryz.underlying129, Conv.unsafePointer]
  · have hb : w.heap[K]? = some (.cells #[a, b] 214 (0, 0)) := h
    exact run_convert_to_unsafe Tryz.underlying129 Tryz.underlying66 (by kernel_rfl) (cell_of_row w K 0 _ _ (0, 0) hb)
theorem ptr_load_mb (a : Addr) (p : Option Addr) (w : World) (h : w.cell? a = some (.pointer p)) (hp : HeldP 214 p w) : Calls Tryz.prog 100 #[.pointer (some a)] w fun e w' => e = .returned (.pointer p) ∧ w = w' := by
  have hld := run_call_loadp (P := Tryz.prog) Tryz.func73 (by kernel_rfl) (by kernel_rfl) (by kernel_rfl) (by kernel_rfl) h
  have hcv := from_mb p w hp
  go_enter Tryz.func100, Tryz.ntmps100
  go_wp2
  go_ret
  exact ⟨rfl, rfl⟩
end Go.Proofs.YtbmjmamodnapiaaGreatDoor
