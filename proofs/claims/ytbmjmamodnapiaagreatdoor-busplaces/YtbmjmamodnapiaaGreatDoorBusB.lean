/- DERIVED. Boxes (package cell), lone and without a Stepper: Load, Value, Cas. -/
import Derived.Test.YtbmjmamodnapiaaGreatDoorBusA
import Derived.LaidEql
namespace Go.Proofs.YtbmjmamodnapiaaGreatDoor
open Go.RowKit
set_option linter.unusedVariables false
theorem same_self {P : Program} (x : Option Addr) (w : World) : (samePointer x x).run P w = .ok true w := by
  cases x with
  | none => rfl
  | some a => exact Go.run_sameAddr_same w a
theorem eql_ptr_same {P : Program} {t e : TypeId} {j : TypeInfo} (a : Addr) (hp : P.underlying t = some (.pointer e)) (he : P.info? e = some j) (w : World) : (binOp .eql t (.pointer (some a)) (.pointer (some a))).run P w = .ok (.bool true) w := by
  have h : ∀ d, (Op.equalIn (d + 1) t (.pointer (some a)) (.pointer (some a))).run P w = .ok true w := fun d => by
    by_cases hz : j.size = 0
    · simp [Op.equalIn, run_underlying hp, sizeOf, typeInfo, he, hz]
    · simp [Op.equalIn, run_underlying hp, sizeOf, typeInfo, he, Go.run_sameAddr_same]
  simp only [binOp]
  simp [Op.equal, Op.maxDepth, h 9999]
theorem cell_lt {w : World} {a : Addr} {v : Value} (h : w.cell? a = some v) : a.block < w.heap.size := by
  unfold World.cell? at h
  rcases Nat.lt_or_ge a.block w.heap.size with z | z
  · exact z
  · rw [Array.getElem?_eq_none z] at h; cases h
theorem cell_keep {S : Nat → Prop} {w w' : World} {a : Addr} {v : Value} (h : w.cell? a = some v) (k : Kept S w w') (hs : ¬ S a.block) : w'.cell? a = some v := (World.cell?_of_block (w := w) (k.block a.block (cell_lt h) hs)).trans h
theorem froz_keep {S : Nat → Prop} {w w' : World} {a : Addr} {v : Value} (h : w.frozen? a = false) (hc : w.cell? a = some v) (k : Kept S w w') (hs : ¬ S a.block) : w'.frozen? a = false := by
  have := k.block a.block (cell_lt hc) hs
  unfold World.frozen? at h ⊢
  rw [this]
  exact h
/-- What a box's place holds. -/
def BoxV (t : TypeId) (p : Option Addr) (v : Value) (w : World) : Prop := (p = none ∧ v = .slice none 0 0) ∨ ∃ K b, p = some ⟨K, 0, none⟩ ∧ Blk w K t #[v, b]
theorem BoxV.held {t : TypeId} {p : Option Addr} {v : Value} {w : World} (h : BoxV t p v w) : HeldP t p w := by
  rcases h with ⟨h, _⟩ | ⟨K, b, h1, h2⟩
  · exact .inl h
  · exact .inr ⟨K, v, b, h1, h2⟩
theorem BoxV.kept {t : TypeId} {p : Option Addr} {v : Value} {w w' : World} (h : BoxV t p v w) (k : Kept (fun _ => False) w w') : BoxV t p v w' := by
  rcases h with h | ⟨K, b, h1, h2⟩
  · exact .inl h
  · exact .inr ⟨K, b, h1, h2.kept k id⟩
theorem box_load_tp (a : Addr) (p : Option Addr) (w : World) (h : w.cell? a = some (.pointer p)) (hp : HeldP 145 p w) : Calls Tryz.prog 29 #[.pointer (some a), .nilIface] w fun e w' => e = .returned (.agg #[.pointer p, .pointer (some a)]) ∧ Kept (fun _ => False) w w' := by
  have hk : Kept (fun _ => False) w (w.alloc (.cells #[.pointer none, .pointer none] 96)) := Kept.alloc _ _
  have h2 := cell_keep h hk id
  have hp2 := hp.kept hk
  clear hk h hp
  go_enter Tryz.func29, Tryz.ntmps29
  go_wp2_with (first | (go_at_call 51; refine (cstep_nil _).mono ?_; rintro e w' ⟨rfl, rfl⟩) | (go_at_call 52; refine (ptr_load_tp _ p _ h2 hp2).mono ?_; rintro e w' ⟨rfl, rfl⟩))
  have c0 := (Blk.new w 96 #[.pointer p, .pointer (some a)]).cell 0
  have c1 := (Blk.new w 96 #[.pointer p, .pointer (some a)]).cell 1
  refine bodyPost_ret (v := .agg #[.pointer p, .pointer (some a)]) ?_ rfl ⟨rfl, Kept.alloc _ _⟩
  simp only [List.getElem?_toArray, List.getElem?_cons_zero, List.getElem?_cons_succ] at c0 c1
  simp [results, Tryz.f29, go_sem, c0, c1]
theorem held_value_tp (a : Option Addr) (p : Option Addr) (v : Value) (w : World) (h : BoxV 145 p v w) : Calls Tryz.prog 31 #[.agg #[.pointer p, .pointer a]] w fun e w' => e = .returned v ∧ Kept (fun _ => False) w w' := by
  have hk : Kept (fun _ => False) w (w.alloc (.cells #[.pointer p, .pointer a] 96)) := Kept.alloc _ _
  have h2 := h.kept hk
  rcases h2 with ⟨rfl, rfl⟩ | ⟨K, b, rfl, hb⟩
  · go_enter Tryz.func31, Tryz.ntmps31
    go_wp2
    go_ret
    exact ⟨rfl, Kept.alloc _ _⟩
  · have hc : (w.alloc (.cells #[.pointer (some ⟨K, 0, none⟩), .pointer a] 96)).cell? ⟨K, 0, none⟩ = some v := hb.cell 0
    clear h hk hb
    go_enter Tryz.func31, Tryz.ntmps31
    go_wp2
    go_ret
    exact ⟨rfl, Kept.alloc _ _⟩
theorem ptr_cas_tp (a : Addr) (x y : Option Addr) (w : World) (h : w.cell? a = some (.pointer x)) (hz : w.frozen? a = false) (hx : HeldP 145 x w) (hy : HeldP 145 y w) : Calls Tryz.prog 54 #[.pointer (some a), .pointer x, .pointer y] w fun e w' => e = .returned (.bool true) ∧ w.setCell a (.pointer y) = w' := by
  have hcas := run_call_casp (P := Tryz.prog) Tryz.func74 (by kernel_rfl) (by kernel_rfl) (by kernel_rfl) (by kernel_rfl) (y := y) (same_self x w) h hz
  have e1 := to_tp x w hx
  have e2 := to_tp y w hy
  clear hx hy
  go_enter Tryz.func54, Tryz.ntmps54
  go_wp2
  go_ret
  exact ⟨rfl, rfl⟩
set_option maxRecDepth 100000 in
theorem box_cas_tp (a : Addr) (p : Option Addr) (v : Value) (n c : Nat) (A : Option Addr) (w : World) (h : w.cell? a = some (.pointer p)) (hz : w.frozen? a = false) (hp : HeldP 145 p w) (hv : v = .slice A n c) : Calls Tryz.prog 32 #[.pointer (some a), .nilIface, .agg #[.pointer p, .pointer (some a)], v] w fun e w' => e = .returned (.bool true) ∧ Kept (fun b => b = a.block) w w' ∧
    ∃ K, w.heap.size ≤ K ∧ Blk w' K 145 #[v, .int .i64 0] ∧ ∃ w1, Kept (fun _ => False) w w1 ∧ K < w1.heap.size ∧ w' = w1.setCell a (.pointer (some ⟨K, 0, none⟩)) := by
  obtain ⟨j, hj⟩ : ∃ j, Tryz.prog.info? 70 = some j := Option.isSome_iff_exists.1 (by kernel_rfl)
  have heq := eql_ptr_same (t := 94) a Tryz.underlying94 hj
  clear hj
  subst hv
  go_enter Tryz.func32, Tryz.ntmps32
  have hk0 : Kept (fun _ => False) w (w.alloc (.cells #[.pointer p, .pointer (some a)] 96)) := Kept.alloc _ _
  have h2 := cell_keep h hk0 id
  have z2 := froz_keep hz h hk0 id
  have hp2 := hp.kept hk0
  have hb6 := Blk.new w 96 #[.pointer p, .pointer (some a)]
  have HS := Lib.hid (And.intro h2 (And.intro z2 (And.intro hp2 (And.intro hb6 hk0))))
  have hlt := cell_lt h
  have hne : w.heap.size ≠ a.block := by omega
  clear h hz hp hk0 h2 z2 hp2 hb6 hlt
  go_wp2_with (go_at_call 51; refine (cstep_nil _).mono ?_; rintro e w' ⟨rfl, rfl⟩)
  generalize hw0 : w.alloc (.cells #[.pointer p, .pointer (some a)] 96) = u at *
  obtain ⟨b6, hb6⟩ : ∃ b6, w.heap.size = b6 := ⟨_, rfl⟩
  rw [hb6] at HS hne ⊢
  rename_i K0 hK0
  refine strictL ?_
  refine wp_region_held (S := Kept (fun b => b = a.block) u) (by kernel_rfl) ?_
  simp only [List.size_toArray, List.length_cons, List.length_nil, Nat.reduceAdd]
  have HW1 : Hid (Kept (fun b => b = a.block) u { u with drawn := u.drawn + 1 }) := Lib.hid (Kept.drew u)
  iterate 12
    first
    | refine rdL 0 15 13 ?_
    | refine rdL 1 14 14 ?_
    | refine rdL 2 13 15 ?_
    | refine rdL 3 12 16 ?_
    | refine rdL 4 11 17 ?_
    | refine rdL 5 10 18 ?_
    | refine rdL 6 9 19 ?_
    | refine rdL 7 8 20 ?_
    | refine rdL 8 7 21 ?_
    | refine rdL 9 6 22 ?_
    | refine rdL 10 5 23 ?_
    | refine rdL 11 4 24 ?_
    refine ⟨_, rfl, rfl, by kernel_rfl, by kernel_rfl, by kernel_rfl, (fun c a w h => by cases h.1), rfl, HW1.out, ?_⟩
    apply Exists.intro
    refine ⟨fun wq hw => ?_, ?_⟩
    · have hb := HS.out.2.2.2.1.kept hw hne
      have c0 : wq.cell? ⟨b6, 0, none⟩ = some (.pointer p) := hb.cell 0
      have c1 : wq.cell? ⟨b6, 1, none⟩ = some (.pointer (some a)) := hb.cell 1
      clear hb
      go_simp
      rfl
    simp only [Act.put, List.setIfInBounds_toArray, List.set_cons_zero, List.set_cons_succ]
  refine oneL (i := 12) (fuel := 3) (by kernel_rfl) rfl rfl fun K hK' => ?_
  unfold Oper.wp
  go_simp
  have hk1 : Kept (fun _ => False) u (u.drew.alloc (.cells #[.slice A n c, .int .i64 0] 145)) := (Kept.drew u).trans (Kept.alloc _ _)
  have hbK := Blk.new u.drew 145 #[.slice A n c, .int .i64 0]
  refine hK' _ _ (hk1.mono fun _ _ z => z.elim) ?_
  clear hK' K
  refine oneL (i := 13) (fuel := 2) (by kernel_rfl) rfl rfl fun K hK' => ?_
  unfold Oper.wp
  go_simp
  refine (ptr_cas_tp a p (some ⟨u.heap.size, 0, none⟩) _ (cell_keep HS.out.1 hk1 id) (froz_keep HS.out.2.1 HS.out.1 hk1 id) (HS.out.2.2.1.kept hk1) (.inr ⟨_, _, _, rfl, hbK⟩)).mono ?_
  rintro e w' ⟨rfl, rfl⟩
  dsimp only
  have hk2 : Kept (fun b => b = a.block) u ((u.drew.alloc (.cells #[.slice A n c, .int .i64 0] 145)).setCell a (.pointer (some ⟨u.heap.size, 0, none⟩))) := (hk1.mono fun _ _ z => z.elim).trans (Kept.setCell _ (by rfl) _)
  refine hK' _ _ hk2 ?_
  clear hK' K
  refine rdL 14 1 27 ?_
  refine ⟨_, rfl, rfl, by kernel_rfl, by kernel_rfl, by kernel_rfl, (fun c a w h => by cases h.1), rfl, hk2, ?_⟩
  apply Exists.intro
  refine ⟨fun wq hw => ?_, ?_⟩
  · go_simp
    rfl
  simp only [Act.put, List.setIfInBounds_toArray, List.set_cons_zero, List.set_cons_succ]
  refine oneL (i := 15) (fuel := 0) (by kernel_rfl) rfl rfl fun K hK' => ?_
  unfold Oper.wp
  go_simp
  have HF := Lib.hid (And.intro hk1 hbK)
  have HF2 := Lib.hid hk2
  have hla : a.block < u.heap.size := cell_lt HS.out.1
  clear hk1 hbK hk2
  refine hK' _ _ HF2.out ?_
  clear hK' K
  refine wpAnyH_done (by kernel_rfl) ⟨rfl, ?_⟩ _
  refine hK0 _ _ ?_
  go_wp2
  go_ret
  have hwu := HS.out.2.2.2.2
  exact ⟨rfl, (hwu.mono fun _ _ z => z.elim).trans HF2.out, u.heap.size, hwu.size, HF.out.2.far (by simp; omega) _, _, hwu.trans HF.out.1, by simp, rfl⟩
theorem box_load_mb (a : Addr) (p : Option Addr) (w : World) (h : w.cell? a = some (.pointer p)) (hp : HeldP 214 p w) : Calls Tryz.prog 79 #[.pointer (some a), .nilIface] w fun e w' => e = .returned (.agg #[.pointer p, .pointer (some a)]) ∧ Kept (fun _ => False) w w' := by
  have hk : Kept (fun _ => False) w (w.alloc (.cells #[.pointer none, .pointer none] 196)) := Kept.alloc _ _
  have h2 := cell_keep h hk id
  have hp2 := hp.kept hk
  clear hk h hp
  go_enter Tryz.func79, Tryz.ntmps79
  go_wp2_with (first | (go_at_call 51; refine (cstep_nil _).mono ?_; rintro e w' ⟨rfl, rfl⟩) | (go_at_call 100; refine (ptr_load_mb _ p _ h2 hp2).mono ?_; rintro e w' ⟨rfl, rfl⟩))
  have c0 := (Blk.new w 196 #[.pointer p, .pointer (some a)]).cell 0
  have c1 := (Blk.new w 196 #[.pointer p, .pointer (some a)]).cell 1
  refine bodyPost_ret (v := .agg #[.pointer p, .pointer (some a)]) ?_ rfl ⟨rfl, Kept.alloc _ _⟩
  simp only [List.getElem?_toArray, List.getElem?_cons_zero, List.getElem?_cons_succ] at c0 c1
  simp [results, Tryz.f79, go_sem, c0, c1]
theorem held_value_mb (a : Option Addr) (p : Option Addr) (v : Value) (w : World) (h : BoxV 214 p v w) : Calls Tryz.prog 81 #[.agg #[.pointer p, .pointer a]] w fun e w' => e = .returned v ∧ Kept (fun _ => False) w w' := by
  have hk : Kept (fun _ => False) w (w.alloc (.cells #[.pointer p, .pointer a] 196)) := Kept.alloc _ _
  have h2 := h.kept hk
  rcases h2 with ⟨rfl, rfl⟩ | ⟨K, b, rfl, hb⟩
  · go_enter Tryz.func81, Tryz.ntmps81
    go_wp2
    go_ret
    exact ⟨rfl, Kept.alloc _ _⟩
  · have hc : (w.alloc (.cells #[.pointer (some ⟨K, 0, none⟩), .pointer a] 196)).cell? ⟨K, 0, none⟩ = some v := hb.cell 0
    clear h hk hb
    go_enter Tryz.func81, Tryz.ntmps81
    go_wp2
    go_ret
    exact ⟨rfl, Kept.alloc _ _⟩
theorem ptr_cas_mb (a : Addr) (x y : Option Addr) (w : World) (h : w.cell? a = some (.pointer x)) (hz : w.frozen? a = false) (hx : HeldP 214 x w) (hy : HeldP 214 y w) : Calls Tryz.prog 102 #[.pointer (some a), .pointer x, .pointer y] w fun e w' => e = .returned (.bool true) ∧ w.setCell a (.pointer y) = w' := by
  have hcas := run_call_casp (P := Tryz.prog) Tryz.func74 (by kernel_rfl) (by kernel_rfl) (by kernel_rfl) (by kernel_rfl) (y := y) (same_self x w) h hz
  have e1 := to_mb x w hx
  have e2 := to_mb y w hy
  clear hx hy
  go_enter Tryz.func102, Tryz.ntmps102
  go_wp2
  go_ret
  exact ⟨rfl, rfl⟩
set_option maxRecDepth 100000 in
theorem box_cas_mb (a : Addr) (p : Option Addr) (v : Value) (n c : Nat) (A : Option Addr) (w : World) (h : w.cell? a = some (.pointer p)) (hz : w.frozen? a = false) (hp : HeldP 214 p w) (hv : v = .slice A n c) : Calls Tryz.prog 82 #[.pointer (some a), .nilIface, .agg #[.pointer p, .pointer (some a)], v] w fun e w' => e = .returned (.bool true) ∧ Kept (fun b => b = a.block) w w' ∧
    ∃ K, w.heap.size ≤ K ∧ Blk w' K 214 #[v, .int .i64 0] ∧ ∃ w1, Kept (fun _ => False) w w1 ∧ K < w1.heap.size ∧ w' = w1.setCell a (.pointer (some ⟨K, 0, none⟩)) := by
  obtain ⟨j, hj⟩ : ∃ j, Tryz.prog.info? 134 = some j := Option.isSome_iff_exists.1 (by kernel_rfl)
  have heq := eql_ptr_same (t := 194) a Tryz.underlying194 hj
  clear hj
  subst hv
  go_enter Tryz.func82, Tryz.ntmps82
  have hk0 : Kept (fun _ => False) w (w.alloc (.cells #[.pointer p, .pointer (some a)] 196)) := Kept.alloc _ _
  have h2 := cell_keep h hk0 id
  have z2 := froz_keep hz h hk0 id
  have hp2 := hp.kept hk0
  have hb6 := Blk.new w 196 #[.pointer p, .pointer (some a)]
  have HS := Lib.hid (And.intro h2 (And.intro z2 (And.intro hp2 (And.intro hb6 hk0))))
  have hlt := cell_lt h
  have hne : w.heap.size ≠ a.block := by omega
  clear h hz hp hk0 h2 z2 hp2 hb6 hlt
  go_wp2_with (go_at_call 51; refine (cstep_nil _).mono ?_; rintro e w' ⟨rfl, rfl⟩)
  generalize hw0 : w.alloc (.cells #[.pointer p, .pointer (some a)] 196) = u at *
  obtain ⟨b6, hb6⟩ : ∃ b6, w.heap.size = b6 := ⟨_, rfl⟩
  rw [hb6] at HS hne ⊢
  rename_i K0 hK0
  refine strictL ?_
  refine wp_region_held (S := Kept (fun b => b = a.block) u) (by kernel_rfl) ?_
  simp only [List.size_toArray, List.length_cons, List.length_nil, Nat.reduceAdd]
  have HW1 : Hid (Kept (fun b => b = a.block) u { u with drawn := u.drawn + 1 }) := Lib.hid (Kept.drew u)
  iterate 12
    first
    | refine rdL 0 15 13 ?_
    | refine rdL 1 14 14 ?_
    | refine rdL 2 13 15 ?_
    | refine rdL 3 12 16 ?_
    | refine rdL 4 11 17 ?_
    | refine rdL 5 10 18 ?_
    | refine rdL 6 9 19 ?_
    | refine rdL 7 8 20 ?_
    | refine rdL 8 7 21 ?_
    | refine rdL 9 6 22 ?_
    | refine rdL 10 5 23 ?_
    | refine rdL 11 4 24 ?_
    refine ⟨_, rfl, rfl, by kernel_rfl, by kernel_rfl, by kernel_rfl, (fun c a w h => by cases h.1), rfl, HW1.out, ?_⟩
    apply Exists.intro
    refine ⟨fun wq hw => ?_, ?_⟩
    · have hb := HS.out.2.2.2.1.kept hw hne
      have c0 : wq.cell? ⟨b6, 0, none⟩ = some (.pointer p) := hb.cell 0
      have c1 : wq.cell? ⟨b6, 1, none⟩ = some (.pointer (some a)) := hb.cell 1
      clear hb
      go_simp
      rfl
    simp only [Act.put, List.setIfInBounds_toArray, List.set_cons_zero, List.set_cons_succ]
  refine oneL (i := 12) (fuel := 3) (by kernel_rfl) rfl rfl fun K hK' => ?_
  unfold Oper.wp
  go_simp
  have hk1 : Kept (fun _ => False) u (u.drew.alloc (.cells #[.slice A n c, .int .i64 0] 214)) := (Kept.drew u).trans (Kept.alloc _ _)
  have hbK := Blk.new u.drew 214 #[.slice A n c, .int .i64 0]
  refine hK' _ _ (hk1.mono fun _ _ z => z.elim) ?_
  clear hK' K
  refine oneL (i := 13) (fuel := 2) (by kernel_rfl) rfl rfl fun K hK' => ?_
  unfold Oper.wp
  go_simp
  refine (ptr_cas_mb a p (some ⟨u.heap.size, 0, none⟩) _ (cell_keep HS.out.1 hk1 id) (froz_keep HS.out.2.1 HS.out.1 hk1 id) (HS.out.2.2.1.kept hk1) (.inr ⟨_, _, _, rfl, hbK⟩)).mono ?_
  rintro e w' ⟨rfl, rfl⟩
  dsimp only
  have hk2 : Kept (fun b => b = a.block) u ((u.drew.alloc (.cells #[.slice A n c, .int .i64 0] 214)).setCell a (.pointer (some ⟨u.heap.size, 0, none⟩))) := (hk1.mono fun _ _ z => z.elim).trans (Kept.setCell _ (by rfl) _)
  refine hK' _ _ hk2 ?_
  clear hK' K
  refine rdL 14 1 27 ?_
  refine ⟨_, rfl, rfl, by kernel_rfl, by kernel_rfl, by kernel_rfl, (fun c a w h => by cases h.1), rfl, hk2, ?_⟩
  apply Exists.intro
  refine ⟨fun wq hw => ?_, ?_⟩
  · go_simp
    rfl
  simp only [Act.put, List.setIfInBounds_toArray, List.set_cons_zero, List.set_cons_succ]
  refine oneL (i := 15) (fuel := 0) (by kernel_rfl) rfl rfl fun K hK' => ?_
  unfold Oper.wp
  go_simp
  have HF := Lib.hid (And.intro hk1 hbK)
  have HF2 := Lib.hid hk2
  have hla : a.block < u.heap.size := cell_lt HS.out.1
  clear hk1 hbK hk2
  refine hK' _ _ HF2.out ?_
  clear hK' K
  refine wpAnyH_done (by kernel_rfl) ⟨rfl, ?_⟩ _
  refine hK0 _ _ ?_
  go_wp2
  go_ret
  have hwu := HS.out.2.2.2.2
  exact ⟨rfl, (hwu.mono fun _ _ z => z.elim).trans HF2.out, u.heap.size, hwu.size, HF.out.2.far (by simp; omega) _, _, hwu.trans HF.out.1, by simp, rfl⟩
end Go.Proofs.YtbmjmamodnapiaaGreatDoor
