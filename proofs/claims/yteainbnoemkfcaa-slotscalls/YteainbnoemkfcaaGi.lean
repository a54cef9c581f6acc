/- DERIVED. A run by a schedule on a ring of slots (package slots: Play), whatever is handed in. -/
import Derived.Test.YteainbnoemkfcaaGh
import Derived.Test.YteainbnoemkfcaaGg
set_option linter.unusedVariables false
namespace Go.Proofs.Yteainbnoemkfcaa
open Go.RowKit Go.Turn Go.Tame Go.Conc
def thereT {A R : Type} (l : RLens A) (n : Nat) (q : Int) (s : A × R) (k : Bool → A × R → Tree (A × R) (A × R)) : Tree (A × R) (A × R) :=
  .yield s fun s1 => k ((l.get s1.1).1 (q % n).toNat == 2 * (q / n)) s1
def highT {A R : Type} (l : RLens A) (n : Nat) : Nat → Int → A × R → (Int → A × R → Tree (A × R) (A × R)) → Tree (A × R) (A × R)
  | 0, q, s, k => k (q - 1) s
  | j + 1, q, s, k => thereT l n q s fun b s' => if b then highT l n j (q + 1) s' k else k (q - 1) s'
end Go.Proofs.Yteainbnoemkfcaa
namespace Go.Proofs.Yteainbnoemkfcaa
open Go.RowKit Go.Turn Go.Tame Go.Conc
structure OutRow (D : OpsD) (w0 : World) (H : Nat → Prop) (w : World) (v : Value) (ls : List Int) : Prop where
  own : w.ownsRow w0.heap.size 2 1 v ls.length (ls.map (Value.int .i64))
  nh : ∀ b, v.ownBlock = some b → ¬ H b ∧ ¬ D.RB b
section
variable {D : OpsD} {Cap : (Nat → Prop) → World → Prop} {H0 H H' : Nat → Prop} {w0 w w' y : World} {s s' : D.St} {v : Value} {ls : List Int}
theorem OutRow.nil : OutRow D w0 H w (.slice none 0 0) [] := ⟨own_nil _ _ _ _, fun b hb => by simp [Value.ownBlock] at hb⟩
theorem OutRow.blk (h : OutRow D w0 H w v ls) {b : Nat} (hb : v.ownBlock = some b) : w0.heap.size ≤ b ∧ ∃ cur, w.heap[b]? = some (.cells cur 2 (0, 0)) := by
  rcases h.own.2 with ⟨e, _⟩ | ⟨g, cap, cur, e, hg, k, _⟩
  · rw [e] at hb; simp [Value.ownBlock] at hb
  · rw [e] at hb; simp only [Value.ownBlock, Option.some.injEq] at hb; subst hb; exact ⟨hg, cur, k⟩
theorem OutRow.held (h : OutRow D w0 H w v ls) (hh : Held H w H' w') : OutRow D w0 H' w' v ls := by
  have key : ∀ b, v.ownBlock = some b → w'.heap[b]? = w.heap[b]? ∧ ¬ H' b := fun b hb => by
    obtain ⟨_, cur, k⟩ := h.blk hb
    obtain ⟨h1, h2⟩ := hh.block b cur _ (0, 0) k (h.nh b hb).1 (.inl (by decide))
    exact ⟨h1.trans k.symm, h2⟩
  exact ⟨own_same h.own fun b hb => (key b hb).1, fun b hb => ⟨(key b hb).2, (h.nh b hb).2⟩⟩
theorem OutRow.re {τ : Nat → Question → Nat} {n : Nat} (h : OutRow D w0 H (y.re τ n) v ls) : OutRow D w0 H y v ls := ⟨h.own, h.nh⟩
theorem OutRow.kept (h : OutRow D w0 H w v ls) (hk : Kept (fun _ => False) w w') : OutRow D w0 H w' v ls :=
  ⟨own_same h.own fun b hb => by obtain ⟨_, cur, k⟩ := h.blk hb; exact hk.block b (lt_of_some k) id, h.nh⟩
theorem Now.grown (h : Now D Cap H0 w0 s H w) {row : Option Nat} (hg : w.grownBy w' row) (hr : ∀ b, row = some b → w0.heap.size ≤ b ∧ ¬ H b ∧ ¬ D.RB b) : Now D Cap H0 w0 s H w' := by
  have same : ∀ b, b < w.heap.size → (H b ∨ D.RB b ∨ b < w0.heap.size) → w'.heap[b]? = w.heap[b]? := fun b hb hc => hg.block b hb fun e => by
    obtain ⟨h1, h2, h3⟩ := hr b e.symm
    rcases hc with hc | hc | hc
    · exact h2 hc
    · exact h3 hc
    · omega
  refine ⟨RepO.law D s H w w' h.rep (fun b hb => same b (h.rep.lt hb) (.inl hb)) fun b c t r hb hx => ⟨r, (same b (lt_of_some hx) (.inr (.inl hb))).trans hx⟩, h.cap0, ⟨Nat.le_trans h.held.size hg.size, fun b c t r hb hn hr => ?_⟩⟩
  obtain ⟨h1, h2⟩ := h.held.block b c t r hb hn hr
  exact ⟨(same b (lt_of_some h1) (.inr (.inr (lt_of_some hb)))).trans h1, h2⟩
end
def gathT {A R : Type} (l : RLens A) (n : Nat) : Nat → Int → List Int → A × R → (List Int → Int → A × R → Tree (A × R) (A × R)) → Tree (A × R) (A × R)
  | 0, _, acc, s, k => k acc 0 s
  | j + 1, q, acc, s, k => if 4611686018427387904 ≤ q then k acc 0 s else
      getT l n q s fun v e s' => if e = 0 then gathT l n j (q + 1) (acc ++ [v]) s' k else if acc = [] then k [] e s' else k acc 0 s'
end Go.Proofs.Yteainbnoemkfcaa
namespace Go.Proofs.Yteainbnoemkfcaa
open Go.RowKit Go.Turn Go.Tame Go.Conc
def InB (q : Int) : Prop := 0 ≤ q ∧ q < 4611686018427387904
instance (q : Int) : Decidable (InB q) := inferInstanceAs (Decidable (_ ∧ _))
section
variable {A R : Type} (l : RLens A) (n : Nat)
def putG (q v : Int) (s : A × R) (k : Int → A × R → Tree (A × R) (A × R)) : Tree (A × R) (A × R) := if InB q then putT l n q v s (k 0) else k 1 s
def getG (q : Int) (s : A × R) (k : Int → Int → A × R → Tree (A × R) (A × R)) : Tree (A × R) (A × R) := if InB q then getT l n q s k else k 0 1 s
def thereG (q : Int) (s : A × R) (k : Bool → A × R → Tree (A × R) (A × R)) : Tree (A × R) (A × R) := if InB q then thereT l n q s k else k false s
def highG (a b : Int) (s : A × R) (k : Int → A × R → Tree (A × R) (A × R)) : Tree (A × R) (A × R) := if InB a ∧ a ≤ b then highT l n (highN n a b) a s k else k (pre64 a) s
def gathG (a m : Int) (s : A × R) (k : List Int → Int → A × R → Tree (A × R) (A × R)) : Tree (A × R) (A × R) := if InB a then gathT l n (min m.toNat n) a [] s k else k [] 1 s
end
theorem highest_less (a : Addr) (sa : Option Addr) (n c : Nat) (S : Value) (q t : Int) (w : World) (h : w.cell? a = some (.slice sa n c)) (hn : 0 < n) (h0 : 0 ≤ q) (h1 : q < 4611686018427387904) (hlt : t < q) :
    Calls Try.prog 27 #[.pointer (some a), S, .int .i64 q, .int .i64 t] w fun e w' => e = .returned (.int .i64 (pre64 q)) ∧ w = w' := by
  have hb : (q == -9223372036854775808) = false := by simp only [beq_eq_false_iff_ne]; omega
  have hp : pre64 q = q - 1 := if_neg (by omega)
  rw [hp]
  clear hp
  go_enter Try.func27, Try.ntmps27
  go_wp2_with (go_at_call 38; refine (good_yes a sa n c q w h hn h0 h1).mono ?_; rintro e w' ⟨rfl, rfl⟩)
  go_ret
  exact ⟨rfl, rfl⟩
theorem bad_at (a : Addr) (sa : Option Addr) (n c : Nat) (q : Int) (w : World) (h : w.cell? a = some (.slice sa n c)) (hq : ¬ InB q) : BadAt (some a) q w := by
  by_cases h0 : q < 0
  · exact bad_low a sa n c q w h h0
  · exact bad_high a sa n c q w h (by unfold InB at hq; omega)
end Go.Proofs.Yteainbnoemkfcaa
namespace Go.Proofs.Yteainbnoemkfcaa
open Go.RowKit Go.Turn Go.Tame Go.Conc
def GI (o : OpI) : Prop := -9223372036854775808 ≤ o.a ∧ o.a < 9223372036854775808 ∧ o.b < 9223372036854775808
def doG (rn : Nat) : DoQ RSt := fun o st k =>
  if o.kind = 1 then putG idL rn o.a o.b st fun e s => k ⟨e == 0, e, []⟩ s
  else if o.kind = 2 then getG idL rn o.a st fun x e s => k ⟨e == 0, wrap64 (e + x), []⟩ s
  else if o.kind = 3 then thereG idL rn o.a st fun b s => k ⟨b, 0, []⟩ s
  else if o.kind = 4 then highG idL rn o.a o.b st fun x s => k ⟨true, x, []⟩ s
  else if o.kind = 5 then gathG idL rn o.a o.b st fun ls e s => k ⟨e == 0, e, ls⟩ s
  else k ⟨false, 0, []⟩ st
theorem OutRow.far {D : OpsD} {w0 w : World} {H : Nat → Prop} {v : Value} {ls : List Int} {b8 : Nat} {cs : Array Value} (h : OutRow D w0 H w v ls) (hb : Blk w b8 46 cs) (i : Nat) (u : Value) : OutRow D w0 H (w.setCell ⟨b8, i, none⟩ u) v ls :=
  ⟨own_same h.own fun b hb' => Below.heap_setCell _ _ _ _ fun e => by
    obtain ⟨_, cur, k⟩ := h.blk hb'
    exact blk_ne (show Blk w b _ _ from k) hb (by decide) e, h.nh⟩
end Go.Proofs.Yteainbnoemkfcaa
namespace Go.Proofs.Yteainbnoemkfcaa
open Go.RowKit Go.Turn Go.Tame Go.Conc
section
variable {D : OpsD} {i : Nat}
end
end Go.Proofs.Yteainbnoemkfcaa
namespace Go.Proofs.Yteainbnoemkfcaa
open Go.RowKit Go.Turn Go.Tame Go.Conc
def RightI (n : Int) : Prop := 1 ≤ n ∧ n ≤ 65536 ∧ (bits BinOp.and IntKind.i64 n (n - 1) != 0) = false
instance (n : Int) : Decidable (RightI n) := by unfold RightI; exact inferInstance
theorem new_bad (n : Int) (w : World) (h : ¬ RightI n) (hr : -9223372036854775808 ≤ n) : Calls Try.prog 12 #[.int .i64 n] w fun e w' => e = .returned (.tuple #[.pointer none, .int .i64 1]) ∧ w = w' := by
  by_cases h1 : n < 1
  · have d1 : decide (n < 1) = true := by simpa using h1
    clear h
    go_enter Try.func12, Try.ntmps12
    go_wp2
    go_ret2
    exact ⟨rfl, rfl⟩
  · have d1 : decide (n < 1) = false := by simpa using h1
    by_cases h2 : 65536 < n
    · have d2 : decide (65536 < n) = true := by simpa using h2
      clear h
      go_enter Try.func12, Try.ntmps12
      go_wp2
      go_ret2
      exact ⟨rfl, rfl⟩
    · have d2 : decide (65536 < n) = false := by simpa using h2
      have d3 : (bits BinOp.and IntKind.i64 n (n - 1) != 0) = true := by
        cases hb : (bits BinOp.and IntKind.i64 n (n - 1) != 0) with
        | true => rfl
        | false => exact absurd ⟨by omega, by omega, hb⟩ h
      clear h
      go_enter Try.func12, Try.ntmps12
      go_wp2
      go_ret2
      exact ⟨rfl, rfl⟩
theorem NumsIn.lt {w : World} {A : Option Addr} {c : Nat} {xs : List Int} (h : NumsIn w A c xs) {i : Nat} (hi : i < xs.length) : ∃ b o, A = some ⟨b, o, none⟩ ∧ w.cell? ⟨b, o + i, none⟩ = some (.int .i64 (xs.getD i 0)) := h.cells i hi
end Go.Proofs.Yteainbnoemkfcaa
namespace Go.Proofs.Yteainbnoemkfcaa
open Go.RowKit Go.Turn Go.Tame Go.Conc
def doN : DoQ RSt := fun _ st k => k ⟨false, 0, []⟩ st
end Go.Proofs.Yteainbnoemkfcaa
namespace Go.Proofs.Yteainbnoemkfcaa
open Go.RowKit Go.Turn Go.Tame Go.Conc
def rnOf : List Int → Nat
  | [] => 0
  | n :: _ => if RightI n then n.toNat else 0
def s0Of : List Int → RSt
  | [] => (fun _ => 0, fun _ => 0)
  | n :: vs => if RightI n then begS n.toNat vs vs.length else (fun _ => 0, fun _ => 0)
def doA (rn : Nat) : DoQ RSt := if rn = 0 then doN else doG rn
def ringRI (rn b : Nat) : RI := ⟨RAt (b + 1) b rn, fun x => x = b + 1 ∨ x = b, RAt.law⟩
noncomputable def playS (ss : List Int) (ops : Nat → List OpI) (nt : Nat) (xs : List Int) (most : Int) : Run RSt2 := playRun (brQ (fun _ => doA (rnOf ss)) ops) (min nt 64) (heldI most 1048576).toNat xs (s0Of ss, fun _ => [])
theorem play_calls (hP : Prog Try.prog) (Post : Value → World → Prop) (W0 : World) (rn : Nat) (hrn : 0 < rn) (hr2 : rn ≤ 65536) (hbt : (bits BinOp.and IntKind.i64 (rn : Int) ((rn : Int) - 1) != 0) = false) (vs : List Int) (hlen : vs.length ≤ 4611686018427387903) (sA : Option Addr) (sc : Nat)
    (good : OpI → Prop) (doT : Nat → DoQ RSt) (Tb To nt cp : Nat) (hnt : nt ≤ maxLen) (A : Nat → Option Addr) (len cap : Nat → Nat) (ops : Nat → List OpI) (sv : Value) (xs : List Int) (most : Int) (w0 : World) (hW : W0.heap.size ≤ w0.heap.size)
    (hstart : NumsIn w0 sA sc ((rn : Int) :: vs)) (hrows : RowsAt w0 Tb To (min nt 64) A len cap) (hin : OpsCells W0 good w0 (min nt 64) A len ops) (hsch : SchI W0 sv xs (fun b => ∃ i o, i < min nt 64 ∧ A i = some ⟨b, o, none⟩) w0)
    (hD : ∀ (rb sb : Nat) (B : OpsB) i, DoLaw (B.on (ringI rb sb rn) good) i (doT i) 32 #[.pointer (some ⟨rb, 0, none⟩)] #[]) (hO : ∀ (rb sb : Nat) (B : OpsB) i, DoOk (B.on (ringI rb sb rn) good) i (doT i)) :
    Ccalls (lgA hP Post W0) 10 #[.slice sA (vs.length + 1) sc, .slice (some ⟨Tb, To, none⟩) nt cp, sv, .int .i64 most] () w0 fun v _ w' => PlayDone W0 rn (playRun (brQ doT ops) (min nt 64) (heldI most 1048576).toNat xs (begS rn vs vs.length, fun _ => [])) (min nt 64) w0 v w' := by
  refine play_gen hP Post W0 rn _ (ringRI rn) (fun b => some ⟨b + 1, 0, none⟩) sA _ sc good doT (some ⟨Tb, To, none⟩) Tb To nt cp (fun _ => rfl) hnt A len cap ops sv xs most w0 hW (fun z hz => ?_) (fun b s w h => state_ok w (b + 1) b rn _ _ h.r) hrows hin hsch (fun b B i => hD (b + 1) b B i) (fun b B i => hO (b + 1) b B i)
  refine (begun_ok z sA sc rn vs hrn hr2 hbt (hstart.blocks hz.block) hlen).mono ?_
  rintro e w' ⟨rfl, H1, B1, Z1, N1, N2⟩
  refine ⟨rfl, ⟨H1, N2, N1⟩, B1, fun b hb => ?_⟩
  rcases hb with rfl | rfl
  · obtain ⟨c, t, e⟩ := N2; exact ⟨⟨c, t, _, e, by decide⟩, by omega⟩
  · obtain ⟨c, t, e⟩ := N1; exact ⟨⟨c, t, _, e, by decide⟩, by omega⟩
end Go.Proofs.Yteainbnoemkfcaa
