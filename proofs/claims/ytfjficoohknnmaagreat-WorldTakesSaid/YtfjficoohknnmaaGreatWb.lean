/- WorldTakes: what it computes, for every number of a helper. -/
import Derived.Test.YtfjficoohknnmaaGreatWa
import Derived.OpenShut
namespace Go.Proofs.YtfjficoohknnmaaGreat.W12
open Go Go.RowKit Go.Proofs.YtfjficoohknnmaaGreat.Ev
set_option linter.unusedVariables false
set_option linter.unusedSimpArgs false
noncomputable section
/-- A helper's number, and what a world is made of: not known. -/
def argsT (n : Int) : List AV := [.int .i32 n, .agg [.cell, .cell, .cell, .cell, .cell, .cell, .cell]]
abbrev TK : Known := oneK 7
def runT (n : Int) : Way3 := quickO Tryz.prog 30 7 okl TK 30 6 (argsT n)
def far (n : Int) : List Bool := List.replicate 49 true ++ [ltQ 10 (wrapQ .i64 n), true, bif ltQ (wrapQ .i64 n) 1 then false else true, bif eqQ n 7 then false else true, bif eqQ n 2 then false else true, bif eqQ n 6 then false else true, bif eqQ n 3 then false else true, bif eqQ n 1 then false else true, bif eqQ n 10 then false else true, bif eqQ n 9 then false else true, bif eqQ n 8 then false else true, bif eqQ n 5 then false else true, bif eqQ n 4 then false else true, true]
def low (n : Int) : List Bool := List.replicate 51 true ++ [ltQ (wrapQ .i64 n) 1, bif eqQ n 7 then false else true, bif eqQ n 2 then false else true, bif eqQ n 6 then false else true, bif eqQ n 3 then false else true, bif eqQ n 1 then false else true, bif eqQ n 10 then false else true, bif eqQ n 9 then false else true, bif eqQ n 8 then false else true, bif eqQ n 5 then false else true, bif eqQ n 4 then false else true, true]
set_option maxRecDepth 1000000
theorem far_run (n : Int) : flw (auto 1000 (runT 11)) (runT n) [] = some (.bool true, far n) := by kernel_rfl
theorem low_run (n : Int) : flw (auto 1000 (runT (-5))) (runT n) [] = some (.bool true, low n) := by kernel_rfl
abbrev closedT (n : Int) : Bool := quickT Tryz.prog 30 7 okl TK 30 6 (argsT n)
theorem run1 : true = closedT 1 := by kernel_rfl
theorem run2 : true = closedT 2 := by kernel_rfl
theorem run3 : true = closedT 3 := by kernel_rfl
theorem run4 : true = closedT 4 := by kernel_rfl
theorem run5 : true = closedT 5 := by kernel_rfl
theorem run6 : true = closedT 6 := by kernel_rfl
theorem run7 : true = closedT 7 := by kernel_rfl
theorem run8 : true = closedT 8 := by kernel_rfl
theorem run9 : true = closedT 9 := by kernel_rfl
theorem run10 : true = closedT 10 := by kernel_rfl
theorem neq_true {a b : Int} (h : a ≠ b) : (bif eqQ a b then false else true) = true := by
  rw [neQ_eq]; simpa using h
theorem takes (n : Int) (h : -2147483648 ≤ n ∧ n ≤ 2147483647) : ∃ s, DD Tryz.prog 30 okl (KSs TK) 30 6 = some s ∧ s [] 0 (argsT n) (fun v _ _ => some v) = some (.bool true) := by
  have hb : ∀ x : Nat, x < 9223372036854775808 → Nat.ble 9223372036854775808 x = false := fun x hx => by
    cases hb : Nat.ble 9223372036854775808 x with
    | false => rfl
    | true => have := Nat.le_of_ble_eq_true hb; omega
  have hw : wrapQ .i64 n = n := by
    show wS 9223372036854775808 .i64 n = n
    cases n with
    | ofNat x => simp only [wS, hb x (by simp only [Int.ofNat_eq_natCast] at h; omega), cond_false]
    | negSucc x => simp only [wS, hb x (by omega), cond_false]
  by_cases h1 : n < 1
  · refine quickO_run (by decide) (low_run n) fun t ht => ?_
    simp only [low, hw, List.mem_append, List.mem_replicate, List.mem_cons, List.not_mem_nil, or_false] at ht
    rcases ht with ⟨_, rfl⟩ | rfl | rfl | rfl | rfl | rfl | rfl | rfl | rfl | rfl | rfl | rfl | rfl <;> first
      | rfl
      | exact neq_true (by omega)
      | exact (ltQ_iff _ _).2 (by omega)
  · by_cases h2 : 10 < n
    · refine quickO_run (by decide) (far_run n) fun t ht => ?_
      simp only [far, hw, List.mem_append, List.mem_replicate, List.mem_cons, List.not_mem_nil, or_false] at ht
      rcases ht with ⟨_, rfl⟩ | rfl | rfl | rfl | rfl | rfl | rfl | rfl | rfl | rfl | rfl | rfl | rfl | rfl | rfl <;> first
        | rfl
        | exact neq_true (by omega)
        | exact (ltQ_iff _ _).2 (by omega)
        | (rw [leQ_eq]; simp; omega)
    · have : n = 1 ∨ n = 2 ∨ n = 3 ∨ n = 4 ∨ n = 5 ∨ n = 6 ∨ n = 7 ∨ n = 8 ∨ n = 9 ∨ n = 10 := by omega
      rcases this with rfl | rfl | rfl | rfl | rfl | rfl | rfl | rfl | rfl | rfl
      · exact quickT_run (by decide) run1
      · exact quickT_run (by decide) run2
      · exact quickT_run (by decide) run3
      · exact quickT_run (by decide) run4
      · exact quickT_run (by decide) run5
      · exact quickT_run (by decide) run6
      · exact quickT_run (by decide) run7
      · exact quickT_run (by decide) run8
      · exact quickT_run (by decide) run9
      · exact quickT_run (by decide) run10
theorem calls (n : Int) (hn : (Lit.int .i32 n).wf = true) (v : Value) (hv : VR (fun _ => none) (.agg (List.replicate 7 .cell)) v) (W : World) :
    Calls Tryz.prog 6 #[.int .i32 n, v] W fun e w' => e = .returned (.bool true) ∧ Below W.heap.size W w' := by
  obtain ⟨s, h1, h2⟩ := takes n (Go.bounds_i32 hn)
  have hc : CR (fun _ => none) (argsT n) [.int .i32 n, v] := ⟨rfl, fun i a b => match i, a, b with
    | 0, _, _ => .int .i32 n
    | 1, _, _ => hv
    | i + 2, a, _ => absurd a (by simp [argsT])⟩
  exact law_calls (xs := #[.int .i32 n, v]) (DD_sound okl_ok.symm known_sound 30 _ s h1) rfl h2 hc W
end
end Go.Proofs.YtfjficoohknnmaaGreat.W12
