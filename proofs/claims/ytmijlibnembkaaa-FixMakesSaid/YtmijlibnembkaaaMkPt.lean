/- Plain facts on shape.Target and on jumps: used by the laws of fix and of prune. -/
import Derived.Test.YtmijlibnembkaaaMkPw
import Derived.Test.YtmijlibnembkaaaMkPAx10
namespace Go.Proofs.Ytmijlibnembkaaa.Pure
open Go.RowKit Go.Proofs.Ytmijlibnembkaaa.PA Go.Proofs.YtmijlibnembkaaaW.PrintWords Go.Proofs.YtmijlibnembkaaaW.PrintLast Go.Proofs.YtmijlibnembkaaaX
set_option linter.unusedVariables false
set_option linter.unusedSimpArgs false
theorem pair_eta {α β : Type} (p : α × β) : some (p.1, p.2) = some p := by cases p; rfl
theorem Target_eq (l : List I) (hP : Prog l) (i : Nat) (h : i < l.length) : Evt (fun k => shape_Target.f k l (i : Int)) (if i ∈ begins l then tgt l i else (0, false)) := by
 have hsm := hP.small
 unfold shape_Target.f
 refine Evt.congr (g' := fun k => (shape_Starts.f k l).bind fun t293 => if 0 ≤ (i : Int) then (if (i : Int) < (t293.length : Int) then (if rdOf false t293 (i : Int) = true then ((shape_target.f k l (i : Int)).bind fun bt297 => (some (bt297.1, bt297.2))) else (some (0, false))) else (none)) else (none)) ?_ (fun k => by rw [if_neg (by omega), if_neg (by omega)])
 refine Evt.bind (Evt.of _ fun k hk => Starts_eq l (by omega) hP.ok k hk) ?_
 have hsl := starts_length l
 have hst := starts_get l i h
 by_cases hb : i ∈ begins l
 ·
  rw [if_pos hb]
  refine Evt.congr (g' := fun k => (shape_target.f k l (i : Int)).bind fun bt297 => (some (bt297.1, bt297.2))) ?_ (fun k => by rw [if_pos (by omega), if_pos (by omega), hst, if_pos (by simp [hb])])
  exact Evt.bind (Evt.of 1 fun k hk => target_eq l i h (by omega) hP.ok k hk) (Evt.congr (Evt.const (tgt l i)) (fun k => pair_eta _))
 ·
  rw [if_neg hb]
  exact Evt.congr (Evt.const _) (fun k => by rw [if_pos (by omega), if_pos (by omega), hst, if_neg (by simp [hb])])
theorem jmp_not_wide (x : I) (h : (jmp x).2 = true) (h24 : x.f0 = 24) : False := by
 have h0 : clsB x.f0 = 0 := by rw [cls_eq x.f0 (by omega) (by omega)]; omega
 unfold jmp jumpsC at h
 rw [if_neg (fun hc => by rcases hc.1 with h5 | h6 <;> omega)] at h
 cases h
theorem num1 {T i J : Int} (h : T = i + 1 + J) (h0 : 0 ≤ i) (h1 : i < 1000000) (hJ : -2147483648 ≤ J ∧ J < 2147483648) : wrap64 (wrap64 (T - i) - 1) = J := by unfold wrap64; omega
theorem num2 {T : Int} {n m : Nat} (h : T < n) (e : m = n) : T < (m : Int) := by omega
theorem num3 {T : Int} {n : Nat} (h0 : 0 ≤ T) (h : T < n) : T.toNat < n := by omega
theorem wrap32_id {m : Int} (h : -2147483648 ≤ m ∧ m < 2147483648) : wrap32 m = m := by unfold wrap32; omega
theorem wrap16_id {m : Int} (h : -32768 ≤ m ∧ m < 32768) : IntKind.i16.wrap m = m := by simp [IntKind.wrap, IntKind.bits, IntKind.signed]; omega
theorem tgt_jmp (l : List I) (i : Nat) (ht : (tgt l i).2 = true) : (jmp (rd_T43 l i)).2 = true ∧ (tgt l i).1 = (i : Int) + 1 + (jmp (rd_T43 l i)).1 := by
 unfold tgt at ht ⊢
 split
 ·
  rename_i hh; exact ⟨hh.1, rfl⟩
 ·
  rename_i hh; rw [if_neg hh] at ht; cases ht
theorem jmp_is (x : I) (h : (jmp x).2 = true) : (jmp x).1 = if x.f0 = 133 then x.f4 else x.f3 := by
 unfold jmp jumpsC at h ⊢
 by_cases hc : (clsB x.f0 = 5 ∨ clsB x.f0 = 6) ∧ x.f0 ≠ 149
 ·
  rw [if_pos hc]; split <;> rfl
 ·
  rw [if_neg hc] at h; cases h
end Go.Proofs.Ytmijlibnembkaaa.Pure
