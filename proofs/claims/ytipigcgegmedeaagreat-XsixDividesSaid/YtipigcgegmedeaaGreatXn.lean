/- XsixDivides: the call. -/
import Derived.Test.YtipigcgegmedeaaGreatXmn
import Derived.Test.YtipigcgegmedeaaGreatXmc
import Derived.Test.YtipigcgegmedeaaGreatXmz
import Derived.Test.YtipigcgegmedeaaGreatXmg
namespace Go.Proofs.YtipigcgegmedeaaGreat.W21
open Go Go.RowKit Go.Proofs.YtipigcgegmedeaaGreat.Ev
set_option linter.unusedVariables false
noncomputable section
theorem divides_end {h l d : Nat} {os : List (Nat × Bool)} {c : List Bool} (hr : flw3 (drun h l d) os [] = some ((.bool true, []), c)) (hl : AllT c) : LocOk Tryz.prog 0 5 (dargs h l d) [] (.bool true) [] :=
  loc_of_run okl_ok.symm B2_ok rfl hr (AllT.mem hl) (cov_of rfl rfl (.bool true) rfl) rfl
theorem divides_loc (h l d : Nat) (hh : h < 18446744073709551616) (hl : l < 18446744073709551616) (hd : d < 18446744073709551616) : LocOk Tryz.prog 0 5 (dargs h l d) [] (.bool true) [] := by
  by_cases h0 : d = 0
  · exact divides_end (drun_z h l d) (cond0_true hh hl hd h0)
  · by_cases h1 : d ≤ h
    · exact divides_end (drun_g h l d) (condG_true hh hl hd h0 h1)
    · obtain ⟨c1, c2⟩ := div_conds hh hl hd (Nat.lt_of_not_le h1)
      have e : (sumD h l d == (.ofNat l : Int) && true) = true := by rw [sumD_eq hh hl hd]; simp
      rcases car_or (eqQ (carD h l d) 1) with c | c
      · have r := drun_c h l d
        rw [e] at r
        exact divides_end r (AllT.append c1 ⟨c, c2⟩)
      · have r := drun_n h l d
        rw [e] at r
        exact divides_end r (AllT.append c1 ⟨c, c2⟩)
theorem dividesCalls (a : Int) (ha : (Lit.int .u64 a).wf = true) (b : Int) (hb : (Lit.int .u64 b).wf = true) (c : Int) (hc : (Lit.int .u64 c).wf = true) (W : World) :
    Calls Tryz.prog 5 #[.int .u64 a, .int .u64 b, .int .u64 c] W fun e w' => e = .returned (.bool true) ∧ Below W.heap.size W w' := by
  obtain ⟨a1, a2⟩ := Go.bounds_u64 ha
  obtain ⟨b1, b2⟩ := Go.bounds_u64 hb
  obtain ⟨c1, c2⟩ := Go.bounds_u64 hc
  obtain ⟨A, rfl⟩ := Int.eq_ofNat_of_zero_le a1
  obtain ⟨B, rfl⟩ := Int.eq_ofNat_of_zero_le b1
  obtain ⟨C, rfl⟩ := Int.eq_ofNat_of_zero_le c1
  have hx : CR (fun _ => none) (dargs A B C) [.int .u64 A, .int .u64 B, .int .u64 C] := ⟨rfl, fun i a b => match i, a, b with
    | 0, _, _ => .int .u64 A
    | 1, _, _ => .int .u64 B
    | 2, _, _ => .int .u64 C
    | i + 3, a, _ => absurd a (by simp [dargs])⟩
  exact law_of_loc (xs := #[.int .u64 A, .int .u64 B, .int .u64 C]) (divides_loc A B C (by omega) (by omega) (by omega)) hx W
end
end Go.Proofs.YtipigcgegmedeaaGreat.W21
