/- XsixDivides: what is known, and the run. -/
import Derived.Test.YtipigcgegmedeaaGreatXf
import Derived.Test.YtipigcgegmedeaaGreatDd
import GoSem.Extern.MathBitsCarry
namespace Go.Proofs.YtipigcgegmedeaaGreat.W21
open Go Go.RowKit Go.Proofs.YtipigcgegmedeaaGreat.Ev
set_option linter.unusedVariables false
noncomputable section
set_option maxRecDepth 1000000
def dq0 : Row := row 5 0 true 10 0 0 0 [73, 247, 242]
theorem dq0_ok : true = rowB 9 dq0 := by kernel_rfl
def dq1 : Row := row 4 0 true 0 10 0 0 [73, 15, 175, 194]
theorem dq1_ok : true = rowB 9 dq1 := by kernel_rfl
def dq2 : Row := row 2 0 true 0 2 0 0 [72, 1, 208]
theorem dq2_ok : true = rowB 18 dq2 := by kernel_rfl
def divRows : List Row := [dq0, dq1, dq2, r23]
theorem divRows_ok : ∀ r ∈ divRows, LocOk Tryz.prog 0 11 [r.arg] [] r.v (r.news.map some) := by
  intro r hr
  simp only [divRows, List.mem_cons, List.not_mem_nil, or_false] at hr
  rcases hr with rfl | rfl | rfl | rfl
  · exact rowB_ok dq0_ok
  · exact rowB_ok dq1_ok
  · exact rowB_ok dq2_ok
  · exact rows_ok r23 (by simp [rows])
def divOne : Gt → List AV → W3 Frm := rowsG divRows movG
theorem divOne_sound {R : Type} : SoundSpec Tryz.prog 11 (enS (.frm divOne) : Ev.Spec R) := frm_sound ⟨Tryz.f11, Tryz.func11, by kernel_rfl, by kernel_rfl⟩ (rowsG_ok divRows_ok movG_ok)
/-- The sum and its carry. -/
def addX : List AV → Option AV := fun args => match args with
  | [.int .u64 x, .int .u64 y, .int .u64 c] => bif eqQ c 0 then some (.tuple [.int .u64 (.ofNat (Nat.mod (Nat.add x.toNat y.toNat) 18446744073709551616)), .int .u64 (.ofNat (Nat.div (Nat.add x.toNat y.toNat) 18446744073709551616))]) else none
  | _ => none
def addE (args : Array Value) : Sem Value := do
  let (x, y, c) ← Extern.MathBitsCarry.three "Add64" args
  pure (Extern.MathBitsCarry.pair ((x + y + c) % Extern.MathBitsCarry.m64) ((x + y + c) / Extern.MathBitsCarry.m64))
theorem add_ext {R : Type} : SoundX Tryz.prog 77 (pureS addX : Ev.Spec R) := by
  refine ext_sound (fn := Tryz.f77) (e := addE) Tryz.func77 (by kernel_rfl) (by kernel_rfl) (by kernel_rfl) (by kernel_rfl) fun m ar xs v w hv hc => ?_
  unfold addX at hv
  split at hv
  · rename_i x y c
    cases hz : eqQ c 0 with
    | false => rw [hz] at hv; cases hv
    | true =>
      rw [hz, cond_true] at hv
      cases hv
      rw [eqQ_eq] at hz
      have := eq_of_beq hz
      subst this
      obtain ⟨l⟩ := xs
      obtain ⟨hl, hx⟩ := hc
      match l, hl, hx with
      | [a, b, d], _, hx =>
        have h0 := int_real (hx 0 (by simp) (by simp))
        have h1 := int_real (hx 1 (by simp) (by simp))
        have h2 := int_real (hx 2 (by simp) (by simp))
        simp only [List.getElem_cons_zero, List.getElem_cons_succ] at h0 h1 h2
        subst h0; subst h1; subst h2
        refine ⟨.tuple ⟨[.int .u64 (.ofNat ((x.toNat + y.toNat) % 18446744073709551616)), .int .u64 (.ofNat ((x.toNat + y.toNat) / 18446744073709551616))]⟩, ?_, ?_⟩
        · exact .tuple _ _ rfl fun i a b => match i, a, b with
            | 0, _, _ => .int _ _
            | 1, _, _ => .int _ _
            | i + 2, a, _ => absurd a (by simp)
        · rfl
  · cases hv
abbrev B2 : Tb := [(7, .e (.val yes)), (9, .e (.blk (oneArg zs mk_v mk_B))), (77, .e (.val addX)), (80, .frm divG), (11, .frm divOne)]
theorem B2_ok {R : Type} : Sound Tryz.prog (BSs B2 : Specs R) := tb_cons (.inl (yes_tab okl_ok.symm T1_ok rfl (by decide) first_true)) (tb_cons (.inl (laid1_sound okl_ok.symm tab_nil rfl (by decide) mk_run)) (tb_cons (.inr add_ext) (tb_cons (.inl div_sound) (tb_cons (.inl divOne_sound) tb_nil))))
def dargs (h l d : Nat) : List AV := [iN h, iN l, iN d]
def drun (h l d : Nat) : W3 (AV × Blks) := locQ Tryz.prog 300 7 okl B2 30 5 (dargs h l d) [] []
end
end Go.Proofs.YtipigcgegmedeaaGreat.W21
