/- ArmDivides: what it computes, for every two numbers. -/
import Derived.Test.YtbepakbjinhjcaaGreatDoorKc
import Derived.OpenShut
namespace Go.Proofs.YtbepakbjinhjcaaGreatDoor.W23
open Go Go.RowKit Go.Proofs.YtbepakbjinhjcaaGreatDoor.Ev
set_option linter.unusedVariables false
set_option linter.unusedSimpArgs false
noncomputable section
/-! ### What words are read as -/
theorem tabS_run {P : Program} {N W n f : Nat} {ok : List FuncId} {T : Tab} {args : List AV} {v : AV} (hW : 0 < W) (h : tabS P N W ok T n f args = some v) : ∃ s, DD P N ok (TSs T) n f = some s ∧ s [] 0 args (fun v _ _ => some v) = some v := by
  unfold tabS at h
  split at h
  · rename_i sq hs
    obtain ⟨s, h1, h2⟩ := DQS_ref (δ := dC) (r := v) (tab_ref T) (tab_none T) n f sq hs
    exact ⟨s, h1, h2 _ _ _ _ _ _ (HQ.empty hW) (fun v q h b _ hk => hk) h⟩
  · cases h
/-- It is read as this. -/
def Reads (w : Int) (v : AV) : Prop := ∃ s, DD Tryz.prog 300 okl (TSs T1) 30 12 = some s ∧ s [] 0 [.int .u32 w] (fun v _ _ => some v) = some v
theorem reads_sound {R : Type} {l : List (Int × AV)} (h0 : l ≠ []) (hl : ∀ p ∈ l, flat 3 p.2 = true ∧ Reads p.1 p.2) : SoundSpec Tryz.prog 12 (entS (.hint .u32 l) : Ev.Spec R) := by
  cases l with
  | nil => exact absurd rfl h0
  | cons p t =>
    obtain ⟨s, h1, _⟩ := (hl p (by simp)).2
    refine hint_sound (DD_spec okl_ok.symm T1_ok rfl h1) fun q hq => ?_
    obtain ⟨g1, s', g2, g3⟩ := hl q hq
    rw [h1] at g2
    cases g2
    exact ⟨g1, g3⟩
def hmov (A B : Nat) : List (Int × AV) := [(.ofNat (zw 1 (pt A 0)), ai 0 0 true 1 0 0 0 (pt A 0)), (.ofNat (kw 1 1 (pt A 1)), ai 1 1 true 1 0 0 0 (pt A 1)), (.ofNat (kw 2 1 (pt A 2)), ai 1 2 true 1 0 0 0 (pt A 2)), (.ofNat (kw 3 1 (pt A 3)), ai 1 3 true 1 0 0 0 (pt A 3)),
  (.ofNat (zw 2 (pt B 0)), ai 0 0 true 2 0 0 0 (pt B 0)), (.ofNat (kw 1 2 (pt B 1)), ai 1 1 true 2 0 0 0 (pt B 1)), (.ofNat (kw 2 2 (pt B 2)), ai 1 2 true 2 0 0 0 (pt B 2)), (.ofNat (kw 3 2 (pt B 3)), ai 1 3 true 2 0 0 0 (pt B 3))]
theorem hmov_reads (A B : Nat) : ∀ p ∈ hmov A B, flat 3 p.2 = true ∧ Reads p.1 p.2 := by
  intro p hp
  simp only [hmov, List.mem_cons, List.not_mem_nil, or_false] at hp
  rcases hp with rfl | rfl | rfl | rfl | rfl | rfl | rfl | rfl <;> refine ⟨rfl, ?_⟩ <;> first | exact movz (by decide) (pt_lt _ _) | exact movk (by decide) (by decide) (pt_lt _ _)
def hdiv (w : Bool) : List (Int × AV) := [(.ofNat ((bif w then 2147483648 else 0) + 448923683), ai 10 0 w 3 1 2 0 0), (.ofNat ((bif w then 2147483648 else 0) + 453149796), ai 11 0 w 4 3 2 1 0), (.ofNat ((bif w then 2147483648 else 0) + 1241776224), ai 8 0 w 0 3 4 0 0), (.ofNat 3596551104, ai 23 0 false 0 0 0 0 0)]
def clW : List Int := [.ofNat 2596407331, .ofNat 2600633444, .ofNat 3389259872, .ofNat 3596551104]
def clN : List Int := [.ofNat 448923683, .ofNat 453149796, .ofNat 1241776224, .ofNat 3596551104]
abbrev T4 (A B : Nat) (w : Bool) : Tab := (12, .hint .u32 (hdiv w ++ hmov A B)) :: T3
def args (A B : Nat) (w : Bool) : List AV := [.int .u64 (.ofNat A), .int .u64 (.ofNat B), .bool w]
def run (A B : Nat) (w : Bool) : Way3 := tabO Tryz.prog 300 7 okl (T4 A B w) 30 6 (args A B w)
def OE : List (Nat × Bool) := [(56, false), (0, false), (0, false), (0, false), (0, true), (3, false), (45, false), (0, false), (0, false), (0, false), (0, false), (0, true), (3, false), (45, false), (0, false), (0, false), (0, false), (0, false), (0, false), (0, true), (3, false), (45, false), (0, false), (0, false), (0, false), (0, false), (0, false), (0, false), (0, true), (3, false), (45, false), (0, false), (0, false), (0, false), (0, false), (0, false), (0, false), (0, false), (0, true), (3, false), (45, false), (0, false), (0, false), (0, false), (0, false), (0, false), (0, false), (0, false), (0, false), (0, true), (3, false), (45, false), (0, false), (0, false), (0, false), (0, false), (0, false), (0, false), (0, false), (0, false), (0, false), (0, true), (3, false), (45, false), (0, false), (0, false), (0, false), (0, false), (0, false), (0, false), (0, false), (0, false), (0, false), (0, false), (0, true), (3, false)]
def OR : List (Nat × Bool) := [(798, false), (0, false), (0, false), (0, false), (0, true), (50, false), (0, false), (0, false), (0, false), (0, false), (0, true), (55, false), (0, false), (0, false), (0, false), (0, false), (0, false), (0, true), (55, false), (0, false), (0, false), (0, false), (0, false), (0, false), (0, false), (0, true), (55, false), (0, false), (0, false), (0, false), (0, false), (0, false), (0, false), (0, false), (0, true), (50, false), (0, false), (0, false), (0, false), (0, false), (0, false), (0, false), (0, false), (0, false), (0, true), (55, false), (0, false), (0, false), (0, false), (0, false), (0, false), (0, false), (0, false), (0, false), (0, false), (0, true), (55, false), (0, false), (0, false), (0, false), (0, false), (0, false), (0, false), (0, false), (0, false), (0, false), (0, false), (0, true)]
def nz (x : Int) : Bool := bif eqQ x 0 then false else true
def yz (x : Int) : Bool := bif nz x then false else true
def lo (x : Int) : Int := wrapQ .u64 (wrapQ .u32 x)
def low (A : Nat) : Int := andQ .u64 (.ofNat A) (.ofNat 4294967295)
def rest (a b q : Int) : Int := wrapQ .u64 (subQ a (wrapQ .u64 (mulQ q b)))
def valW (A B : Nat) : Bool := xorQ .u64 (quoQ .u64 (regQ A) (regQ B)) (rest (regQ A) (regQ B) (quoQ .u64 (regQ A) (regQ B))) == xorQ .u64 (quoQ .u64 (.ofNat A) (.ofNat B)) (remQ (.ofNat A) (.ofNat B)) && true
def valW0 (A B : Nat) : Bool := xorQ .u64 0 (rest (regQ A) (regQ B) 0) == xorQ .u64 0 (.ofNat A) && true
def valN (A B : Nat) : Bool := lo (xorQ .u64 (lo (lo (quoQ .u64 (lo (regQ A)) (lo (regQ B))))) (lo (lo (rest (lo (regQ A)) (lo (regQ B)) (lo (lo (quoQ .u64 (lo (regQ A)) (lo (regQ B))))))))) == xorQ .u64 (quoQ .u64 (low A) (low B)) (remQ (low A) (low B)) && true
def valN0 (A B : Nat) : Bool := lo (xorQ .u64 0 (lo (lo (rest (lo (regQ A)) (lo (regQ B)) 0)))) == xorQ .u64 0 (low A) && true
set_option maxRecDepth 1000000
theorem run_w (A B : Nat) : flwC (run A B true) (OE ++ ((239, true) :: (0, false) :: (0, false) :: (OR ++ [(77, true), (0, false)]))) [] = some (.bool (valW A B), (encC clW [] (parts A B) ++ (nz (.ofNat B) :: nz (.ofNat B) :: nz (.ofNat B) :: (runC clW [] (parts A B) ++ [nz (regQ B), nz (regQ B)]))).reverse) := by kernel_rfl
theorem run_w0 (A B : Nat) : flwC (run A B true) (OE ++ ((239, false) :: (OR ++ [(77, false)]))) [] = some (.bool (valW0 A B), (encC clW [] (parts A B) ++ (yz (.ofNat B) :: (runC clW [] (parts A B) ++ [yz (regQ B)]))).reverse) := by kernel_rfl
end
end Go.Proofs.YtbepakbjinhjcaaGreatDoor.W23
