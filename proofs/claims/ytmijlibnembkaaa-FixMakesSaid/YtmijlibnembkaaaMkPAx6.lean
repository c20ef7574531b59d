-- Printed by wip/tools/extprint.py over the kit's printer, with contracts of this session's own. Lean checks it.
import Derived.Test.YtmijlibnembkaaaMkPAx0
import Derived.Test.YtmijlibnembkaaaMkPAx5
namespace Go.Proofs.Ytmijlibnembkaaa.PA
open Go.RowKit Go.Proofs.YtmijlibnembkaaaW.PrintWords Go.Proofs.YtmijlibnembkaaaW.PrintLast Go.Proofs.YtmijlibnembkaaaW.PrintMore
attribute [local go_sem] max2_int min2_int max_two min_two max_three min_three max_four min_four   -- for this text's walks alone
set_option linter.unusedVariables false
set_option maxHeartbeats 8000000
set_option maxRecDepth 100000
set_option linter.unusedSimpArgs false

/-! ### shape_Starts: function 22 -/
def shape_Starts.l0 : Nat → List (S43) → List Bool → Int → Option (List Bool)
 | 0, _, _, _ => none
 | k + 1, x0, x3, x4 => if x4 < (x0.length : Int) then ((insn_Plain.f k x0 x4).bind fun bt131 => (if bt131.2 = 0 then (if 0 ≤ x4 then (if x4 < (x3.length : Int) then (shape_Starts.l0 k x0 (x3.set (x4 : Int).toNat true) (wrap64 (x4 + bt131.1))) else (none)) else (none)) else (some x3))) else (some x3)
def shape_Starts.f (k : Nat) (l0 : List (S43)) : Option (List Bool) := if 0 ≤ (l0.length : Int) then (if ((l0.length : Int) : Int).toNat ≤ 281474976710656 then (shape_Starts.l0 k l0 (List.replicate ((l0.length : Int) : Int).toNat false) 0) else (none)) else (none)
theorem shape_Starts.mono_l : ∀ k, (∀ y0 y1 y2, LeO (shape_Starts.l0 k y0 y1 y2) (shape_Starts.l0 (k + 1) y0 y1 y2))
 | 0 => fun _ _ _ r h => by simp [shape_Starts.l0] at h
 | k + 1 => by
  have ih0 := shape_Starts.mono_l k
  ·
   intro y0 y1 y2
   unfold shape_Starts.l0
   repeat' (with_reducible first | apply ih0 | apply insn_Plain.mono | exact LeO.refl _ | exact LeO.none _ | refine LeO.ite ?_ ?_ | refine LeO.bind ?_ (fun _ => ?_))
theorem shape_Starts.mono : ∀ a0 k, LeO (shape_Starts.f k a0) (shape_Starts.f (k + 1) a0) := by
 intro a0 k; have ih0 := shape_Starts.mono_l k
 unfold shape_Starts.f
 repeat' (with_reducible first | apply ih0 | apply insn_Plain.mono | exact LeO.refl _ | exact LeO.none _ | refine LeO.ite ?_ ?_ | refine LeO.bind ?_ (fun _ => ?_))
theorem shape_Starts.calls (k : Nat) (A0 : Option Addr) (c0 : Nat) (l0 : List (S43)) (r : List Bool) (w : World) (hr0 : Kd.C k43 w A0 l0.length l0) (hc0 : l0.length ≤ c0) (h : shape_Starts.f k l0 = some r) :
  Calls Try.prog 22 #[.slice A0 l0.length c0] w fun e w' => ∃ v0_ : Value, e = .returned (v0_) ∧ Kd.R Kd.bool 4 w' w.heap.size (fun _ => True) v0_ r ∧ Below w.heap.size w w' := by
 have HR0 := Aside0.mk hr0; have HC0 := Aside0.mk hc0; clear hr0 hc0; have HB := Aside0.mk (Below.refl w.heap.size w); have H : (if 0 ≤ (l0.length : Int) then (if ((l0.length : Int) : Int).toNat ≤ 281474976710656 then (shape_Starts.l0 k l0 (List.replicate ((l0.length : Int) : Int).toNat false) 0) else (none)) else (none)) = some r := h; clear h
 by_cases c2 : 0 ≤ (l0.length : Int)
 ·
  rw [if_pos c2] at H
  have c2b0 := eq_true c2; have c2b1 := decide_eq_true c2; clear c2
  by_cases c3 : ((l0.length : Int) : Int).toNat ≤ 281474976710656
  ·
   rw [if_pos c3] at H
   have c3b0 := eq_true c3; have c3b1 := decide_eq_true c3; clear c3; obtain ⟨y128, hy128⟩ : ∃ y_ : List Bool, y_ = (List.replicate ((l0.length : Int) : Int).toNat false) := ⟨_, rfl⟩; (first | rw [Option.bind_some, ← hy128] at H | rw [Option.bind_some] at H | rw [← hy128] at H | skip); have Ny128 := Aside0.mk hy128; clear hy128; have H' := Aside0.mk H; clear H; go_enter Try.func22, Try.ntmps22
   go_wp2_with (first | ((with_reducible refine gate_dst (N := 9) rfl ?_); refine Kd.R_make Kd.bool _ 4 rfl (N := 9) rfl 51 _ _ rfl (l0.length : Int) rfl rfl Try.underlying51 (.bool false) 1 info4 rfl (by decide) (by omega) false (ok := fun _ => True) (okp := fun _ => True) rfl (fun _ hk => hk) trivial (of_decide_eq_true as_) (Nat.le_trans (Nat.mul_le_mul_right _ (of_decide_eq_true as_ : (l0.length : Int).toNat ≤ 281474976710656)) (by omega)) (Below.refl _ _) (Nat.le_refl _) ?_; intro v129 w4 ho5 hb hg_ hnew_; clear hg_ hnew_; (first | rw [← Ny128.out] at ho5 | (simp only [Int.reduceToNat] at ho5; rw [← Ny128.out] at ho5)); have n_ : _ ∧ _ := ⟨k_ (Kd.R_lower ho5 (below_size (bl_ HB.out))), k_ (below_step (bl_ HB.out) hb)⟩; clear HB; obtain ⟨HO130, HB⟩ := n_; clear hb ho5))
   go_loopg [4] k (fun kq v4 w' => ∃ (x3_1 : List Bool) (x4_1 : Int), v4 = .int .i64 x4_1 ∧ Aside0 (shape_Starts.l0 kq l0 x3_1 x4_1 = some r) ∧ Aside0 (kq ≤ k) ∧ Aside0 (Kd.R Kd.bool 4 w' w.heap.size (fun _ => True) v129 x3_1) ∧ Aside0 (Below w.heap.size w w'))
   case atStart => exact ⟨(y128), (0), eq_, H', ⟨Nat.le_refl _⟩, ⟨mv_ HO130.out⟩, ⟨bl_ HB.out⟩⟩
   case round =>
    clear H'; clear c2b0 c2b1 c3b0 c3b1; obtain ⟨x3_1, x4_1, rfl, HA, HK1, HO_3, HB⟩ := hrel
    cases gk with
    | zero => exact absurd HA.out (by simp [shape_Starts.l0])
    | succ k1 =>
     have H := HA.out; clear HA; simp only [shape_Starts.l0] at H
     by_cases c6 : x4_1 < (l0.length : Int)
     ·
      rw [if_pos c6] at H
      have c6b0 := decide_eq_true c6; clear c6; replace H := bs_ H; obtain ⟨⟨t131, t132⟩, A7, H⟩ := H; (try dsimp only at H)
      by_cases c8 : t132 = 0
      ·
       rw [if_pos c8] at H
       have ⟨c8b0, c8b1⟩ := eqb_ c8; clear c8
       by_cases c9 : 0 ≤ x4_1
       ·
        rw [if_pos c9] at H
        have c9b0 := decide_eq_true c9; clear c9
        by_cases c10 : x4_1 < (x3_1.length : Int)
        ·
         rw [if_pos c10] at H
         have c10b0 := decide_eq_true c10; clear c10; obtain ⟨y133, hy133⟩ : ∃ y_ : List Bool, y_ = (x3_1.set (x4_1 : Int).toNat true) := ⟨_, rfl⟩; (first | rw [Option.bind_some, ← hy133] at H | rw [Option.bind_some] at H | rw [← hy133] at H | skip); have Ny133 := Aside0.mk hy133; clear hy133; have H' := Aside0.mk H; clear H; go_wp2_with (first | ((with_reducible refine gate_callee (f := 26) rfl ?_); refine goesL_ (some 17) rfl rfl Try.func26 (by kernel_rfl) rfl #[.slice A0 l0.length c0, .int .i64 x4_1] rfl am_ ?_; (with_reducible refine (insn_Plain.calls k1 _ _ l0 x4_1 t131 t132 _ ?side1 ?side2 A7.out).mono ?_); (case side1 => exact cb_ (Kd.C_below HR0.out HB.out)); (case side2 => exact HC0.out); rintro e w12 ⟨rfl, hb⟩; refine ⟨_, rfl, ?_⟩; have n_ : _ ∧ _ := ⟨k_ (Kd.R_below (mv_ HO_3.out) hb), k_ (below_step (bl_ HB.out) hb)⟩; clear HO_3 HB; obtain ⟨HO_3, HB⟩ := n_; clear hb; have p11 : 0 ≤ (x4_1 : Int) := of_decide_eq_true as_; have q11 : (x4_1 : Int) < ((x3_1.length : Int) : Int) := of_decide_eq_true as_; obtain ⟨go11, co11, eo11, gb11, gl11, cl11, HG11⟩ := Kd.R_form HO_3.out (by omega); (first | cases eo11 | (injection eo11 with ea_ en_ ec_; (first | subst ea_ | (injection ea_ with ea_; subst ea_)); subst ec_; clear en_)); have GB11 := Aside0.mk gb11; have GG11 := Aside0.mk HG11; clear gb11 gl11 HG11; obtain ⟨hx11_0, hf11_0⟩ := Kd.R_celln false HO_3.out (x4_1 : Int) p11 q11; replace p11 := eq_true p11; replace q11 := eq_true q11; obtain ⟨hy13_, hz13_⟩ := Kd.R_celln false HO_3.out (x4_1 : Int) (of_decide_eq_true as_) (of_decide_eq_true as_); have HP13 := Kd.R_putg HO_3.out (x4_1 : Int) true) | ((with_reducible refine gate_store (t := 4) (p := 24) rfl ?_); refine store_event (t := 4) (p := 24) (v := ?vo_w14) (w1 := (w12.setCell ⟨go11, (x4_1 : Int).toNat, none⟩ (.bool true))) ?hg ?ho ?hn ?hr ?_; (case ho => rfl); (case hg => rfl); (case hn => rfl); (case hr => first | (go_simp; done) | (go_simp; rfl)); intro w14 hw; have hg : w12.grownBy w14 (some go11) := (by rw [hw]; exact HP13.2); have hp_ : Kd.R Kd.bool 4 w14 w.heap.size (fun _ => True) (.slice (some ⟨go11, 0, none⟩) x3_1.length co11) y133 := (by rw [hw, Ny133.out]; exact HP13.1); clear HP13; have n_ : _ ∧ _ := ⟨k_ (hp_), k_ ((by rw [hw]; exact below_set (HB.out) GB11.out : Below w.heap.size w w14))⟩; clear HO_3 HB; obtain ⟨HO_3, HB⟩ := n_; clear hg hw hp_))
         go_roundg k1
         case measure => have := HK1.out; omega
         case rel => exact ⟨(y133), (wrap64 (x4_1 + t131)), eq_, H', ⟨by have := HK1.out; omega⟩, ⟨mv_ HO_3.out⟩, ⟨bl_ HB.out⟩⟩
        ·
         rw [if_neg c10] at H
         exact absurd H (by simp)
       ·
        rw [if_neg c9] at H
        exact absurd H (by simp)
      ·
       rw [if_neg c8] at H
       have ⟨c8b0, c8b1⟩ := nqb_ c8; obtain rfl := Option.some.inj H; go_wp2_with (first | ((with_reducible refine gate_callee (f := 26) rfl ?_); refine goesL_ (some 17) rfl rfl Try.func26 (by kernel_rfl) rfl #[.slice A0 l0.length c0, .int .i64 x4_1] rfl am_ ?_; (with_reducible refine (insn_Plain.calls k1 _ _ l0 x4_1 t131 t132 _ ?side1 ?side2 A7.out).mono ?_); (case side1 => exact cb_ (Kd.C_below HR0.out HB.out)); (case side2 => exact HC0.out); rintro e w15 ⟨rfl, hb⟩; refine ⟨_, rfl, ?_⟩; have n_ : _ ∧ _ := ⟨k_ (Kd.R_below (mv_ HO_3.out) hb), k_ (below_step (bl_ HB.out) hb)⟩; clear HO_3 HB; obtain ⟨HO_3, HB⟩ := n_; clear hb))
       go_ret
       exact ⟨_, rr_, mv_ HO_3.out, bl_ HB.out⟩
     ·
      rw [if_neg c6] at H
      have c6b0 := decide_eq_false c6; clear c6; obtain rfl := Option.some.inj H; go_wp2; go_ret
      exact ⟨_, rr_, mv_ HO_3.out, bl_ HB.out⟩
  ·
   rw [if_neg c3] at H
   exact absurd H (by simp)
 ·
  rw [if_neg c2] at H
  exact absurd H (by simp)

end Go.Proofs.Ytmijlibnembkaaa.PA
