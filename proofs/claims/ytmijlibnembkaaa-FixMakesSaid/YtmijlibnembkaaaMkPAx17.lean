-- Printed by wip/tools/extprint.py over the kit's printer, with contracts of this session's own. Lean checks it.
import Derived.Test.YtmijlibnembkaaaMkPAx0
import Derived.Test.YtmijlibnembkaaaMkPAx15
namespace Go.Proofs.Ytmijlibnembkaaa.PA
open Go.RowKit Go.Proofs.YtmijlibnembkaaaW.PrintWords Go.Proofs.YtmijlibnembkaaaW.PrintLast Go.Proofs.YtmijlibnembkaaaW.PrintMore
attribute [local go_sem] max2_int min2_int max_two min_two max_three min_three max_four min_four   -- for this text's walks alone
set_option linter.unusedVariables false
set_option maxHeartbeats 8000000
set_option maxRecDepth 100000
set_option linter.unusedSimpArgs false

/-! ### posternref04_Parts: function 36 -/
mutual
def posternref04_Parts.l0 : Nat → List (S43) → List Int → List Int → Int → Int → Option (List Int)
 | 0, _, _, _, _, _ => none
 | k + 1, x0, x3, x4, x14, x15 => if x15 < x14 then (posternref04_Parts.l1 k x0 x3 x4 x15 (x15 == 0) x14 x15 x4 (x4.length : Int) 0) else (some x3)
def posternref04_Parts.l1 : Nat → List (S43) → List Int → List Int → Int → Bool → Int → Int → List Int → Int → Int → Option (List Int)
 | 0, _, _, _, _, _, _, _, _, _, _ => none
 | k + 1, x0, x3, x4, x5, x6, x14, x15, x20, x21, x22 => if x22 < x21 then (if 0 ≤ x22 then (if x22 < (x20.length : Int) then ((posternref04_To.f k x0 (rd x20 x22)).bind fun bt304 => (if x6 = true then (posternref04_Parts.l1 k x0 x3 x4 x5 true x14 x15 x20 x21 (wrap64 (x22 + 1))) else (if bt304.2 = true then (if bt304.1 = x5 then (if 0 ≤ (rd x20 x22) then (if (rd x20 x22) < (x0.length : Int) then (posternref04_Parts.l1 k x0 x3 x4 x5 (((rd_T43 x0 (rd x20 x22)).f0) == 133) x14 x15 x20 x21 (wrap64 (x22 + 1))) else (none)) else (none)) else (posternref04_Parts.l1 k x0 x3 x4 x5 false x14 x15 x20 x21 (wrap64 (x22 + 1)))) else (posternref04_Parts.l1 k x0 x3 x4 x5 false x14 x15 x20 x21 (wrap64 (x22 + 1)))))) else (none)) else (none)) else (if x6 = true then (if x3.length < 17592186044416 then (posternref04_Parts.l0 k x0 (x3 ++ [x5]) x4 x14 (wrap64 (x15 + 1))) else (none)) else (posternref04_Parts.l0 k x0 x3 x4 x14 (wrap64 (x15 + 1))))
end
def posternref04_Parts.f (k : Nat) (l0 : List (S43)) : Option (List Int) := (posternref04_Begin.f k l0).bind fun t300 => (posternref04_Parts.l0 k l0 ([] : List Int) t300 (l0.length : Int) 0)
theorem posternref04_Parts.mono_l : ∀ k, (∀ y0 y1 y2 y3 y4, LeO (posternref04_Parts.l0 k y0 y1 y2 y3 y4) (posternref04_Parts.l0 (k + 1) y0 y1 y2 y3 y4)) ∧ (∀ y0 y1 y2 y3 y4 y5 y6 y7 y8 y9, LeO (posternref04_Parts.l1 k y0 y1 y2 y3 y4 y5 y6 y7 y8 y9) (posternref04_Parts.l1 (k + 1) y0 y1 y2 y3 y4 y5 y6 y7 y8 y9))
 | 0 => by refine ⟨?_, ?_⟩ <;> (intros; intro r h; simp [posternref04_Parts.l0, posternref04_Parts.l1] at h)
 | k + 1 => by
  obtain ⟨ih0, ih1⟩ := posternref04_Parts.mono_l k; refine ⟨?_, ?_⟩
  all_goals intros
  all_goals (first | unfold posternref04_Parts.l0 | unfold posternref04_Parts.l1)
  all_goals repeat' (with_reducible first | apply ih0 | apply ih1 | apply posternref04_Begin.mono | apply posternref04_To.mono | exact LeO.refl _ | exact LeO.none _ | refine LeO.ite ?_ ?_ | refine LeO.bind ?_ (fun _ => ?_))
theorem posternref04_Parts.mono : ∀ a0 k, LeO (posternref04_Parts.f k a0) (posternref04_Parts.f (k + 1) a0) := by
 intro a0 k; obtain ⟨ih0, ih1⟩ := posternref04_Parts.mono_l k
 unfold posternref04_Parts.f
 repeat' (with_reducible first | apply ih0 | apply ih1 | apply posternref04_Begin.mono | apply posternref04_To.mono | exact LeO.refl _ | exact LeO.none _ | refine LeO.ite ?_ ?_ | refine LeO.bind ?_ (fun _ => ?_))
theorem posternref04_Parts.calls (k : Nat) (A0 : Option Addr) (c0 : Nat) (l0 : List (S43)) (r : List Int) (w : World) (hr0 : Kd.C k43 w A0 l0.length l0) (hc0 : l0.length ≤ c0) (h : posternref04_Parts.f k l0 = some r) :
  Calls Try.prog 36 #[.slice A0 l0.length c0] w fun e w' => ∃ v0_ : Value, e = .returned (v0_) ∧ Kd.R (Kd.int .i64) 3 w' w.heap.size (fun _ => True) v0_ r ∧ Below w.heap.size w w' := by
 have HR0 := Aside0.mk hr0; have HC0 := Aside0.mk hc0; clear hr0 hc0; have HB := Aside0.mk (Below.refl w.heap.size w); have H : ((posternref04_Begin.f k l0).bind fun t300 => (posternref04_Parts.l0 k l0 ([] : List Int) t300 (l0.length : Int) 0)) = some r := h; clear h; replace H := bs_ H; obtain ⟨t300, A2, H⟩ := H; (try dsimp only at H); have H' := Aside0.mk H; clear H; go_enter Try.func36, Try.ntmps36
 go_wp2_with (first | ((with_reducible refine gate_callee (f := 20) rfl ?_); refine goesL_ (some 12) rfl rfl Try.func20 (by kernel_rfl) rfl #[.slice A0 l0.length c0] rfl am_ ?_; (with_reducible refine (posternref04_Begin.calls k _ _ l0 t300 _ ?side1 ?side2 A2.out).mono ?_); (case side1 => repeat (first | exact HR0.out | (with_reducible refine Kd.C_alloc ?_ _) | (with_reducible refine Kd.C_drewN ?_ _) | (with_reducible refine Kd.C_drew ?_))); (case side2 => exact HC0.out); rintro e w3 ⟨v301, rfl, ho0, hb⟩; refine ⟨_, rfl, ?_⟩; have n_ : _ ∧ _ := ⟨k_ (Kd.R_lower ho0 (below_size (bl_ HB.out))), k_ (below_step (bl_ HB.out) hb)⟩; clear HB; obtain ⟨HO302, HB⟩ := n_; clear hb; clear ho0))
 go_loopg [3, 15] k (fun kq v3 v15 w' => ∃ (x3_1 : List Int) (x15_1 : Int), v15 = .int .i64 x15_1 ∧ Aside0 (posternref04_Parts.l0 kq l0 x3_1 t300 (l0.length : Int) x15_1 = some r) ∧ Aside0 (kq ≤ k) ∧ Aside0 (Kd.R (Kd.int .i64) 3 w' w.heap.size (fun k_ => some k_ ≠ (v301 : Value).ownBlock) v3 x3_1) ∧ Aside0 (Kd.R (Kd.int .i64) 3 w' w.heap.size (fun k_ => some k_ ≠ (v3 : Value).ownBlock) v301 t300) ∧ Aside0 (Below w.heap.size w w'))
 case atStart => exact ⟨(([] : List Int)), (0), eq_, H', ⟨Nat.le_refl _⟩, ⟨by first | exact Kd.R_nil _ _ _ _ _ | exact Kd.N_nil _ _ _ _ _ | exact Kd.V_nil _ _ _ _ _ | exact Kd.Q_nil _ _ _ _ _ | exact Kd.S_nil _ _ _ _ _⟩, ⟨by (with_reducible repeat (first | apply ra_ | apply rn_ | apply rw_)); exact Kd.R_mono HO302.out (fun _ hk => (by simp [Value.ownBlock]))⟩, ⟨bl_ HB.out⟩⟩
 case round =>
  clear H'; obtain ⟨x3_1, x15_1, rfl, HA, HK1, HO_3, HO_4, HB⟩ := hrel
  cases gk with
  | zero => exact absurd HA.out (by simp [posternref04_Parts.l0])
  | succ k1 =>
   have H := HA.out; clear HA; simp only [posternref04_Parts.l0] at H
   by_cases c4 : x15_1 < (l0.length : Int)
   ·
    rw [if_pos c4] at H
    have c4b0 := decide_eq_true c4; clear c4; have H' := Aside0.mk H; clear H; obtain ⟨Ao5, co5, eo5⟩ := Kd.R_slice HO_4.out; subst eo5; go_wp2; go_loopg [6, 22] k1 (fun kq v6 v22 w' => ∃ (x6_2 : Bool) (x22_2 : Int), v6 = .bool x6_2 ∧ v22 = .int .i64 x22_2 ∧ Aside0 (posternref04_Parts.l1 kq l0 x3_1 t300 x15_1 x6_2 (l0.length : Int) x15_1 t300 (t300.length : Int) x22_2 = some r) ∧ Aside0 (kq ≤ k1) ∧ Aside0 (Kd.R (Kd.int .i64) 3 w' w.heap.size (fun k_ => some k_ ≠ ((.slice Ao5 t300.length co5) : Value).ownBlock ∧ some k_ ≠ ((.slice Ao5 t300.length co5) : Value).ownBlock) u3 x3_1) ∧ Aside0 (Kd.R (Kd.int .i64) 3 w' w.heap.size (fun k_ => some k_ ≠ (u3 : Value).ownBlock) (.slice Ao5 t300.length co5) t300) ∧ Aside0 (Kd.R (Kd.int .i64) 3 w' w.heap.size (fun k_ => some k_ ≠ (u3 : Value).ownBlock) (.slice Ao5 t300.length co5) t300) ∧ Aside0 (Below w.heap.size w w'))
    case atStart => exact ⟨((x15_1 == 0)), (0), eq_, eq_, H', ⟨Nat.le_refl _⟩, ⟨by (with_reducible repeat (first | apply ra_ | apply rn_ | apply rw_)); exact Kd.R_mono HO_3.out (fun _ hk => ⟨hk, hk⟩)⟩, ⟨mv_ HO_4.out⟩, ⟨mv_ HO_4.out⟩, ⟨bl_ HB.out⟩⟩
    case round =>
     clear H'; clear c4b0; obtain ⟨x6_2, x22_2, rfl, rfl, HA, HK2, HO_3, HO_4, HO_20, HB⟩ := hrel
     cases gk with
     | zero => exact absurd HA.out (by simp [posternref04_Parts.l1])
     | succ k2 =>
      have H := HA.out; clear HA; simp only [posternref04_Parts.l1] at H
      by_cases c6 : x22_2 < (t300.length : Int)
      ·
       rw [if_pos c6] at H
       have c6b0 := decide_eq_true c6; clear c6
       by_cases c7 : 0 ≤ x22_2
       ·
        rw [if_pos c7] at H
        have c7b0 := decide_eq_true c7; clear c7
        by_cases c8 : x22_2 < (t300.length : Int)
        ·
         rw [if_pos c8] at H
         have c8b0 := decide_eq_true c8; clear c8; replace H := bs_ H; obtain ⟨⟨t304, t305⟩, A9, H⟩ := H; (try dsimp only at H)
         by_cases c10 : x6_2 = true
         ·
          subst c10
          rw [if_pos rfl] at H; have H' := Aside0.mk H; clear H; have p303 : 0 ≤ (x22_2 : Int) := of_decide_eq_true as_; have q303 : x22_2 < (t300.length : Int) := of_decide_eq_true as_; obtain ⟨ad303, e303, hx303_0⟩ := Kd.at_int (Kd.R_reads' HO_20.out).2.2 x22_2 p303 q303
          cases e303
          replace p303 := eq_true p303; replace q303 := eq_true q303; go_wp2_with (first | ((with_reducible refine gate_callee (f := 21) rfl ?_); refine goesL_ (some 29) rfl rfl Try.func21 (by kernel_rfl) rfl #[.slice A0 l0.length c0, .int .i64 (rd t300 x22_2)] rfl am_ ?_; (with_reducible refine (posternref04_To.calls k2 _ _ l0 (rd t300 x22_2) t304 t305 _ ?side1 ?side2 A9.out).mono ?_); (case side1 => exact cb_ (Kd.C_below HR0.out HB.out)); (case side2 => exact HC0.out); rintro e w11 ⟨rfl, hb⟩; refine ⟨_, rfl, ?_⟩; have n_ : _ ∧ _ ∧ _ ∧ _ := ⟨k_ (Kd.R_below (mv_ HO_3.out) hb), k_ (Kd.R_below (mv_ HO_4.out) hb), k_ (Kd.R_below (mv_ HO_20.out) hb), k_ (below_step (bl_ HB.out) hb)⟩; clear HO_3 HO_4 HO_20 HB; obtain ⟨HO_3, HO_4, HO_20, HB⟩ := n_; clear hb))
          go_roundg k2
          case measure => have := HK1.out; have := HK2.out; omega
          case rel => exact ⟨(true), (wrap64 (x22_2 + 1)), eq_, eq_, H', ⟨by have := HK1.out; have := HK2.out; omega⟩, ⟨mv_ HO_3.out⟩, ⟨mv_ HO_4.out⟩, ⟨mv_ HO_20.out⟩, ⟨bl_ HB.out⟩⟩
         ·
          replace c10 := Bool.eq_false_iff.mpr c10
          subst c10; rw [if_neg (show ¬ (false = true) by decide)] at H
          by_cases c12 : t305 = true
          ·
           subst c12
           rw [if_pos rfl] at H
           by_cases c13 : t304 = x15_1
           ·
            rw [if_pos c13] at H
            have ⟨c13b0, c13b1⟩ := eqb_ c13; clear c13
            by_cases c14 : 0 ≤ (rd t300 x22_2)
            ·
             rw [if_pos c14] at H
             have c14b0 := decide_eq_true c14; clear c14
             by_cases c15 : (rd t300 x22_2) < (l0.length : Int)
             ·
              rw [if_pos c15] at H
              have c15b0 := decide_eq_true c15; clear c15; have H' := Aside0.mk H; clear H; have p303 : 0 ≤ (x22_2 : Int) := of_decide_eq_true as_; have q303 : x22_2 < (t300.length : Int) := of_decide_eq_true as_; obtain ⟨ad303, e303, hx303_0⟩ := Kd.at_int (Kd.R_reads' HO_20.out).2.2 x22_2 p303 q303
              cases e303
              replace p303 := eq_true p303; replace q303 := eq_true q303; go_wp2_with (first | ((with_reducible refine gate_callee (f := 21) rfl ?_); refine goesL_ (some 29) rfl rfl Try.func21 (by kernel_rfl) rfl #[.slice A0 l0.length c0, .int .i64 (rd t300 x22_2)] rfl am_ ?_; (with_reducible refine (posternref04_To.calls k2 _ _ l0 (rd t300 x22_2) t304 true _ ?side1 ?side2 A9.out).mono ?_); (case side1 => exact cb_ (Kd.C_below HR0.out HB.out)); (case side2 => exact HC0.out); rintro e w16 ⟨rfl, hb⟩; refine ⟨_, rfl, ?_⟩; have n_ : _ ∧ _ ∧ _ ∧ _ := ⟨k_ (Kd.R_below (mv_ HO_3.out) hb), k_ (Kd.R_below (mv_ HO_4.out) hb), k_ (Kd.R_below (mv_ HO_20.out) hb), k_ (below_step (bl_ HB.out) hb)⟩; clear HO_3 HO_4 HO_20 HB; obtain ⟨HO_3, HO_4, HO_20, HB⟩ := n_; clear hb; have p306 : 0 ≤ ((rd t300 x22_2) : Int) := of_decide_eq_true as_; have q306 : (rd t300 x22_2) < (l0.length : Int) := of_decide_eq_true as_; obtain ⟨ad306, e306, hx306_0, hx306_1, hx306_2, hx306_3, hx306_4⟩ := at_T43 (Kd.C_below HR0.out HB.out) (rd t300 x22_2) p306 q306; cases e306; replace p306 := eq_true p306; replace q306 := eq_true q306))
              go_roundg k2
              case measure => have := HK1.out; have := HK2.out; omega
              case rel => exact ⟨((((rd_T43 l0 (rd t300 x22_2)).f0) == 133)), (wrap64 (x22_2 + 1)), eq_, eq_, H', ⟨by have := HK1.out; have := HK2.out; omega⟩, ⟨mv_ HO_3.out⟩, ⟨mv_ HO_4.out⟩, ⟨mv_ HO_20.out⟩, ⟨bl_ HB.out⟩⟩
             ·
              rw [if_neg c15] at H
              exact absurd H (by simp)
            ·
             rw [if_neg c14] at H
             exact absurd H (by simp)
           ·
            rw [if_neg c13] at H
            have ⟨c13b0, c13b1⟩ := nqb_ c13; have H' := Aside0.mk H; clear H; have p303 : 0 ≤ (x22_2 : Int) := of_decide_eq_true as_; have q303 : x22_2 < (t300.length : Int) := of_decide_eq_true as_; obtain ⟨ad303, e303, hx303_0⟩ := Kd.at_int (Kd.R_reads' HO_20.out).2.2 x22_2 p303 q303
            cases e303
            replace p303 := eq_true p303; replace q303 := eq_true q303; go_wp2_with (first | ((with_reducible refine gate_callee (f := 21) rfl ?_); refine goesL_ (some 29) rfl rfl Try.func21 (by kernel_rfl) rfl #[.slice A0 l0.length c0, .int .i64 (rd t300 x22_2)] rfl am_ ?_; (with_reducible refine (posternref04_To.calls k2 _ _ l0 (rd t300 x22_2) t304 true _ ?side1 ?side2 A9.out).mono ?_); (case side1 => exact cb_ (Kd.C_below HR0.out HB.out)); (case side2 => exact HC0.out); rintro e w17 ⟨rfl, hb⟩; refine ⟨_, rfl, ?_⟩; have n_ : _ ∧ _ ∧ _ ∧ _ := ⟨k_ (Kd.R_below (mv_ HO_3.out) hb), k_ (Kd.R_below (mv_ HO_4.out) hb), k_ (Kd.R_below (mv_ HO_20.out) hb), k_ (below_step (bl_ HB.out) hb)⟩; clear HO_3 HO_4 HO_20 HB; obtain ⟨HO_3, HO_4, HO_20, HB⟩ := n_; clear hb))
            go_roundg k2
            case measure => have := HK1.out; have := HK2.out; omega
            case rel => exact ⟨(false), (wrap64 (x22_2 + 1)), eq_, eq_, H', ⟨by have := HK1.out; have := HK2.out; omega⟩, ⟨mv_ HO_3.out⟩, ⟨mv_ HO_4.out⟩, ⟨mv_ HO_20.out⟩, ⟨bl_ HB.out⟩⟩
          ·
           replace c12 := Bool.eq_false_iff.mpr c12
           subst c12; rw [if_neg (show ¬ (false = true) by decide)] at H; have H' := Aside0.mk H; clear H; have p303 : 0 ≤ (x22_2 : Int) := of_decide_eq_true as_; have q303 : x22_2 < (t300.length : Int) := of_decide_eq_true as_; obtain ⟨ad303, e303, hx303_0⟩ := Kd.at_int (Kd.R_reads' HO_20.out).2.2 x22_2 p303 q303
           cases e303
           replace p303 := eq_true p303; replace q303 := eq_true q303; go_wp2_with (first | ((with_reducible refine gate_callee (f := 21) rfl ?_); refine goesL_ (some 29) rfl rfl Try.func21 (by kernel_rfl) rfl #[.slice A0 l0.length c0, .int .i64 (rd t300 x22_2)] rfl am_ ?_; (with_reducible refine (posternref04_To.calls k2 _ _ l0 (rd t300 x22_2) t304 false _ ?side1 ?side2 A9.out).mono ?_); (case side1 => exact cb_ (Kd.C_below HR0.out HB.out)); (case side2 => exact HC0.out); rintro e w18 ⟨rfl, hb⟩; refine ⟨_, rfl, ?_⟩; have n_ : _ ∧ _ ∧ _ ∧ _ := ⟨k_ (Kd.R_below (mv_ HO_3.out) hb), k_ (Kd.R_below (mv_ HO_4.out) hb), k_ (Kd.R_below (mv_ HO_20.out) hb), k_ (below_step (bl_ HB.out) hb)⟩; clear HO_3 HO_4 HO_20 HB; obtain ⟨HO_3, HO_4, HO_20, HB⟩ := n_; clear hb))
           go_roundg k2
           case measure => have := HK1.out; have := HK2.out; omega
           case rel => exact ⟨(false), (wrap64 (x22_2 + 1)), eq_, eq_, H', ⟨by have := HK1.out; have := HK2.out; omega⟩, ⟨mv_ HO_3.out⟩, ⟨mv_ HO_4.out⟩, ⟨mv_ HO_20.out⟩, ⟨bl_ HB.out⟩⟩
        ·
         rw [if_neg c8] at H
         exact absurd H (by simp)
       ·
        rw [if_neg c7] at H
        exact absurd H (by simp)
      ·
       rw [if_neg c6] at H
       have c6b0 := decide_eq_false c6; clear c6
       by_cases c19 : x6_2 = true
       ·
        subst c19
        rw [if_pos rfl] at H
        by_cases c20 : x3_1.length < 17592186044416
        ·
         rw [if_pos c20] at H
         have LMc20 := Aside0.mk c20; clear c20; obtain ⟨y307, hy307⟩ : ∃ y_ : List Int, y_ = (x3_1 ++ [x15_1]) := ⟨_, rfl⟩; (first | rw [Option.bind_some, ← hy307] at H | rw [Option.bind_some] at H | rw [← hy307] at H | skip); have Ny307 := Aside0.mk hy307; clear hy307; have H' := Aside0.mk H; clear H; go_wp2_with (first | ((with_reducible refine gate_builtin (b := .append) (xs := #[.tmp 51, .tmp 53]) rfl ?_); at_builtin; refine Kd.R_append (Kd.int .i64) (w0 := w) w.heap.size rfl (.tmp 51) (.tmp 53) 52 3 (.int .i64 0) 8 rfl Try.underlying52 info3 rfl (by decide) (by omega) u3 x3_1 x15_1 [.int .i64 x15_1] (fun k_ => some k_ ≠ (.slice Ao5 t300.length co5 : Value).ownBlock ∧ some k_ ≠ (.slice Ao5 t300.length co5 : Value).ownBlock) (fun _ => False) rfl rfl ?aP (fun _ hk => hk.elim) ?aF ?aO ?aB ?aS ?aL ?_; (case aP => exact rfl); (case aB => exact (bl_ HB.out)); (case aF => exact (fun k_ hk => ⟨Kd.fresh' (Kd.R_lt (mv_ HO_4.out)) k_ hk, Kd.fresh' (Kd.R_lt (mv_ HO_20.out)) k_ hk⟩)); (case aO => exact (mv_ HO_3.out)); (case aS => exact (below_size (bl_ HB.out))); (case aL => have := LMc20.out; omega); intro v308 w21 ho hb hg hat; rw [← Ny307.out] at ho; have n_ : _ ∧ _ ∧ _ ∧ _ := ⟨k_ (Kd.R_after (ok := (fun _ => True)) (by (with_reducible repeat (first | apply ra_ | apply rn_ | apply rw_)); exact Kd.R_mono HO_4.out (fun _ hk => ⟨trivial, hk⟩)) hg hat), k_ (Kd.R_after (ok := (fun _ => True)) (by (with_reducible repeat (first | apply ra_ | apply rn_ | apply rw_)); exact Kd.R_mono HO_20.out (fun _ hk => ⟨trivial, hk⟩)) hg hat), k_ (hb), k_ (ho)⟩; clear HO_4 HO_20 HB HO_3; obtain ⟨HO_4, HO_20, HB, HO309⟩ := n_; clear ho hb hg hat))
         go_roundg k2
         case measure => have := HK1.out; have := HK2.out; omega
         case rel => exact ⟨(y307), (wrap64 (x15_1 + 1)), eq_, H', ⟨by have := HK1.out; have := HK2.out; omega⟩, ⟨by (with_reducible repeat (first | apply ra_ | apply rn_ | apply rw_)); exact Kd.R_mono HO309.out (fun _ hk => hk.1)⟩, ⟨by (with_reducible repeat (first | apply ra_ | apply rn_ | apply rw_)); exact Kd.R_mono HO_4.out (fun _ hk => hk.2)⟩, ⟨bl_ HB.out⟩⟩
        ·
         rw [if_neg c20] at H
         exact absurd H (by simp)
       ·
        replace c19 := Bool.eq_false_iff.mpr c19
        subst c19; rw [if_neg (show ¬ (false = true) by decide)] at H; have H' := Aside0.mk H; clear H; go_wp2; go_roundg k2
        case measure => have := HK1.out; have := HK2.out; omega
        case rel => exact ⟨(x3_1), (wrap64 (x15_1 + 1)), eq_, H', ⟨by have := HK1.out; have := HK2.out; omega⟩, ⟨by (with_reducible repeat (first | apply ra_ | apply rn_ | apply rw_)); exact Kd.R_mono HO_3.out (fun _ hk => hk.1)⟩, ⟨mv_ HO_4.out⟩, ⟨bl_ HB.out⟩⟩
   ·
    rw [if_neg c4] at H
    have c4b0 := decide_eq_false c4; clear c4; obtain rfl := Option.some.inj H; go_wp2; go_ret
    exact ⟨_, rr_, by (with_reducible repeat (first | apply ra_ | apply rn_ | apply rw_)); exact Kd.R_mono HO_3.out (fun _ hk => trivial), bl_ HB.out⟩

/-! ### posternref04_Of: function 37 -/
def posternref04_Of.l0 : Nat → Int → Int → List Int → Int → Int → Option (Int)
 | 0, _, _, _, _, _ => none
 | k + 1, x1, x5, x8, x9, x10 => if x10 < x9 then (if 0 ≤ x10 then (if x10 < (x8.length : Int) then (if (rd x8 x10) ≤ x1 then (posternref04_Of.l0 k x1 (rd x8 x10) x8 x9 (wrap64 (x10 + 1))) else (posternref04_Of.l0 k x1 x5 x8 x9 (wrap64 (x10 + 1)))) else (none)) else (none)) else (some x5)
def posternref04_Of.f (k : Nat) (l0 : List Int) (a1 : Int) : Option (Int) := posternref04_Of.l0 k a1 0 l0 (l0.length : Int) 0
theorem posternref04_Of.mono_l : ∀ k, (∀ y0 y1 y2 y3 y4, LeO (posternref04_Of.l0 k y0 y1 y2 y3 y4) (posternref04_Of.l0 (k + 1) y0 y1 y2 y3 y4))
 | 0 => fun _ _ _ _ _ r h => by simp [posternref04_Of.l0] at h
 | k + 1 => by
  have ih0 := posternref04_Of.mono_l k
  ·
   intro y0 y1 y2 y3 y4
   unfold posternref04_Of.l0
   repeat' (with_reducible first | apply ih0 | exact LeO.refl _ | exact LeO.none _ | refine LeO.ite ?_ ?_ | refine LeO.bind ?_ (fun _ => ?_))
theorem posternref04_Of.mono : ∀ a0 a1 k, LeO (posternref04_Of.f k a0 a1) (posternref04_Of.f (k + 1) a0 a1) := by
 intro a0 a1 k; have ih0 := posternref04_Of.mono_l k
 unfold posternref04_Of.f
 repeat' (with_reducible first | apply ih0 | exact LeO.refl _ | exact LeO.none _ | refine LeO.ite ?_ ?_ | refine LeO.bind ?_ (fun _ => ?_))
theorem posternref04_Of.calls (k : Nat) (A0 : Option Addr) (c0 : Nat) (l0 : List Int) (a1 : Int) (r : Int) (w : World) (hr0 : Kd.C (Kd.int .i64) w A0 l0.length l0) (hc0 : l0.length ≤ c0) (h : posternref04_Of.f k l0 a1 = some r) :
  Calls Try.prog 37 #[.slice A0 l0.length c0, .int .i64 a1] w fun e w' => e = .returned (.int .i64 r) ∧ Drawn0 w w' := by
 have HR0 := Aside0.mk hr0; have HC0 := Aside0.mk hc0; clear hr0 hc0; have H : (posternref04_Of.l0 k a1 0 l0 (l0.length : Int) 0) = some r := h; clear h; have H' := Aside0.mk H; clear H; go_enter Try.func37, Try.ntmps37
 go_wp2; go_loopg [5, 10] k (fun kq v5 v10 w' => ∃ (x5_1 : Int) (x10_1 : Int), v5 = .int .i64 x5_1 ∧ v10 = .int .i64 x10_1 ∧ Aside0 (posternref04_Of.l0 kq a1 x5_1 l0 (l0.length : Int) x10_1 = some r) ∧ Aside0 (kq ≤ k) ∧ Drawn0 w w')
 case atStart => exact ⟨(0), (0), eq_, eq_, H', ⟨Nat.le_refl _⟩, dr_⟩
 case round =>
  clear H'; obtain ⟨x5_1, x10_1, rfl, rfl, HA, HK1, ⟨m1, rfl⟩⟩ := hrel
  cases gk with
  | zero => exact absurd HA.out (by simp [posternref04_Of.l0])
  | succ k1 =>
   have H := HA.out; clear HA; simp only [posternref04_Of.l0] at H
   by_cases c3 : x10_1 < (l0.length : Int)
   ·
    rw [if_pos c3] at H
    have c3b0 := decide_eq_true c3; clear c3
    by_cases c4 : 0 ≤ x10_1
    ·
     rw [if_pos c4] at H
     have c4b0 := decide_eq_true c4; clear c4
     by_cases c5 : x10_1 < (l0.length : Int)
     ·
      rw [if_pos c5] at H
      have c5b0 := decide_eq_true c5; clear c5
      by_cases c6 : (rd l0 x10_1) ≤ a1
      ·
       rw [if_pos c6] at H
       have c6b0 := decide_eq_true c6; clear c6; have H' := Aside0.mk H; clear H; have p310 : 0 ≤ (x10_1 : Int) := of_decide_eq_true as_; have q310 : x10_1 < (l0.length : Int) := of_decide_eq_true as_; obtain ⟨ad310, e310, hx310_0⟩ := Kd.at_int HR0.out x10_1 p310 q310
       cases e310
       replace p310 := eq_true p310; replace q310 := eq_true q310; go_wp2; go_roundg k1
       case measure => have := HK1.out; omega
       case rel => exact ⟨(rd l0 x10_1), (wrap64 (x10_1 + 1)), eq_, eq_, H', ⟨by have := HK1.out; omega⟩, dr_⟩
      ·
       rw [if_neg c6] at H
       have c6b0 := decide_eq_false c6; clear c6; have H' := Aside0.mk H; clear H; have p310 : 0 ≤ (x10_1 : Int) := of_decide_eq_true as_; have q310 : x10_1 < (l0.length : Int) := of_decide_eq_true as_; obtain ⟨ad310, e310, hx310_0⟩ := Kd.at_int HR0.out x10_1 p310 q310
       cases e310
       replace p310 := eq_true p310; replace q310 := eq_true q310; go_wp2; go_roundg k1
       case measure => have := HK1.out; omega
       case rel => exact ⟨(x5_1), (wrap64 (x10_1 + 1)), eq_, eq_, H', ⟨by have := HK1.out; omega⟩, dr_⟩
     ·
      rw [if_neg c5] at H
      exact absurd H (by simp)
    ·
     rw [if_neg c4] at H
     exact absurd H (by simp)
   ·
    rw [if_neg c3] at H
    have c3b0 := decide_eq_false c3; clear c3; obtain rfl := Option.some.inj H; go_wp2; go_ret
    exact ⟨by first | rfl | (simp; done) | (simp [*]; done), dr_⟩

end Go.Proofs.Ytmijlibnembkaaa.PA
