-- Printed by wip/tools/extprint.py over the kit's printer, with contracts of this session's own. Lean checks it.
import Derived.Test.YtmijlibnembkaaaMkPAx0
import Derived.Test.YtmijlibnembkaaaMkPAx14
namespace Go.Proofs.Ytmijlibnembkaaa.PA
open Go.RowKit Go.Proofs.YtmijlibnembkaaaW.PrintWords Go.Proofs.YtmijlibnembkaaaW.PrintLast Go.Proofs.YtmijlibnembkaaaW.PrintMore
attribute [local go_sem] max2_int min2_int max_two min_two max_three min_three max_four min_four   -- for this text's walks alone
set_option linter.unusedVariables false
set_option maxHeartbeats 8000000
set_option maxRecDepth 100000
set_option linter.unusedSimpArgs false

/-! ### posternref04_Begin: function 20 -/
def posternref04_Begin.l0 : Nat → List (S43) → List Int → Int → Option (List Int)
 | 0, _, _, _ => none
 | k + 1, x0, x3, x4 => if x4 < (x0.length : Int) then ((posternref02_Plain.f k x0 x4).bind fun bt291 => (if bt291.2 = 0 then (if x3.length < 17592186044416 then (posternref04_Begin.l0 k x0 (x3 ++ [x4]) (wrap64 (x4 + bt291.1))) else (none)) else (some x3))) else (some x3)
def posternref04_Begin.f (k : Nat) (l0 : List (S43)) : Option (List Int) := posternref04_Begin.l0 k l0 ([] : List Int) 0
theorem posternref04_Begin.mono_l : ∀ k, (∀ y0 y1 y2, LeO (posternref04_Begin.l0 k y0 y1 y2) (posternref04_Begin.l0 (k + 1) y0 y1 y2))
 | 0 => fun _ _ _ r h => by simp [posternref04_Begin.l0] at h
 | k + 1 => by
  have ih0 := posternref04_Begin.mono_l k
  ·
   intro y0 y1 y2
   unfold posternref04_Begin.l0
   repeat' (with_reducible first | apply ih0 | apply posternref02_Plain.mono | exact LeO.refl _ | exact LeO.none _ | refine LeO.ite ?_ ?_ | refine LeO.bind ?_ (fun _ => ?_))
theorem posternref04_Begin.mono : ∀ a0 k, LeO (posternref04_Begin.f k a0) (posternref04_Begin.f (k + 1) a0) := by
 intro a0 k; have ih0 := posternref04_Begin.mono_l k
 unfold posternref04_Begin.f
 repeat' (with_reducible first | apply ih0 | apply posternref02_Plain.mono | exact LeO.refl _ | exact LeO.none _ | refine LeO.ite ?_ ?_ | refine LeO.bind ?_ (fun _ => ?_))
theorem posternref04_Begin.calls (k : Nat) (A0 : Option Addr) (c0 : Nat) (l0 : List (S43)) (r : List Int) (w : World) (hr0 : Kd.C k43 w A0 l0.length l0) (hc0 : l0.length ≤ c0) (h : posternref04_Begin.f k l0 = some r) :
  Calls Try.prog 20 #[.slice A0 l0.length c0] w fun e w' => ∃ v0_ : Value, e = .returned (v0_) ∧ Kd.R (Kd.int .i64) 3 w' w.heap.size (fun _ => True) v0_ r ∧ Below w.heap.size w w' := by
 have HR0 := Aside0.mk hr0; have HC0 := Aside0.mk hc0; clear hr0 hc0; have HB := Aside0.mk (Below.refl w.heap.size w); have H : (posternref04_Begin.l0 k l0 ([] : List Int) 0) = some r := h; clear h; have H' := Aside0.mk H; clear H; go_enter Try.func20, Try.ntmps20
 go_wp2; go_loopg [3, 4] k (fun kq v3 v4 w' => ∃ (x3_1 : List Int) (x4_1 : Int), v4 = .int .i64 x4_1 ∧ Aside0 (posternref04_Begin.l0 kq l0 x3_1 x4_1 = some r) ∧ Aside0 (kq ≤ k) ∧ Aside0 (Kd.R (Kd.int .i64) 3 w' w.heap.size (fun _ => True) v3 x3_1) ∧ Aside0 (Below w.heap.size w w'))
 case atStart => exact ⟨(([] : List Int)), (0), eq_, H', ⟨Nat.le_refl _⟩, ⟨by first | exact Kd.R_nil _ _ _ _ _ | exact Kd.N_nil _ _ _ _ _ | exact Kd.V_nil _ _ _ _ _ | exact Kd.Q_nil _ _ _ _ _ | exact Kd.S_nil _ _ _ _ _⟩, ⟨bl_ HB.out⟩⟩
 case round =>
  clear H'; obtain ⟨x3_1, x4_1, rfl, HA, HK1, HO_3, HB⟩ := hrel
  cases gk with
  | zero => exact absurd HA.out (by simp [posternref04_Begin.l0])
  | succ k1 =>
   have H := HA.out; clear HA; simp only [posternref04_Begin.l0] at H
   by_cases c2 : x4_1 < (l0.length : Int)
   ·
    rw [if_pos c2] at H
    have c2b0 := decide_eq_true c2; clear c2; replace H := bs_ H; obtain ⟨⟨t291, t292⟩, A3, H⟩ := H; (try dsimp only at H)
    by_cases c4 : t292 = 0
    ·
     rw [if_pos c4] at H
     have ⟨c4b0, c4b1⟩ := eqb_ c4; clear c4
     by_cases c5 : x3_1.length < 17592186044416
     ·
      rw [if_pos c5] at H
      have LMc5 := Aside0.mk c5; clear c5; obtain ⟨y293, hy293⟩ : ∃ y_ : List Int, y_ = (x3_1 ++ [x4_1]) := ⟨_, rfl⟩; (first | rw [Option.bind_some, ← hy293] at H | rw [Option.bind_some] at H | rw [← hy293] at H | skip); have Ny293 := Aside0.mk hy293; clear hy293; have H' := Aside0.mk H; clear H; go_wp2_with (first | ((with_reducible refine gate_callee (f := 34) rfl ?_); refine goesL_ (some 14) rfl rfl Try.func34 (by kernel_rfl) rfl #[.slice A0 l0.length c0, .int .i64 x4_1] rfl am_ ?_; (with_reducible refine (posternref02_Plain.calls k1 _ _ l0 x4_1 t291 t292 _ ?side1 ?side2 A3.out).mono ?_); (case side1 => exact cb_ (Kd.C_below HR0.out HB.out)); (case side2 => exact HC0.out); rintro e w6 ⟨rfl, hb⟩; refine ⟨_, rfl, ?_⟩; have n_ : _ ∧ _ := ⟨k_ (Kd.R_below (mv_ HO_3.out) hb), k_ (below_step (bl_ HB.out) hb)⟩; clear HO_3 HB; obtain ⟨HO_3, HB⟩ := n_; clear hb) | ((with_reducible refine gate_builtin (b := .append) (xs := #[.tmp 19, .tmp 21]) rfl ?_); at_builtin; refine Kd.R_append (Kd.int .i64) (w0 := w) w.heap.size rfl (.tmp 19) (.tmp 21) 52 3 (.int .i64 0) 8 rfl Try.underlying52 info3 rfl (by decide) (by omega) u3 x3_1 x4_1 [.int .i64 x4_1] (fun _ => True) (fun _ => False) rfl rfl ?aP (fun _ hk => hk.elim) ?aF ?aO ?aB ?aS ?aL ?_; (case aP => exact rfl); (case aB => exact (bl_ HB.out)); (case aF => exact (fun _ _ => trivial)); (case aO => exact (mv_ HO_3.out)); (case aS => exact (below_size (bl_ HB.out))); (case aL => have := LMc5.out; omega); intro v294 w7 ho hb hg hat; rw [← Ny293.out] at ho; have n_ : _ ∧ _ := ⟨k_ (hb), k_ (ho)⟩; clear HB HO_3; obtain ⟨HB, HO295⟩ := n_; clear ho hb hg hat))
      go_roundg k1
      case measure => have := HK1.out; omega
      case rel => exact ⟨(y293), (wrap64 (x4_1 + t291)), eq_, H', ⟨by have := HK1.out; omega⟩, ⟨mv_ HO295.out⟩, ⟨bl_ HB.out⟩⟩
     ·
      rw [if_neg c5] at H
      exact absurd H (by simp)
    ·
     rw [if_neg c4] at H
     have ⟨c4b0, c4b1⟩ := nqb_ c4; obtain rfl := Option.some.inj H; go_wp2_with (first | ((with_reducible refine gate_callee (f := 34) rfl ?_); refine goesL_ (some 14) rfl rfl Try.func34 (by kernel_rfl) rfl #[.slice A0 l0.length c0, .int .i64 x4_1] rfl am_ ?_; (with_reducible refine (posternref02_Plain.calls k1 _ _ l0 x4_1 t291 t292 _ ?side1 ?side2 A3.out).mono ?_); (case side1 => exact cb_ (Kd.C_below HR0.out HB.out)); (case side2 => exact HC0.out); rintro e w8 ⟨rfl, hb⟩; refine ⟨_, rfl, ?_⟩; have n_ : _ ∧ _ := ⟨k_ (Kd.R_below (mv_ HO_3.out) hb), k_ (below_step (bl_ HB.out) hb)⟩; clear HO_3 HB; obtain ⟨HO_3, HB⟩ := n_; clear hb))
     go_ret
     exact ⟨_, rr_, mv_ HO_3.out, bl_ HB.out⟩
   ·
    rw [if_neg c2] at H
    have c2b0 := decide_eq_false c2; clear c2; obtain rfl := Option.some.inj H; go_wp2; go_ret
    exact ⟨_, rr_, mv_ HO_3.out, bl_ HB.out⟩

/-! ### posternref04_To: function 21 -/
def posternref04_To.j0 : Nat → Int → Int → Bool → Int → Int → Int → Int → Int → Option (Int × Bool)
 | 0, _, _, _, _, _, _, _, _ => none
 | k + 1, x1, x7, x15, x298000, x298001, x298002, x298003, x298004 => if x15 = true then (some (wrap64 ((wrap64 (x1 + 1)) + (wrap64 (x298004))), true)) else (if x7 = 133 then (some (0, false)) else (if x7 = 149 then (some (0, false)) else (if (Int.tmod x7 8) = 5 then (some (wrap64 ((wrap64 (x1 + 1)) + (wrap64 (x298003))), true)) else (if (Int.tmod x7 8) = 6 then (some (wrap64 ((wrap64 (x1 + 1)) + (wrap64 (x298003))), true)) else (some (0, false))))))
def posternref04_To.f (k : Nat) (l0 : List (S43)) (a1 : Int) : Option (Int × Bool) := if 0 ≤ a1 then (if a1 < (l0.length : Int) then (if (wrap64 ((rd_T43 l0 a1).f0)) = 133 then (posternref04_To.j0 k a1 (wrap64 ((rd_T43 l0 a1).f0)) (((rd_T43 l0 a1).f2) == 1) ((rd_T43 l0 a1).f0) ((rd_T43 l0 a1).f1) ((rd_T43 l0 a1).f2) ((rd_T43 l0 a1).f3) ((rd_T43 l0 a1).f4)) else (posternref04_To.j0 k a1 (wrap64 ((rd_T43 l0 a1).f0)) false ((rd_T43 l0 a1).f0) ((rd_T43 l0 a1).f1) ((rd_T43 l0 a1).f2) ((rd_T43 l0 a1).f3) ((rd_T43 l0 a1).f4))) else (none)) else (none)
theorem posternref04_To.mono_l : ∀ k, (∀ y0 y1 y2 y3 y4 y5 y6 y7, LeO (posternref04_To.j0 k y0 y1 y2 y3 y4 y5 y6 y7) (posternref04_To.j0 (k + 1) y0 y1 y2 y3 y4 y5 y6 y7))
 | 0 => fun _ _ _ _ _ _ _ _ r h => by simp [posternref04_To.j0] at h
 | k + 1 => by
  have ih0 := posternref04_To.mono_l k
  ·
   intro y0 y1 y2 y3 y4 y5 y6 y7
   unfold posternref04_To.j0
   repeat' (with_reducible first | apply ih0 | exact LeO.refl _ | exact LeO.none _ | refine LeO.ite ?_ ?_ | refine LeO.bind ?_ (fun _ => ?_))
theorem posternref04_To.mono : ∀ a0 a1 k, LeO (posternref04_To.f k a0 a1) (posternref04_To.f (k + 1) a0 a1) := by
 intro a0 a1 k; have ih0 := posternref04_To.mono_l k
 unfold posternref04_To.f
 repeat' (with_reducible first | apply ih0 | exact LeO.refl _ | exact LeO.none _ | refine LeO.ite ?_ ?_ | refine LeO.bind ?_ (fun _ => ?_))
theorem posternref04_To.calls (k : Nat) (A0 : Option Addr) (c0 : Nat) (l0 : List (S43)) (a1 : Int) (r1 : Int) (r2 : Bool) (w : World) (hr0 : Kd.C k43 w A0 l0.length l0) (hc0 : l0.length ≤ c0) (h : posternref04_To.f k l0 a1 = some (r1, r2)) :
  Calls Try.prog 21 #[.slice A0 l0.length c0, .int .i64 a1] w fun e w' => e = .returned (.tuple #[.int .i64 r1, .bool r2]) ∧ Below w.heap.size w w' := by
 have hu43 := Try.underlying43; have HR0 := Aside0.mk hr0; have HC0 := Aside0.mk hc0; clear hr0 hc0; have HB := Aside0.mk (Below.refl w.heap.size w); have H : (if 0 ≤ a1 then (if a1 < (l0.length : Int) then (if (wrap64 ((rd_T43 l0 a1).f0)) = 133 then (posternref04_To.j0 k a1 (wrap64 ((rd_T43 l0 a1).f0)) (((rd_T43 l0 a1).f2) == 1) ((rd_T43 l0 a1).f0) ((rd_T43 l0 a1).f1) ((rd_T43 l0 a1).f2) ((rd_T43 l0 a1).f3) ((rd_T43 l0 a1).f4)) else (posternref04_To.j0 k a1 (wrap64 ((rd_T43 l0 a1).f0)) false ((rd_T43 l0 a1).f0) ((rd_T43 l0 a1).f1) ((rd_T43 l0 a1).f2) ((rd_T43 l0 a1).f3) ((rd_T43 l0 a1).f4))) else (none)) else (none)) = some (r1, r2) := h; clear h
 by_cases c3 : 0 ≤ a1
 ·
  rw [if_pos c3] at H
  have c3b0 := decide_eq_true c3; clear c3
  by_cases c4 : a1 < (l0.length : Int)
  ·
   rw [if_pos c4] at H
   have c4b0 := decide_eq_true c4; clear c4; have HC5 := Aside0.mk H; clear H; have p296 : 0 ≤ (a1 : Int) := of_decide_eq_true as_; have q296 : a1 < (l0.length : Int) := of_decide_eq_true as_; obtain ⟨ad296, e296, hx296_0, hx296_1, hx296_2, hx296_3, hx296_4⟩ := at_T43 HR0.out a1 p296 q296
   cases e296
   replace p296 := eq_true p296; replace q296 := eq_true q296; go_enter Try.func21, Try.ntmps21
   go_upto_region 3 with (first | ((with_reducible refine gate_dst (N := 6) rfl ?_); refine box_event ?hg (N := 6) ?hd (cs := #[.int .u8 0, .int .u8 0, .int .u8 0, .int .i16 0, .int .i32 0]) (t := 43) ?hr ?_; (case hd => rfl); (case hg => rfl); (case hr => first | (go_simp; done) | (go_simp; rfl)); intro gb297 hg w6 hbox hb; have n_ : _ ∧ _ ∧ _ ∧ _ := ⟨k_ (below_step (bl_ HB.out) hb), k_ (hbox), k_ ((by rw [hg]; exact (below_size (bl_ HB.out)) : w.heap.size ≤ gb297)), k_ ((by rw [hg]; exact (below_size (bl_ HB.out)) : w.heap.size ≤ gb297))⟩; clear HB; obtain ⟨HB, BK297, GW297, GE297⟩ := n_; clear hb hbox hg; obtain ⟨⟨hcz7_0, hcz7_1, hcz7_2, hcz7_3, hcz7_4⟩, hfz7_0, hfz7_1, hfz7_2, hfz7_3, hfz7_4⟩ := blk5_ BK297.out))
   (try simp only [Act.put, List.setIfInBounds_toArray, List.set_cons_zero, List.set_cons_succ]); go_cut [15] (fun v15 wc => ∃ (kq : Nat) (x15_4 : Bool), v15 = .bool x15_4 ∧ Aside0 (posternref04_To.j0 kq a1 (wrap64 ((rd_T43 l0 a1).f0)) x15_4 ((rd_T43 l0 a1).f0) ((rd_T43 l0 a1).f1) ((rd_T43 l0 a1).f2) ((rd_T43 l0 a1).f3) ((rd_T43 l0 a1).f4) = some (r1, r2)) ∧ Aside0 (kq ≤ k) ∧ Aside0 (wc.heap[gb297]? = some (.cells #[.int .u8 ((rd_T43 l0 a1).f0), .int .u8 ((rd_T43 l0 a1).f1), .int .u8 ((rd_T43 l0 a1).f2), .int .i16 ((rd_T43 l0 a1).f3), .int .i32 ((rd_T43 l0 a1).f4)] 43 (0, 0))) ∧ Aside0 (Below w.heap.size w wc))
   case first =>
    have H := HC5.out; clear HC5
    by_cases c8 : (wrap64 ((rd_T43 l0 a1).f0)) = 133
    ·
     rw [if_pos c8] at H
     have ⟨c8b0, c8b1⟩ := eqb_ c8; clear c8; (first | rw [c8b0] | (simp only [i64_w, i32_w]; rw [c8b0]) | skip); have H' := Aside0.mk H; clear H; obtain ⟨⟨hcz9_0, hcz9_1, hcz9_2, hcz9_3, hcz9_4⟩, hfz9_0, hfz9_1, hfz9_2, hfz9_3, hfz9_4⟩ := blk5_ BK297.out; go_wp2; go_meet
     case rel => exact ⟨_, ((((rd_T43 l0 a1).f2) == 1)), eq_, H', ⟨by first | omega | exact Nat.le_refl _⟩, ⟨bz0_ BK297.out⟩, ⟨bm_ HB.out GE297.out⟩⟩
    ·
     rw [if_neg c8] at H
     have ⟨c8b0, c8b1⟩ := nqb_ c8; (first | rw [c8b0] | (simp only [i64_w, i32_w]; rw [c8b0]) | skip); have H' := Aside0.mk H; clear H; go_wp2; go_meet
     case rel => exact ⟨_, (false), eq_, H', ⟨by first | omega | exact Nat.le_refl _⟩, ⟨bz0_ BK297.out⟩, ⟨bm_ HB.out GE297.out⟩⟩
   case rest =>
    clear HC5; (try clear c2); (try clear p2); (try clear q2); (try clear hx2); (try clear c3); (try clear c3b0); (try clear c4); (try clear c4b0); (try clear p6); (try clear c8); (try clear c8b0); (try clear c8b1); (try clear hcz7_0); (try clear hcz7_1); (try clear hcz7_2); (try clear hcz7_3); (try clear hcz7_4); (try clear hcz9_0); (try clear hcz9_1); (try clear hcz9_2); (try clear hcz9_3); (try clear hcz9_4); (try clear hfz7_0); (try clear hfz7_1); (try clear hfz7_2); (try clear hfz7_3); (try clear hfz7_4); (try clear hfz9_0); (try clear hfz9_1); (try clear hfz9_2); (try clear hfz9_3); (try clear hfz9_4); (try clear hx296_0); (try clear hx296_1); (try clear hx296_2); (try clear hx296_3); (try clear hx296_4); (try clear p296); (try clear q296); obtain ⟨kq, x15_4, rfl, HA, HJ4, BK297, HB⟩ := hcut
    cases kq with
    | zero => exact absurd HA.out (by simp [posternref04_To.j0])
    | succ kj4 =>
     have H := HA.out; clear HA; simp only [posternref04_To.j0] at H
     by_cases c10 : x15_4 = true
     ·
      subst c10
      rw [if_pos rfl] at H; simp only [Option.some.injEq, Prod.mk.injEq] at H; obtain ⟨rfl, rfl⟩ := H; obtain ⟨⟨hcz11_0, hcz11_1, hcz11_2, hcz11_3, hcz11_4⟩, hfz11_0, hfz11_1, hfz11_2, hfz11_3, hfz11_4⟩ := blk5_ BK297.out; go_wp2; go_ret2
      exact ⟨rr_, bm_ HB.out GE297.out⟩
     ·
      replace c10 := Bool.eq_false_iff.mpr c10
      subst c10; rw [if_neg (show ¬ (false = true) by decide)] at H
      by_cases c12 : (wrap64 ((rd_T43 l0 a1).f0)) = 133
      ·
       rw [if_pos c12] at H
       have ⟨c12b0, c12b1⟩ := eqb_ c12; clear c12; simp only [Option.some.injEq, Prod.mk.injEq] at H; obtain ⟨rfl, rfl⟩ := H; go_wp2; go_ret2
       exact ⟨rr_, bm_ HB.out GE297.out⟩
      ·
       rw [if_neg c12] at H
       have ⟨c12b0, c12b1⟩ := nqb_ c12
       by_cases c13 : (wrap64 ((rd_T43 l0 a1).f0)) = 149
       ·
        rw [if_pos c13] at H
        have ⟨c13b0, c13b1⟩ := eqb_ c13; clear c13; simp only [Option.some.injEq, Prod.mk.injEq] at H; obtain ⟨rfl, rfl⟩ := H; go_wp2; go_ret2
        exact ⟨rr_, bm_ HB.out GE297.out⟩
       ·
        rw [if_neg c13] at H
        have ⟨c13b0, c13b1⟩ := nqb_ c13
        by_cases c14 : (Int.tmod (wrap64 ((rd_T43 l0 a1).f0)) 8) = 5
        ·
         rw [if_pos c14] at H
         have ⟨c14b0, c14b1⟩ := eqb_ c14; clear c14; simp only [Option.some.injEq, Prod.mk.injEq] at H; obtain ⟨rfl, rfl⟩ := H; obtain ⟨⟨hcz15_0, hcz15_1, hcz15_2, hcz15_3, hcz15_4⟩, hfz15_0, hfz15_1, hfz15_2, hfz15_3, hfz15_4⟩ := blk5_ BK297.out; go_wp2; go_ret2
         exact ⟨rr_, bm_ HB.out GE297.out⟩
        ·
         rw [if_neg c14] at H
         have ⟨c14b0, c14b1⟩ := nqb_ c14
         by_cases c16 : (Int.tmod (wrap64 ((rd_T43 l0 a1).f0)) 8) = 6
         ·
          rw [if_pos c16] at H
          have ⟨c16b0, c16b1⟩ := eqb_ c16; clear c16; simp only [Option.some.injEq, Prod.mk.injEq] at H; obtain ⟨rfl, rfl⟩ := H; obtain ⟨⟨hcz17_0, hcz17_1, hcz17_2, hcz17_3, hcz17_4⟩, hfz17_0, hfz17_1, hfz17_2, hfz17_3, hfz17_4⟩ := blk5_ BK297.out; go_wp2; go_ret2
          exact ⟨rr_, bm_ HB.out GE297.out⟩
         ·
          rw [if_neg c16] at H
          have ⟨c16b0, c16b1⟩ := nqb_ c16; simp only [Option.some.injEq, Prod.mk.injEq] at H; obtain ⟨rfl, rfl⟩ := H; go_wp2; go_ret2
          exact ⟨rr_, bm_ HB.out GE297.out⟩
  ·
   rw [if_neg c4] at H
   exact absurd H (by simp)
 ·
  rw [if_neg c3] at H
  exact absurd H (by simp)

/-! ### posternref04_In: function 24 -/
def posternref04_In.l0 : Nat → Int → List Int → Int → Int → Option (Bool)
 | 0, _, _, _, _ => none
 | k + 1, x1, x7, x8, x9 => if x9 < x8 then (if 0 ≤ x9 then (if x9 < (x7.length : Int) then (if (rd x7 x9) = x1 then (some true) else (posternref04_In.l0 k x1 x7 x8 (wrap64 (x9 + 1)))) else (none)) else (none)) else (some false)
def posternref04_In.f (k : Nat) (l0 : List Int) (a1 : Int) : Option (Bool) := posternref04_In.l0 k a1 l0 (l0.length : Int) 0
theorem posternref04_In.mono_l : ∀ k, (∀ y0 y1 y2 y3, LeO (posternref04_In.l0 k y0 y1 y2 y3) (posternref04_In.l0 (k + 1) y0 y1 y2 y3))
 | 0 => fun _ _ _ _ r h => by simp [posternref04_In.l0] at h
 | k + 1 => by
  have ih0 := posternref04_In.mono_l k
  ·
   intro y0 y1 y2 y3
   unfold posternref04_In.l0
   repeat' (with_reducible first | apply ih0 | exact LeO.refl _ | exact LeO.none _ | refine LeO.ite ?_ ?_ | refine LeO.bind ?_ (fun _ => ?_))
theorem posternref04_In.mono : ∀ a0 a1 k, LeO (posternref04_In.f k a0 a1) (posternref04_In.f (k + 1) a0 a1) := by
 intro a0 a1 k; have ih0 := posternref04_In.mono_l k
 unfold posternref04_In.f
 repeat' (with_reducible first | apply ih0 | exact LeO.refl _ | exact LeO.none _ | refine LeO.ite ?_ ?_ | refine LeO.bind ?_ (fun _ => ?_))
theorem posternref04_In.calls (k : Nat) (A0 : Option Addr) (c0 : Nat) (l0 : List Int) (a1 : Int) (r : Bool) (w : World) (hr0 : Kd.C (Kd.int .i64) w A0 l0.length l0) (hc0 : l0.length ≤ c0) (h : posternref04_In.f k l0 a1 = some r) :
  Calls Try.prog 24 #[.slice A0 l0.length c0, .int .i64 a1] w fun e w' => e = .returned (.bool r) ∧ Drawn0 w w' := by
 have HR0 := Aside0.mk hr0; have HC0 := Aside0.mk hc0; clear hr0 hc0; have H : (posternref04_In.l0 k a1 l0 (l0.length : Int) 0) = some r := h; clear h; have H' := Aside0.mk H; clear H; go_enter Try.func24, Try.ntmps24
 go_wp2; go_loopg [9] k (fun kq v9 w' => ∃ (x9_1 : Int), v9 = .int .i64 x9_1 ∧ Aside0 (posternref04_In.l0 kq a1 l0 (l0.length : Int) x9_1 = some r) ∧ Aside0 (kq ≤ k) ∧ Drawn0 w w')
 case atStart => exact ⟨(0), eq_, H', ⟨Nat.le_refl _⟩, dr_⟩
 case round =>
  clear H'; obtain ⟨x9_1, rfl, HA, HK1, ⟨m1, rfl⟩⟩ := hrel
  cases gk with
  | zero => exact absurd HA.out (by simp [posternref04_In.l0])
  | succ k1 =>
   have H := HA.out; clear HA; simp only [posternref04_In.l0] at H
   by_cases c3 : x9_1 < (l0.length : Int)
   ·
    rw [if_pos c3] at H
    have c3b0 := decide_eq_true c3; clear c3
    by_cases c4 : 0 ≤ x9_1
    ·
     rw [if_pos c4] at H
     have c4b0 := decide_eq_true c4; clear c4
     by_cases c5 : x9_1 < (l0.length : Int)
     ·
      rw [if_pos c5] at H
      have c5b0 := decide_eq_true c5; clear c5
      by_cases c6 : (rd l0 x9_1) = a1
      ·
       rw [if_pos c6] at H
       have ⟨c6b0, c6b1⟩ := eqb_ c6; clear c6; obtain rfl := Option.some.inj H; have p298 : 0 ≤ (x9_1 : Int) := of_decide_eq_true as_; have q298 : x9_1 < (l0.length : Int) := of_decide_eq_true as_; obtain ⟨ad298, e298, hx298_0⟩ := Kd.at_int HR0.out x9_1 p298 q298
       cases e298
       replace p298 := eq_true p298; replace q298 := eq_true q298; go_wp2; go_ret
       exact ⟨by first | rfl | (simp; done) | (simp [*]; done), dr_⟩
      ·
       rw [if_neg c6] at H
       have ⟨c6b0, c6b1⟩ := nqb_ c6; have H' := Aside0.mk H; clear H; have p298 : 0 ≤ (x9_1 : Int) := of_decide_eq_true as_; have q298 : x9_1 < (l0.length : Int) := of_decide_eq_true as_; obtain ⟨ad298, e298, hx298_0⟩ := Kd.at_int HR0.out x9_1 p298 q298
       cases e298
       replace p298 := eq_true p298; replace q298 := eq_true q298; go_wp2; go_roundg k1
       case measure => have := HK1.out; omega
       case rel => exact ⟨(wrap64 (x9_1 + 1)), eq_, H', ⟨by have := HK1.out; omega⟩, dr_⟩
     ·
      rw [if_neg c5] at H
      exact absurd H (by simp)
    ·
     rw [if_neg c4] at H
     exact absurd H (by simp)
   ·
    rw [if_neg c3] at H
    have c3b0 := decide_eq_false c3; clear c3; obtain rfl := Option.some.inj H; go_wp2; go_ret
    exact ⟨by first | rfl | (simp; done) | (simp [*]; done), dr_⟩

end Go.Proofs.Ytmijlibnembkaaa.PA
