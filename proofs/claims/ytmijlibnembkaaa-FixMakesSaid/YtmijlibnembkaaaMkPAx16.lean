-- Printed by wip/tools/extprint.py over the kit's printer, with contracts of this session's own. Lean checks it.
import Derived.Test.YtmijlibnembkaaaMkPAx0
namespace Go.Proofs.Ytmijlibnembkaaa.PA
open Go.RowKit Go.Proofs.YtmijlibnembkaaaW.PrintWords Go.Proofs.YtmijlibnembkaaaW.PrintLast Go.Proofs.YtmijlibnembkaaaW.PrintMore
attribute [local go_sem] max2_int min2_int max_two min_two max_three min_three max_four min_four   -- for this text's walks alone
set_option linter.unusedVariables false
set_option maxHeartbeats 8000000
set_option maxRecDepth 100000
set_option linter.unusedSimpArgs false

/-! ### posternref04_wrong: function 35 -/
mutual
def posternref04_wrong.j0 : Nat → Int → Int → Bool → Bool → Int → Int → Int → Int → Int → Option (Bool)
 | 0, _, _, _, _, _, _, _, _, _ => none
 | k + 1, x4, x5, x6, x37, x300000, x300001, x300002, x300003, x300004 => if x37 = true then (some true) else (if x4 = 4 then (posternref04_wrong.j1 k x4 x5 x6 x300000 x300001 x300002 x300003 x300004) else (if x4 = 7 then (posternref04_wrong.j1 k x4 x5 x6 x300000 x300001 x300002 x300003 x300004) else (posternref04_wrong.j1 k x4 x5 true x300000 x300001 x300002 x300003 x300004)))
def posternref04_wrong.j1 : Nat → Int → Int → Bool → Int → Int → Int → Int → Int → Option (Bool)
 | 0, _, _, _, _, _, _, _, _ => none
 | k + 1, x4, x5, x46, x300000, x300001, x300002, x300003, x300004 => if x46 = true then (some false) else (if x5 = 3 then (posternref04_wrong.j2 k x4 x5 true x300000 x300001 x300002 x300003 x300004) else (posternref04_wrong.j2 k x4 x5 (x5 == 9) x300000 x300001 x300002 x300003 x300004))
def posternref04_wrong.j2 : Nat → Int → Int → Bool → Int → Int → Int → Int → Int → Option (Bool)
 | 0, _, _, _, _, _, _, _, _ => none
 | k + 1, x4, x5, x52, x300000, x300001, x300002, x300003, x300004 => if x52 = true then (some (x300004 == 0)) else (if x5 = 6 then (posternref04_wrong.j3 k x4 true x300000 x300001 x300002 x300003 x300004) else (if x5 = 7 then (posternref04_wrong.j3 k x4 true x300000 x300001 x300002 x300003 x300004) else (posternref04_wrong.j3 k x4 (x5 == 12) x300000 x300001 x300002 x300003 x300004)))
def posternref04_wrong.j3 : Nat → Int → Bool → Int → Int → Int → Int → Int → Option (Bool)
 | 0, _, _, _, _, _, _, _ => none
 | k + 1, x4, x65, x300000, x300001, x300002, x300003, x300004 => if x65 = true then (if x4 = 4 then (if x300004 < 0 then (some true) else (some (decide (x300004 > 31)))) else (if x300004 < 0 then (some true) else (some (decide (x300004 > 63))))) else (some false)
end
def posternref04_wrong.f (k : Nat) (a0_0 : Int) (a0_1 : Int) (a0_2 : Int) (a0_3 : Int) (a0_4 : Int) : Option (Bool) := if a0_1 = 10 then (if (Int.tmod (wrap64 (a0_0)) 8) = 0 then (posternref04_wrong.j0 k (Int.tmod (wrap64 (a0_0)) 8) (wrap64 (Int.tdiv (wrap64 (a0_0)) 16)) ((Int.tmod (wrap64 (Int.tdiv (wrap64 (a0_0)) 8)) 2) == 1) true a0_0 a0_1 a0_2 a0_3 a0_4) else (if (Int.tmod (wrap64 (a0_0)) 8) = 1 then (posternref04_wrong.j0 k (Int.tmod (wrap64 (a0_0)) 8) (wrap64 (Int.tdiv (wrap64 (a0_0)) 16)) ((Int.tmod (wrap64 (Int.tdiv (wrap64 (a0_0)) 8)) 2) == 1) true a0_0 a0_1 a0_2 a0_3 a0_4) else (if (Int.tmod (wrap64 (a0_0)) 8) = 4 then (posternref04_wrong.j0 k (Int.tmod (wrap64 (a0_0)) 8) (wrap64 (Int.tdiv (wrap64 (a0_0)) 16)) ((Int.tmod (wrap64 (Int.tdiv (wrap64 (a0_0)) 8)) 2) == 1) true a0_0 a0_1 a0_2 a0_3 a0_4) else (posternref04_wrong.j0 k (Int.tmod (wrap64 (a0_0)) 8) (wrap64 (Int.tdiv (wrap64 (a0_0)) 16)) ((Int.tmod (wrap64 (Int.tdiv (wrap64 (a0_0)) 8)) 2) == 1) ((Int.tmod (wrap64 (a0_0)) 8) == 7) a0_0 a0_1 a0_2 a0_3 a0_4)))) else (posternref04_wrong.j0 k (Int.tmod (wrap64 (a0_0)) 8) (wrap64 (Int.tdiv (wrap64 (a0_0)) 16)) ((Int.tmod (wrap64 (Int.tdiv (wrap64 (a0_0)) 8)) 2) == 1) false a0_0 a0_1 a0_2 a0_3 a0_4)
theorem posternref04_wrong.mono_l : ∀ k, (∀ y0 y1 y2 y3 y4 y5 y6 y7 y8, LeO (posternref04_wrong.j0 k y0 y1 y2 y3 y4 y5 y6 y7 y8) (posternref04_wrong.j0 (k + 1) y0 y1 y2 y3 y4 y5 y6 y7 y8)) ∧ (∀ y0 y1 y2 y3 y4 y5 y6 y7, LeO (posternref04_wrong.j1 k y0 y1 y2 y3 y4 y5 y6 y7) (posternref04_wrong.j1 (k + 1) y0 y1 y2 y3 y4 y5 y6 y7)) ∧ (∀ y0 y1 y2 y3 y4 y5 y6 y7, LeO (posternref04_wrong.j2 k y0 y1 y2 y3 y4 y5 y6 y7) (posternref04_wrong.j2 (k + 1) y0 y1 y2 y3 y4 y5 y6 y7)) ∧ (∀ y0 y1 y2 y3 y4 y5 y6, LeO (posternref04_wrong.j3 k y0 y1 y2 y3 y4 y5 y6) (posternref04_wrong.j3 (k + 1) y0 y1 y2 y3 y4 y5 y6))
 | 0 => by refine ⟨?_, ?_, ?_, ?_⟩ <;> (intros; intro r h; simp [posternref04_wrong.j0, posternref04_wrong.j1, posternref04_wrong.j2, posternref04_wrong.j3] at h)
 | k + 1 => by
  obtain ⟨ih0, ih1, ih2, ih3⟩ := posternref04_wrong.mono_l k; refine ⟨?_, ?_, ?_, ?_⟩
  all_goals intros
  all_goals (first | unfold posternref04_wrong.j0 | unfold posternref04_wrong.j1 | unfold posternref04_wrong.j2 | unfold posternref04_wrong.j3)
  all_goals repeat' (with_reducible first | apply ih0 | apply ih1 | apply ih2 | apply ih3 | exact LeO.refl _ | exact LeO.none _ | refine LeO.ite ?_ ?_ | refine LeO.bind ?_ (fun _ => ?_))
theorem posternref04_wrong.mono : ∀ a0 a1 a2 a3 a4 k, LeO (posternref04_wrong.f k a0 a1 a2 a3 a4) (posternref04_wrong.f (k + 1) a0 a1 a2 a3 a4) := by
 intro a0 a1 a2 a3 a4 k; obtain ⟨ih0, ih1, ih2, ih3⟩ := posternref04_wrong.mono_l k
 unfold posternref04_wrong.f
 repeat' (with_reducible first | apply ih0 | apply ih1 | apply ih2 | apply ih3 | exact LeO.refl _ | exact LeO.none _ | refine LeO.ite ?_ ?_ | refine LeO.bind ?_ (fun _ => ?_))
theorem posternref04_wrong.calls (k : Nat) (a0_0 : Int) (a0_1 : Int) (a0_2 : Int) (a0_3 : Int) (a0_4 : Int) (r : Bool) (w : World) (h : posternref04_wrong.f k a0_0 a0_1 a0_2 a0_3 a0_4 = some r) :
  Calls Try.prog 35 #[.agg #[.int .u8 a0_0, .int .u8 a0_1, .int .u8 a0_2, .int .i16 a0_3, .int .i32 a0_4]] w fun e w' => e = .returned (.bool r) ∧ Below w.heap.size w w' := by
 have hu43 := Try.underlying43; have HB := Aside0.mk (Below.refl w.heap.size w); have H : (if a0_1 = 10 then (if (Int.tmod (wrap64 (a0_0)) 8) = 0 then (posternref04_wrong.j0 k (Int.tmod (wrap64 (a0_0)) 8) (wrap64 (Int.tdiv (wrap64 (a0_0)) 16)) ((Int.tmod (wrap64 (Int.tdiv (wrap64 (a0_0)) 8)) 2) == 1) true a0_0 a0_1 a0_2 a0_3 a0_4) else (if (Int.tmod (wrap64 (a0_0)) 8) = 1 then (posternref04_wrong.j0 k (Int.tmod (wrap64 (a0_0)) 8) (wrap64 (Int.tdiv (wrap64 (a0_0)) 16)) ((Int.tmod (wrap64 (Int.tdiv (wrap64 (a0_0)) 8)) 2) == 1) true a0_0 a0_1 a0_2 a0_3 a0_4) else (if (Int.tmod (wrap64 (a0_0)) 8) = 4 then (posternref04_wrong.j0 k (Int.tmod (wrap64 (a0_0)) 8) (wrap64 (Int.tdiv (wrap64 (a0_0)) 16)) ((Int.tmod (wrap64 (Int.tdiv (wrap64 (a0_0)) 8)) 2) == 1) true a0_0 a0_1 a0_2 a0_3 a0_4) else (posternref04_wrong.j0 k (Int.tmod (wrap64 (a0_0)) 8) (wrap64 (Int.tdiv (wrap64 (a0_0)) 16)) ((Int.tmod (wrap64 (Int.tdiv (wrap64 (a0_0)) 8)) 2) == 1) ((Int.tmod (wrap64 (a0_0)) 8) == 7) a0_0 a0_1 a0_2 a0_3 a0_4)))) else (posternref04_wrong.j0 k (Int.tmod (wrap64 (a0_0)) 8) (wrap64 (Int.tdiv (wrap64 (a0_0)) 16)) ((Int.tmod (wrap64 (Int.tdiv (wrap64 (a0_0)) 8)) 2) == 1) false a0_0 a0_1 a0_2 a0_3 a0_4)) = some r := h; clear h; have HC2 := Aside0.mk H; clear H; go_enter Try.func35, Try.ntmps35
 go_upto_region 3 with (first | ((with_reducible refine gate_dst (N := 1) rfl ?_); refine box_event ?hg (N := 1) ?hd (cs := #[.int .u8 a0_0, .int .u8 a0_1, .int .u8 a0_2, .int .i16 a0_3, .int .i32 a0_4]) (t := 43) ?hr ?_; (case hd => rfl); (case hg => rfl); (case hr => first | (go_simp; done) | (go_simp; rfl)); intro gb299 hg w3 hbox hb; have n_ : _ ∧ _ ∧ _ ∧ _ := ⟨k_ (below_step (bl_ HB.out) hb), k_ (hbox), k_ ((by rw [hg]; exact (below_size (bl_ HB.out)) : w.heap.size ≤ gb299)), k_ ((by rw [hg]; exact (below_size (bl_ HB.out)) : w.heap.size ≤ gb299))⟩; clear HB; obtain ⟨HB, BK299, GW299, GE299⟩ := n_; clear hb hbox hg; obtain ⟨⟨hcz4_0, hcz4_1, hcz4_2, hcz4_3, hcz4_4⟩, hfz4_0, hfz4_1, hfz4_2, hfz4_3, hfz4_4⟩ := blk5_ BK299.out))
 (try simp only [Act.put, List.setIfInBounds_toArray, List.set_cons_zero, List.set_cons_succ]); go_cut [37] (fun v37 wc => ∃ (kq : Nat) (x37_1 : Bool), v37 = .bool x37_1 ∧ Aside0 (posternref04_wrong.j0 kq (Int.tmod (wrap64 (a0_0)) 8) (wrap64 (Int.tdiv (wrap64 (a0_0)) 16)) ((Int.tmod (wrap64 (Int.tdiv (wrap64 (a0_0)) 8)) 2) == 1) x37_1 a0_0 a0_1 a0_2 a0_3 a0_4 = some r) ∧ Aside0 (kq ≤ k) ∧ Aside0 (wc.heap[gb299]? = some (.cells #[.int .u8 a0_0, .int .u8 a0_1, .int .u8 a0_2, .int .i16 a0_3, .int .i32 a0_4] 43 (0, 0))) ∧ Aside0 (Below w.heap.size w wc))
 case first =>
  have H := HC2.out; clear HC2
  by_cases c5 : a0_1 = 10
  ·
   rw [if_pos c5] at H
   have ⟨c5b0, c5b1⟩ := eqb_ c5; clear c5; (first | rw [c5b0] | (simp only [i64_w, i32_w]; rw [c5b0]) | skip)
   by_cases c6 : (Int.tmod (wrap64 (a0_0)) 8) = 0
   ·
    rw [if_pos c6] at H
    have ⟨c6b0, c6b1⟩ := eqb_ c6; clear c6; have H' := Aside0.mk H; clear H; obtain ⟨⟨hcz7_0, hcz7_1, hcz7_2, hcz7_3, hcz7_4⟩, hfz7_0, hfz7_1, hfz7_2, hfz7_3, hfz7_4⟩ := blk5_ BK299.out; go_wp2; go_meet
    case rel => exact ⟨_, (true), eq_, H', ⟨by first | omega | exact Nat.le_refl _⟩, ⟨bk_ BK299.out⟩, ⟨bm_ HB.out GE299.out⟩⟩
   ·
    rw [if_neg c6] at H
    have ⟨c6b0, c6b1⟩ := nqb_ c6
    by_cases c8 : (Int.tmod (wrap64 (a0_0)) 8) = 1
    ·
     rw [if_pos c8] at H
     have ⟨c8b0, c8b1⟩ := eqb_ c8; clear c8; have H' := Aside0.mk H; clear H; obtain ⟨⟨hcz9_0, hcz9_1, hcz9_2, hcz9_3, hcz9_4⟩, hfz9_0, hfz9_1, hfz9_2, hfz9_3, hfz9_4⟩ := blk5_ BK299.out; go_wp2; go_meet
     case rel => exact ⟨_, (true), eq_, H', ⟨by first | omega | exact Nat.le_refl _⟩, ⟨bk_ BK299.out⟩, ⟨bm_ HB.out GE299.out⟩⟩
    ·
     rw [if_neg c8] at H
     have ⟨c8b0, c8b1⟩ := nqb_ c8
     by_cases c10 : (Int.tmod (wrap64 (a0_0)) 8) = 4
     ·
      rw [if_pos c10] at H
      have ⟨c10b0, c10b1⟩ := eqb_ c10; clear c10; have H' := Aside0.mk H; clear H; obtain ⟨⟨hcz11_0, hcz11_1, hcz11_2, hcz11_3, hcz11_4⟩, hfz11_0, hfz11_1, hfz11_2, hfz11_3, hfz11_4⟩ := blk5_ BK299.out; go_wp2; go_meet
      case rel => exact ⟨_, (true), eq_, H', ⟨by first | omega | exact Nat.le_refl _⟩, ⟨bk_ BK299.out⟩, ⟨bm_ HB.out GE299.out⟩⟩
     ·
      rw [if_neg c10] at H
      have ⟨c10b0, c10b1⟩ := nqb_ c10; have H' := Aside0.mk H; clear H; obtain ⟨⟨hcz12_0, hcz12_1, hcz12_2, hcz12_3, hcz12_4⟩, hfz12_0, hfz12_1, hfz12_2, hfz12_3, hfz12_4⟩ := blk5_ BK299.out; go_wp2; go_meet
      case rel => exact ⟨_, (((Int.tmod (wrap64 (a0_0)) 8) == 7)), eq_, H', ⟨by first | omega | exact Nat.le_refl _⟩, ⟨bk_ BK299.out⟩, ⟨bm_ HB.out GE299.out⟩⟩
  ·
   rw [if_neg c5] at H
   have ⟨c5b0, c5b1⟩ := nqb_ c5; (first | rw [c5b0] | (simp only [i64_w, i32_w]; rw [c5b0]) | skip); have H' := Aside0.mk H; clear H; obtain ⟨⟨hcz13_0, hcz13_1, hcz13_2, hcz13_3, hcz13_4⟩, hfz13_0, hfz13_1, hfz13_2, hfz13_3, hfz13_4⟩ := blk5_ BK299.out; go_wp2; go_meet
   case rel => exact ⟨_, (false), eq_, H', ⟨by first | omega | exact Nat.le_refl _⟩, ⟨bk_ BK299.out⟩, ⟨bm_ HB.out GE299.out⟩⟩
 case rest =>
  clear HC2 hcz4_0 hcz4_1 hcz4_2 hcz4_3 hcz4_4 hfz4_0 hfz4_1 hfz4_2 hfz4_3 hfz4_4; obtain ⟨kq, x37_1, rfl, HA, HJ1, BK299, HB⟩ := hcut
  cases kq with
  | zero => exact absurd HA.out (by simp [posternref04_wrong.j0])
  | succ kj1 =>
   have H := HA.out; clear HA; simp only [posternref04_wrong.j0] at H
   by_cases c14 : x37_1 = true
   ·
    subst c14
    rw [if_pos rfl] at H; obtain rfl := Option.some.inj H; go_wp2; go_ret
    exact ⟨rr_, bm_ HB.out GE299.out⟩
   ·
    replace c14 := Bool.eq_false_iff.mpr c14
    subst c14; rw [if_neg (show ¬ (false = true) by decide)] at H; have HC15 := Aside0.mk H; clear H; go_upto_region 5 with (fail)
    go_cut [46] (fun v46 wc => ∃ (kq : Nat) (x46_14 : Bool), v46 = .bool x46_14 ∧ Aside0 (posternref04_wrong.j1 kq (Int.tmod (wrap64 (a0_0)) 8) (wrap64 (Int.tdiv (wrap64 (a0_0)) 16)) x46_14 a0_0 a0_1 a0_2 a0_3 a0_4 = some r) ∧ Aside0 (kq ≤ kj1) ∧ Aside0 (wc.heap[gb299]? = some (.cells #[.int .u8 a0_0, .int .u8 a0_1, .int .u8 a0_2, .int .i16 a0_3, .int .i32 a0_4] 43 (0, 0))) ∧ Aside0 (Below w.heap.size w wc))
    case first =>
     have H := HC15.out; clear HC15
     by_cases c16 : (Int.tmod (wrap64 (a0_0)) 8) = 4
     ·
      rw [if_pos c16] at H
      have ⟨c16b0, c16b1⟩ := eqb_ c16; clear c16; (first | rw [c16b0] | (simp only [i64_w, i32_w]; rw [c16b0]) | skip); have H' := Aside0.mk H; clear H; go_wp2; go_meet
      case rel => exact ⟨_, (((Int.tmod (wrap64 (Int.tdiv (wrap64 (a0_0)) 8)) 2) == 1)), eq_, H', ⟨by have := HJ1.out; first | omega | exact Nat.le_refl _⟩, ⟨bk_ BK299.out⟩, ⟨bm_ HB.out GE299.out⟩⟩
     ·
      rw [if_neg c16] at H
      have ⟨c16b0, c16b1⟩ := nqb_ c16; (first | rw [c16b0] | (simp only [i64_w, i32_w]; rw [c16b0]) | skip)
      by_cases c17 : (Int.tmod (wrap64 (a0_0)) 8) = 7
      ·
       rw [if_pos c17] at H
       have ⟨c17b0, c17b1⟩ := eqb_ c17; clear c17; have H' := Aside0.mk H; clear H; go_wp2; go_meet
       case rel => exact ⟨_, (((Int.tmod (wrap64 (Int.tdiv (wrap64 (a0_0)) 8)) 2) == 1)), eq_, H', ⟨by have := HJ1.out; first | omega | exact Nat.le_refl _⟩, ⟨bk_ BK299.out⟩, ⟨bm_ HB.out GE299.out⟩⟩
      ·
       rw [if_neg c17] at H
       have ⟨c17b0, c17b1⟩ := nqb_ c17; have H' := Aside0.mk H; clear H; go_wp2; go_meet
       case rel => exact ⟨_, (true), eq_, H', ⟨by have := HJ1.out; first | omega | exact Nat.le_refl _⟩, ⟨bk_ BK299.out⟩, ⟨bm_ HB.out GE299.out⟩⟩
    case rest =>
     clear HC15; obtain ⟨kq, x46_14, rfl, HA, HJ14, BK299, HB⟩ := hcut
     cases kq with
     | zero => exact absurd HA.out (by simp [posternref04_wrong.j1])
     | succ kj14 =>
      have H := HA.out; clear HA; simp only [posternref04_wrong.j1] at H
      by_cases c18 : x46_14 = true
      ·
       subst c18
       rw [if_pos rfl] at H; obtain rfl := Option.some.inj H; go_wp2; go_ret
       exact ⟨rr_, bm_ HB.out GE299.out⟩
      ·
       replace c18 := Bool.eq_false_iff.mpr c18
       subst c18; rw [if_neg (show ¬ (false = true) by decide)] at H; have HC19 := Aside0.mk H; clear H; go_upto_region 7 with (fail)
       go_cut [52] (fun v52 wc => ∃ (kq : Nat) (x52_18 : Bool), v52 = .bool x52_18 ∧ Aside0 (posternref04_wrong.j2 kq (Int.tmod (wrap64 (a0_0)) 8) (wrap64 (Int.tdiv (wrap64 (a0_0)) 16)) x52_18 a0_0 a0_1 a0_2 a0_3 a0_4 = some r) ∧ Aside0 (kq ≤ kj14) ∧ Aside0 (wc.heap[gb299]? = some (.cells #[.int .u8 a0_0, .int .u8 a0_1, .int .u8 a0_2, .int .i16 a0_3, .int .i32 a0_4] 43 (0, 0))) ∧ Aside0 (Below w.heap.size w wc))
       case first =>
        have H := HC19.out; clear HC19
        by_cases c20 : (wrap64 (Int.tdiv (wrap64 (a0_0)) 16)) = 3
        ·
         rw [if_pos c20] at H
         have ⟨c20b0, c20b1⟩ := eqb_ c20; clear c20; (first | rw [c20b0] | (simp only [i64_w, i32_w]; rw [c20b0]) | skip); have H' := Aside0.mk H; clear H; go_wp2; go_meet
         case rel => exact ⟨_, (true), eq_, H', ⟨by have := HJ1.out; have := HJ14.out; first | omega | exact Nat.le_refl _⟩, ⟨bk_ BK299.out⟩, ⟨bm_ HB.out GE299.out⟩⟩
        ·
         rw [if_neg c20] at H
         have ⟨c20b0, c20b1⟩ := nqb_ c20; (first | rw [c20b0] | (simp only [i64_w, i32_w]; rw [c20b0]) | skip); have H' := Aside0.mk H; clear H; go_wp2; go_meet
         case rel => exact ⟨_, (((wrap64 (Int.tdiv (wrap64 (a0_0)) 16)) == 9)), eq_, H', ⟨by have := HJ1.out; have := HJ14.out; first | omega | exact Nat.le_refl _⟩, ⟨bk_ BK299.out⟩, ⟨bm_ HB.out GE299.out⟩⟩
       case rest =>
        clear HC19; obtain ⟨kq, x52_18, rfl, HA, HJ18, BK299, HB⟩ := hcut
        cases kq with
        | zero => exact absurd HA.out (by simp [posternref04_wrong.j2])
        | succ kj18 =>
         have H := HA.out; clear HA; simp only [posternref04_wrong.j2] at H
         by_cases c21 : x52_18 = true
         ·
          subst c21
          rw [if_pos rfl] at H; obtain rfl := Option.some.inj H; obtain ⟨⟨hcz22_0, hcz22_1, hcz22_2, hcz22_3, hcz22_4⟩, hfz22_0, hfz22_1, hfz22_2, hfz22_3, hfz22_4⟩ := blk5_ BK299.out; go_wp2; go_ret
          exact ⟨rr_, bm_ HB.out GE299.out⟩
         ·
          replace c21 := Bool.eq_false_iff.mpr c21
          subst c21; rw [if_neg (show ¬ (false = true) by decide)] at H; have HC23 := Aside0.mk H; clear H; go_upto_region 9 with (fail)
          go_cut [65] (fun v65 wc => ∃ (kq : Nat) (x65_22 : Bool), v65 = .bool x65_22 ∧ Aside0 (posternref04_wrong.j3 kq (Int.tmod (wrap64 (a0_0)) 8) x65_22 a0_0 a0_1 a0_2 a0_3 a0_4 = some r) ∧ Aside0 (kq ≤ kj18) ∧ Aside0 (wc.heap[gb299]? = some (.cells #[.int .u8 a0_0, .int .u8 a0_1, .int .u8 a0_2, .int .i16 a0_3, .int .i32 a0_4] 43 (0, 0))) ∧ Aside0 (Below w.heap.size w wc))
          case first =>
           have H := HC23.out; clear HC23
           by_cases c24 : (wrap64 (Int.tdiv (wrap64 (a0_0)) 16)) = 6
           ·
            rw [if_pos c24] at H
            have ⟨c24b0, c24b1⟩ := eqb_ c24; clear c24; (first | rw [c24b0] | (simp only [i64_w, i32_w]; rw [c24b0]) | skip); have H' := Aside0.mk H; clear H; go_wp2; go_meet
            case rel => exact ⟨_, (true), eq_, H', ⟨by have := HJ1.out; have := HJ14.out; have := HJ18.out; first | omega | exact Nat.le_refl _⟩, ⟨bk_ BK299.out⟩, ⟨bm_ HB.out GE299.out⟩⟩
           ·
            rw [if_neg c24] at H
            have ⟨c24b0, c24b1⟩ := nqb_ c24; (first | rw [c24b0] | (simp only [i64_w, i32_w]; rw [c24b0]) | skip)
            by_cases c25 : (wrap64 (Int.tdiv (wrap64 (a0_0)) 16)) = 7
            ·
             rw [if_pos c25] at H
             have ⟨c25b0, c25b1⟩ := eqb_ c25; clear c25; have H' := Aside0.mk H; clear H; go_wp2; go_meet
             case rel => exact ⟨_, (true), eq_, H', ⟨by have := HJ1.out; have := HJ14.out; have := HJ18.out; first | omega | exact Nat.le_refl _⟩, ⟨bk_ BK299.out⟩, ⟨bm_ HB.out GE299.out⟩⟩
            ·
             rw [if_neg c25] at H
             have ⟨c25b0, c25b1⟩ := nqb_ c25; have H' := Aside0.mk H; clear H; go_wp2; go_meet
             case rel => exact ⟨_, (((wrap64 (Int.tdiv (wrap64 (a0_0)) 16)) == 12)), eq_, H', ⟨by have := HJ1.out; have := HJ14.out; have := HJ18.out; first | omega | exact Nat.le_refl _⟩, ⟨bk_ BK299.out⟩, ⟨bm_ HB.out GE299.out⟩⟩
          case rest =>
           clear HC23; obtain ⟨kq, x65_22, rfl, HA, HJ22, BK299, HB⟩ := hcut
           cases kq with
           | zero => exact absurd HA.out (by simp [posternref04_wrong.j3])
           | succ kj22 =>
            have H := HA.out; clear HA; simp only [posternref04_wrong.j3] at H
            by_cases c26 : x65_22 = true
            ·
             subst c26
             rw [if_pos rfl] at H
             by_cases c27 : (Int.tmod (wrap64 (a0_0)) 8) = 4
             ·
              rw [if_pos c27] at H
              have ⟨c27b0, c27b1⟩ := eqb_ c27; clear c27
              by_cases c28 : a0_4 < 0
              ·
               rw [if_pos c28] at H
               have c28b0 := decide_eq_true c28; clear c28; obtain rfl := Option.some.inj H; obtain ⟨⟨hcz29_0, hcz29_1, hcz29_2, hcz29_3, hcz29_4⟩, hfz29_0, hfz29_1, hfz29_2, hfz29_3, hfz29_4⟩ := blk5_ BK299.out; go_wp2; go_ret
               exact ⟨rr_, bm_ HB.out GE299.out⟩
              ·
               rw [if_neg c28] at H
               have c28b0 := decide_eq_false c28; clear c28; obtain rfl := Option.some.inj H; obtain ⟨⟨hcz30_0, hcz30_1, hcz30_2, hcz30_3, hcz30_4⟩, hfz30_0, hfz30_1, hfz30_2, hfz30_3, hfz30_4⟩ := blk5_ BK299.out; go_wp2; go_ret
               exact ⟨rr_, bm_ HB.out GE299.out⟩
             ·
              rw [if_neg c27] at H
              have ⟨c27b0, c27b1⟩ := nqb_ c27
              by_cases c31 : a0_4 < 0
              ·
               rw [if_pos c31] at H
               have c31b0 := decide_eq_true c31; clear c31; obtain rfl := Option.some.inj H; obtain ⟨⟨hcz32_0, hcz32_1, hcz32_2, hcz32_3, hcz32_4⟩, hfz32_0, hfz32_1, hfz32_2, hfz32_3, hfz32_4⟩ := blk5_ BK299.out; go_wp2; go_ret
               exact ⟨rr_, bm_ HB.out GE299.out⟩
              ·
               rw [if_neg c31] at H
               have c31b0 := decide_eq_false c31; clear c31; obtain rfl := Option.some.inj H; obtain ⟨⟨hcz33_0, hcz33_1, hcz33_2, hcz33_3, hcz33_4⟩, hfz33_0, hfz33_1, hfz33_2, hfz33_3, hfz33_4⟩ := blk5_ BK299.out; go_wp2; go_ret
               exact ⟨rr_, bm_ HB.out GE299.out⟩
            ·
             replace c26 := Bool.eq_false_iff.mpr c26
             subst c26; rw [if_neg (show ¬ (false = true) by decide)] at H; obtain rfl := Option.some.inj H; go_wp2; go_ret
             exact ⟨rr_, bm_ HB.out GE299.out⟩

end Go.Proofs.Ytmijlibnembkaaa.PA
