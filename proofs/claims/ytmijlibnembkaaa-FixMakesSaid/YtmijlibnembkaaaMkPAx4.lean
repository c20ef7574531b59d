-- Printed by wip/tools/extprint.py over the kit's printer, with contracts of this session's own. Lean checks it.
import Derived.Test.YtmijlibnembkaaaMkPAx0
import Derived.Test.YtmijlibnembkaaaMkPAx3
namespace Go.Proofs.Ytmijlibnembkaaa.PA
open Go.RowKit Go.Proofs.YtmijlibnembkaaaW.PrintWords Go.Proofs.YtmijlibnembkaaaW.PrintLast Go.Proofs.YtmijlibnembkaaaW.PrintMore
attribute [local go_sem] max2_int min2_int max_two min_two max_three min_three max_four min_four   -- for this text's walks alone
set_option linter.unusedVariables false
set_option maxHeartbeats 8000000
set_option maxRecDepth 100000
set_option linter.unusedSimpArgs false

/-! ### insn_without: function 47 -/
mutual
def insn_without.j0 : Nat → Int → Bool → Int → Int → Int → Int → Int → Option (Int × Int × Int × Int × Int)
 | 0, _, _, _, _, _, _, _ => none
 | k + 1, x3, x16, x111000, x111001, x111002, x111003, x111004 => if x16 = true then (some (x111000, 0, 0, 0, x111004)) else (if x3 = 2 then (some (x111000, 0, x111002, 0, 0)) else (if x3 = 4 then (insn_without.j1 k true x111000 x111001 x111002 x111003 x111004) else (insn_without.j1 k (x3 == 7) x111000 x111001 x111002 x111003 x111004)))
def insn_without.j1 : Nat → Bool → Int → Int → Int → Int → Int → Option (Int × Int × Int × Int × Int)
 | 0, _, _, _, _, _, _ => none
 | k + 1, x32, x111000, x111001, x111002, x111003, x111004 => if x32 = true then ((insn_Kind.f x111000).bind fun t113 => (if t113 = 128 then (some (x111000, 0, x111002, x111003, x111004)) else ((insn_ByReg.f x111000).bind fun t114 => (if t114 = true then (some (x111000, 0, 0, x111003, x111004)) else (some (x111000, 0, x111002, x111003, 0)))))) else (if x111000 = 5 then (some (x111000, x111001, x111002, 0, x111004)) else (if x111000 = 133 then (some (x111000, x111001, 0, x111003, 0)) else (if x111000 = 149 then (some (x111000, x111001, x111002, x111003, x111004)) else ((insn_ByReg.f x111000).bind fun t115 => (if t115 = true then (some (x111000, 0, 0, 0, x111004)) else (some (x111000, 0, x111002, 0, 0)))))))
end
def insn_without.f (k : Nat) (a0_0 : Int) (a0_1 : Int) (a0_2 : Int) (a0_3 : Int) (a0_4 : Int) : Option (Int × Int × Int × Int × Int) := (insn_Class.f a0_0).bind fun t112 => (if t112 = 0 then (some (a0_0, 0, 0, a0_3, 0)) else (if t112 = 1 then (insn_without.j0 k t112 true a0_0 a0_1 a0_2 a0_3 a0_4) else (insn_without.j0 k t112 (t112 == 3) a0_0 a0_1 a0_2 a0_3 a0_4)))
theorem insn_without.mono_l : ∀ k, (∀ y0 y1 y2 y3 y4 y5 y6, LeO (insn_without.j0 k y0 y1 y2 y3 y4 y5 y6) (insn_without.j0 (k + 1) y0 y1 y2 y3 y4 y5 y6)) ∧ (∀ y0 y1 y2 y3 y4 y5, LeO (insn_without.j1 k y0 y1 y2 y3 y4 y5) (insn_without.j1 (k + 1) y0 y1 y2 y3 y4 y5))
 | 0 => by refine ⟨?_, ?_⟩ <;> (intros; intro r h; simp [insn_without.j0, insn_without.j1] at h)
 | k + 1 => by
  obtain ⟨ih0, ih1⟩ := insn_without.mono_l k; refine ⟨?_, ?_⟩
  all_goals intros
  all_goals (first | unfold insn_without.j0 | unfold insn_without.j1)
  all_goals repeat' (with_reducible first | apply ih0 | apply ih1 | exact LeO.refl _ | exact LeO.none _ | refine LeO.ite ?_ ?_ | refine LeO.bind ?_ (fun _ => ?_))
theorem insn_without.mono : ∀ a0 a1 a2 a3 a4 k, LeO (insn_without.f k a0 a1 a2 a3 a4) (insn_without.f (k + 1) a0 a1 a2 a3 a4) := by
 intro a0 a1 a2 a3 a4 k; obtain ⟨ih0, ih1⟩ := insn_without.mono_l k
 unfold insn_without.f
 repeat' (with_reducible first | apply ih0 | apply ih1 | exact LeO.refl _ | exact LeO.none _ | refine LeO.ite ?_ ?_ | refine LeO.bind ?_ (fun _ => ?_))
theorem insn_without.calls (k : Nat) (a0_0 : Int) (a0_1 : Int) (a0_2 : Int) (a0_3 : Int) (a0_4 : Int) (r1 : Int) (r2 : Int) (r3 : Int) (r4 : Int) (r5 : Int) (w : World) (h : insn_without.f k a0_0 a0_1 a0_2 a0_3 a0_4 = some (r1, r2, r3, r4, r5)) :
  Calls Try.prog 47 #[.agg #[.int .u8 a0_0, .int .u8 a0_1, .int .u8 a0_2, .int .i16 a0_3, .int .i32 a0_4]] w fun e w' => e = .returned (.agg #[.int .u8 r1, .int .u8 r2, .int .u8 r3, .int .i16 r4, .int .i32 r5]) ∧ Below w.heap.size w w' := by
 have hu43 := Try.underlying43; have HB := Aside0.mk (Below.refl w.heap.size w); have H : ((insn_Class.f a0_0).bind fun t112 => (if t112 = 0 then (some (a0_0, 0, 0, a0_3, 0)) else (if t112 = 1 then (insn_without.j0 k t112 true a0_0 a0_1 a0_2 a0_3 a0_4) else (insn_without.j0 k t112 (t112 == 3) a0_0 a0_1 a0_2 a0_3 a0_4)))) = some (r1, r2, r3, r4, r5) := h; clear h; replace H := bs_ H; obtain ⟨t112, A2, H⟩ := H; (try dsimp only at H)
 by_cases c3 : t112 = 0
 ·
  rw [if_pos c3] at H
  have ⟨c3b0, c3b1⟩ := eqb_ c3; clear c3; simp only [Option.some.injEq, Prod.mk.injEq] at H; obtain ⟨rfl, rfl, rfl, rfl, rfl⟩ := H; go_enter Try.func47, Try.ntmps47
  go_wp2_with (first | ((with_reducible refine gate_dst (N := 1) rfl ?_); refine box_event ?hg (N := 1) ?hd (cs := #[.int .u8 a0_0, .int .u8 a0_1, .int .u8 a0_2, .int .i16 a0_3, .int .i32 a0_4]) (t := 43) ?hr ?_; (case hd => rfl); (case hg => rfl); (case hr => first | (go_simp; done) | (go_simp; rfl)); intro gb110 hg w4 hbox hb; have n_ : _ ∧ _ ∧ _ ∧ _ := ⟨k_ (below_step (bl_ HB.out) hb), k_ (hbox), k_ ((by rw [hg]; exact (below_size (bl_ HB.out)) : w.heap.size ≤ gb110)), k_ ((by rw [hg]; exact (below_size (bl_ HB.out)) : w.heap.size ≤ gb110))⟩; clear HB; obtain ⟨HB, BK110, GW110, GE110⟩ := n_; clear hb hbox hg) | ((with_reducible refine gate_dst (N := 2) rfl ?_); refine box_event ?hg (N := 2) ?hd (cs := #[.int .u8 0, .int .u8 0, .int .u8 0, .int .i16 0, .int .i32 0]) (t := 43) ?hr ?_; (case hd => rfl); (case hg => rfl); (case hr => first | (go_simp; done) | (go_simp; rfl)); intro gb111 hg w5 hbox hb; have n_ : _ ∧ _ ∧ _ ∧ _ ∧ _ ∧ _ ∧ _ := ⟨k_ (blk_below (g := gb110) (o := .cells #[.int .u8 a0_0, .int .u8 a0_1, .int .u8 a0_2, .int .i16 a0_3, .int .i32 a0_4] 43 (0, 0)) (bk_ BK110.out) hb), k_ (below_step (bm_ HB.out GE110.out) hb), k_ (hbox), k_ ((by rw [hg]; exact (below_size (bm_ HB.out GE110.out)) : w.heap.size ≤ gb111)), k_ ((by rw [hg]; exact (below_size (bm_ HB.out GE110.out)) : w.heap.size ≤ gb111)), k_ ((by rw [hg]; exact Nat.ne_of_lt (blk_lt (g := gb110) (o := .cells #[.int .u8 a0_0, .int .u8 a0_1, .int .u8 a0_2, .int .i16 a0_3, .int .i32 a0_4] 43 (0, 0)) (bk_ BK110.out)) : gb110 ≠ gb111)), k_ ((by rw [hg]; exact Nat.ne_of_gt (blk_lt (g := gb110) (o := .cells #[.int .u8 a0_0, .int .u8 a0_1, .int .u8 a0_2, .int .i16 a0_3, .int .i32 a0_4] 43 (0, 0)) (bk_ BK110.out)) : gb111 ≠ gb110))⟩; clear BK110 HB; obtain ⟨BK110, HB, BK111, GW111, GE111, NB110_111, NB111_110⟩ := n_; clear hb hbox hg; have hnb6 := NB110_111.out; have hnc6 := NB111_110.out; obtain ⟨⟨hcz7_0, hcz7_1, hcz7_2, hcz7_3, hcz7_4⟩, hfz7_0, hfz7_1, hfz7_2, hfz7_3, hfz7_4⟩ := blk5_ BK110.out) | ((with_reducible refine gate_callee (f := 48) rfl ?_); refine goesL_ (some 6) rfl rfl Try.func48 (by kernel_rfl) rfl #[.int .u8 a0_0] rfl am_ ?_; (with_reducible refine (insn_Class.calls a0_0 t112 _ A2.out).mono ?_); rintro e w' ⟨rfl, ⟨nd, rfl⟩⟩; refine ⟨_, rfl, ?_⟩; (try (rw [drewN_self w5]; generalize hq_ : World.drewN w5 _ = w5; have n0_ : Aside0 (w5.heap[gb110]? = some (.cells #[.int .u8 a0_0, .int .u8 a0_1, .int .u8 a0_2, .int .i16 a0_3, .int .i32 a0_4] 43 (0, 0))) := ⟨by rw [← hq_]; exact (bk_ BK110.out)⟩; have n1_ : Aside0 (w5.heap[gb111]? = some (.cells #[.int .u8 0, .int .u8 0, .int .u8 0, .int .i16 0, .int .i32 0] 43 (0, 0))) := ⟨by rw [← hq_]; exact (bk_ BK111.out)⟩; have n2_ : Aside0 (Below w.heap.size w w5) := ⟨by rw [← hq_]; exact (bm2_ HB.out GE110.out GE111.out)⟩; clear BK110 BK111 HB hq_; have BK110 := n0_; have BK111 := n1_; have HB := n2_; clear n0_ n1_ n2_)); (try have hczu8_0 : w5.cell? ⟨gb110, 0, none⟩ = some (.int .u8 a0_0) := (blk_cell BK110.out 0).trans rfl); (try have hczu8_1 : w5.cell? ⟨gb110, 1, none⟩ = some (.int .u8 a0_1) := (blk_cell BK110.out 1).trans rfl); (try have hczu8_2 : w5.cell? ⟨gb110, 2, none⟩ = some (.int .u8 a0_2) := (blk_cell BK110.out 2).trans rfl); (try have hczu8_3 : w5.cell? ⟨gb110, 3, none⟩ = some (.int .i16 a0_3) := (blk_cell BK110.out 3).trans rfl); (try have hczu8_4 : w5.cell? ⟨gb110, 4, none⟩ = some (.int .i32 a0_4) := (blk_cell BK110.out 4).trans rfl); have hfzu8_0 := blk_frozen BK110.out 0; have hfzu8_1 := blk_frozen BK110.out 1; have hfzu8_2 := blk_frozen BK110.out 2; have hfzu8_3 := blk_frozen BK110.out 3; have hfzu8_4 := blk_frozen BK110.out 4; (try have hczu9_0 : w5.cell? ⟨gb111, 0, none⟩ = some (.int .u8 0) := (blk_cell BK111.out 0).trans rfl); (try have hczu9_1 : w5.cell? ⟨gb111, 1, none⟩ = some (.int .u8 0) := (blk_cell BK111.out 1).trans rfl); (try have hczu9_2 : w5.cell? ⟨gb111, 2, none⟩ = some (.int .u8 0) := (blk_cell BK111.out 2).trans rfl); (try have hczu9_3 : w5.cell? ⟨gb111, 3, none⟩ = some (.int .i16 0) := (blk_cell BK111.out 3).trans rfl); (try have hczu9_4 : w5.cell? ⟨gb111, 4, none⟩ = some (.int .i32 0) := (blk_cell BK111.out 4).trans rfl); have hfzu9_0 := blk_frozen BK111.out 0; have hfzu9_1 := blk_frozen BK111.out 1; have hfzu9_2 := blk_frozen BK111.out 2; have hfzu9_3 := blk_frozen BK111.out 3; have hfzu9_4 := blk_frozen BK111.out 4; obtain ⟨⟨hcz10_0, hcz10_1, hcz10_2, hcz10_3, hcz10_4⟩, hfz10_0, hfz10_1, hfz10_2, hfz10_3, hfz10_4⟩ := blk5_ BK111.out))
  refine bodyPost_ret (results_cell_row rfl _ _ gb111 43 #[.int .u8 a0_0, .int .u8 0, .int .u8 0, .int .i16 a0_3, .int .i32 0] (0, 0) _ rfl (bz1_ BK111.out NB111_110.out) Try.underlying43 rfl (by kernel_rfl)) rfl ?_; exact ⟨rr_, bm2_ HB.out GE110.out GE111.out⟩
 ·
  rw [if_neg c3] at H
  have ⟨c3b0, c3b1⟩ := nqb_ c3; have HC11 := Aside0.mk H; clear H; go_enter Try.func47, Try.ntmps47
  go_upto_region 5 with (first | ((with_reducible refine gate_dst (N := 1) rfl ?_); refine box_event ?hg (N := 1) ?hd (cs := #[.int .u8 a0_0, .int .u8 a0_1, .int .u8 a0_2, .int .i16 a0_3, .int .i32 a0_4]) (t := 43) ?hr ?_; (case hd => rfl); (case hg => rfl); (case hr => first | (go_simp; done) | (go_simp; rfl)); intro gb110 hg w12 hbox hb; have n_ : _ ∧ _ ∧ _ ∧ _ := ⟨k_ (below_step (bl_ HB.out) hb), k_ (hbox), k_ ((by rw [hg]; exact (below_size (bl_ HB.out)) : w.heap.size ≤ gb110)), k_ ((by rw [hg]; exact (below_size (bl_ HB.out)) : w.heap.size ≤ gb110))⟩; clear HB; obtain ⟨HB, BK110, GW110, GE110⟩ := n_; clear hb hbox hg) | ((with_reducible refine gate_dst (N := 2) rfl ?_); refine box_event ?hg (N := 2) ?hd (cs := #[.int .u8 0, .int .u8 0, .int .u8 0, .int .i16 0, .int .i32 0]) (t := 43) ?hr ?_; (case hd => rfl); (case hg => rfl); (case hr => first | (go_simp; done) | (go_simp; rfl)); intro gb111 hg w13 hbox hb; have n_ : _ ∧ _ ∧ _ ∧ _ ∧ _ ∧ _ ∧ _ := ⟨k_ (blk_below (g := gb110) (o := .cells #[.int .u8 a0_0, .int .u8 a0_1, .int .u8 a0_2, .int .i16 a0_3, .int .i32 a0_4] 43 (0, 0)) (bk_ BK110.out) hb), k_ (below_step (bm_ HB.out GE110.out) hb), k_ (hbox), k_ ((by rw [hg]; exact (below_size (bm_ HB.out GE110.out)) : w.heap.size ≤ gb111)), k_ ((by rw [hg]; exact (below_size (bm_ HB.out GE110.out)) : w.heap.size ≤ gb111)), k_ ((by rw [hg]; exact Nat.ne_of_lt (blk_lt (g := gb110) (o := .cells #[.int .u8 a0_0, .int .u8 a0_1, .int .u8 a0_2, .int .i16 a0_3, .int .i32 a0_4] 43 (0, 0)) (bk_ BK110.out)) : gb110 ≠ gb111)), k_ ((by rw [hg]; exact Nat.ne_of_gt (blk_lt (g := gb110) (o := .cells #[.int .u8 a0_0, .int .u8 a0_1, .int .u8 a0_2, .int .i16 a0_3, .int .i32 a0_4] 43 (0, 0)) (bk_ BK110.out)) : gb111 ≠ gb110))⟩; clear BK110 HB; obtain ⟨BK110, HB, BK111, GW111, GE111, NB110_111, NB111_110⟩ := n_; clear hb hbox hg; have hnb14 := NB110_111.out; have hnc14 := NB111_110.out; obtain ⟨⟨hcz15_0, hcz15_1, hcz15_2, hcz15_3, hcz15_4⟩, hfz15_0, hfz15_1, hfz15_2, hfz15_3, hfz15_4⟩ := blk5_ BK110.out) | ((with_reducible refine gate_callee (f := 48) rfl ?_); refine goesL_ (some 6) rfl rfl Try.func48 (by kernel_rfl) rfl #[.int .u8 a0_0] rfl am_ ?_; (with_reducible refine (insn_Class.calls a0_0 t112 _ A2.out).mono ?_); rintro e w' ⟨rfl, ⟨nd, rfl⟩⟩; refine ⟨_, rfl, ?_⟩))
  (try simp only [Act.put, List.setIfInBounds_toArray, List.set_cons_zero, List.set_cons_succ]); go_cut [16] (fun v16 wc => ∃ (kq : Nat) (x16_10 : Bool), v16 = .bool x16_10 ∧ Aside0 (insn_without.j0 kq t112 x16_10 a0_0 a0_1 a0_2 a0_3 a0_4 = some (r1, r2, r3, r4, r5)) ∧ Aside0 (kq ≤ k) ∧ Aside0 (wc.heap[gb110]? = some (.cells #[.int .u8 a0_0, .int .u8 a0_1, .int .u8 a0_2, .int .i16 a0_3, .int .i32 a0_4] 43 (0, 0))) ∧ Aside0 (wc.heap[gb111]? = some (.cells #[.int .u8 0, .int .u8 0, .int .u8 0, .int .i16 0, .int .i32 0] 43 (0, 0))) ∧ Aside0 (Below w.heap.size w wc))
  case first =>
   have H := HC11.out; clear HC11
   by_cases c16 : t112 = 1
   ·
    rw [if_pos c16] at H
    have ⟨c16b0, c16b1⟩ := eqb_ c16; clear c16; (first | rw [c16b0] | (simp only [i64_w, i32_w]; rw [c16b0]) | skip); have H' := Aside0.mk H; clear H; go_wp2; go_meet
    case rel => exact ⟨_, (true), eq_, H', ⟨by first | omega | exact Nat.le_refl _⟩, ⟨bk_ BK110.out⟩, ⟨bk_ BK111.out⟩, ⟨bm2_ HB.out GE110.out GE111.out⟩⟩
   ·
    rw [if_neg c16] at H
    have ⟨c16b0, c16b1⟩ := nqb_ c16; (first | rw [c16b0] | (simp only [i64_w, i32_w]; rw [c16b0]) | skip); have H' := Aside0.mk H; clear H; go_wp2; go_meet
    case rel => exact ⟨_, ((t112 == 3)), eq_, H', ⟨by first | omega | exact Nat.le_refl _⟩, ⟨bk_ BK110.out⟩, ⟨bk_ BK111.out⟩, ⟨bm2_ HB.out GE110.out GE111.out⟩⟩
  case rest =>
   clear HC11 c3 c3b0 c3b1 hcz15_0 hcz15_1 hcz15_2 hcz15_3 hcz15_4 hfz15_0 hfz15_1 hfz15_2 hfz15_3 hfz15_4; obtain ⟨kq, x16_10, rfl, HA, HJ10, BK110, BK111, HB⟩ := hcut
   cases kq with
   | zero => exact absurd HA.out (by simp [insn_without.j0])
   | succ kj10 =>
    have H := HA.out; clear HA; simp only [insn_without.j0] at H
    by_cases c17 : x16_10 = true
    ·
     subst c17
     rw [if_pos rfl] at H; simp only [Option.some.injEq, Prod.mk.injEq] at H; obtain ⟨rfl, rfl, rfl, rfl, rfl⟩ := H; have hnb18 := NB110_111.out; have hnc18 := NB111_110.out; obtain ⟨⟨hcz19_0, hcz19_1, hcz19_2, hcz19_3, hcz19_4⟩, hfz19_0, hfz19_1, hfz19_2, hfz19_3, hfz19_4⟩ := blk5_ BK110.out; obtain ⟨⟨hcz20_0, hcz20_1, hcz20_2, hcz20_3, hcz20_4⟩, hfz20_0, hfz20_1, hfz20_2, hfz20_3, hfz20_4⟩ := blk5_ BK111.out; go_wp2; refine bodyPost_ret (results_cell_row rfl _ _ gb111 43 #[.int .u8 a0_0, .int .u8 0, .int .u8 0, .int .i16 0, .int .i32 a0_4] (0, 0) _ rfl (bz1_ BK111.out NB111_110.out) Try.underlying43 rfl (by kernel_rfl)) rfl ?_; exact ⟨rr_, bm2_ HB.out GE110.out GE111.out⟩
    ·
     replace c17 := Bool.eq_false_iff.mpr c17
     subst c17; rw [if_neg (show ¬ (false = true) by decide)] at H
     by_cases c21 : t112 = 2
     ·
      rw [if_pos c21] at H
      have ⟨c21b0, c21b1⟩ := eqb_ c21; clear c21; simp only [Option.some.injEq, Prod.mk.injEq] at H; obtain ⟨rfl, rfl, rfl, rfl, rfl⟩ := H; have hnb22 := NB110_111.out; have hnc22 := NB111_110.out; obtain ⟨⟨hcz23_0, hcz23_1, hcz23_2, hcz23_3, hcz23_4⟩, hfz23_0, hfz23_1, hfz23_2, hfz23_3, hfz23_4⟩ := blk5_ BK110.out; obtain ⟨⟨hcz24_0, hcz24_1, hcz24_2, hcz24_3, hcz24_4⟩, hfz24_0, hfz24_1, hfz24_2, hfz24_3, hfz24_4⟩ := blk5_ BK111.out; go_wp2; refine bodyPost_ret (results_cell_row rfl _ _ gb111 43 #[.int .u8 a0_0, .int .u8 0, .int .u8 a0_2, .int .i16 0, .int .i32 0] (0, 0) _ rfl (bz1_ BK111.out NB111_110.out) Try.underlying43 rfl (by kernel_rfl)) rfl ?_; exact ⟨rr_, bm2_ HB.out GE110.out GE111.out⟩
     ·
      rw [if_neg c21] at H
      have ⟨c21b0, c21b1⟩ := nqb_ c21; have HC25 := Aside0.mk H; clear H; go_upto_region 9 with (fail)
      go_cut [32] (fun v32 wc => ∃ (kq : Nat) (x32_24 : Bool), v32 = .bool x32_24 ∧ Aside0 (insn_without.j1 kq x32_24 a0_0 a0_1 a0_2 a0_3 a0_4 = some (r1, r2, r3, r4, r5)) ∧ Aside0 (kq ≤ kj10) ∧ Aside0 (wc.heap[gb110]? = some (.cells #[.int .u8 a0_0, .int .u8 a0_1, .int .u8 a0_2, .int .i16 a0_3, .int .i32 a0_4] 43 (0, 0))) ∧ Aside0 (wc.heap[gb111]? = some (.cells #[.int .u8 0, .int .u8 0, .int .u8 0, .int .i16 0, .int .i32 0] 43 (0, 0))) ∧ Aside0 (Below w.heap.size w wc))
      case first =>
       have H := HC25.out; clear HC25
       by_cases c26 : t112 = 4
       ·
        rw [if_pos c26] at H
        have ⟨c26b0, c26b1⟩ := eqb_ c26; clear c26; (first | rw [c26b0] | (simp only [i64_w, i32_w]; rw [c26b0]) | skip); have H' := Aside0.mk H; clear H; go_wp2; go_meet
        case rel => exact ⟨_, (true), eq_, H', ⟨by have := HJ10.out; first | omega | exact Nat.le_refl _⟩, ⟨bk_ BK110.out⟩, ⟨bk_ BK111.out⟩, ⟨bm2_ HB.out GE110.out GE111.out⟩⟩
       ·
        rw [if_neg c26] at H
        have ⟨c26b0, c26b1⟩ := nqb_ c26; (first | rw [c26b0] | (simp only [i64_w, i32_w]; rw [c26b0]) | skip); have H' := Aside0.mk H; clear H; go_wp2; go_meet
        case rel => exact ⟨_, ((t112 == 7)), eq_, H', ⟨by have := HJ10.out; first | omega | exact Nat.le_refl _⟩, ⟨bk_ BK110.out⟩, ⟨bk_ BK111.out⟩, ⟨bm2_ HB.out GE110.out GE111.out⟩⟩
      case rest =>
       clear HC25 c21 c21b0 c21b1; obtain ⟨kq, x32_24, rfl, HA, HJ24, BK110, BK111, HB⟩ := hcut
       cases kq with
       | zero => exact absurd HA.out (by simp [insn_without.j1])
       | succ kj24 =>
        have H := HA.out; clear HA; simp only [insn_without.j1] at H
        by_cases c27 : x32_24 = true
        ·
         subst c27
         rw [if_pos rfl] at H; replace H := bs_ H; obtain ⟨t113, A28, H⟩ := H; (try dsimp only at H)
         by_cases c29 : t113 = 128
         ·
          rw [if_pos c29] at H
          have ⟨c29b0, c29b1⟩ := eqb_ c29; clear c29; simp only [Option.some.injEq, Prod.mk.injEq] at H; obtain ⟨rfl, rfl, rfl, rfl, rfl⟩ := H; have hnb30 := NB110_111.out; have hnc30 := NB111_110.out; obtain ⟨⟨hcz31_0, hcz31_1, hcz31_2, hcz31_3, hcz31_4⟩, hfz31_0, hfz31_1, hfz31_2, hfz31_3, hfz31_4⟩ := blk5_ BK110.out; go_wp2_with (first | ((with_reducible refine gate_callee (f := 50) rfl ?_); refine goesL_ (some 44) rfl rfl Try.func50 (by kernel_rfl) rfl #[.int .u8 a0_0] rfl am_ ?_; (with_reducible refine (insn_Kind.calls a0_0 t113 _ A28.out).mono ?_); rintro e w' ⟨rfl, ⟨nd, rfl⟩⟩; refine ⟨_, rfl, ?_⟩; obtain ⟨⟨hcz32_0, hcz32_1, hcz32_2, hcz32_3, hcz32_4⟩, hfz32_0, hfz32_1, hfz32_2, hfz32_3, hfz32_4⟩ := blk5_ BK111.out))
          refine bodyPost_ret (results_cell_row rfl _ _ gb111 43 #[.int .u8 a0_0, .int .u8 0, .int .u8 a0_2, .int .i16 a0_3, .int .i32 a0_4] (0, 0) _ rfl (bz1_ BK111.out NB111_110.out) Try.underlying43 rfl (by kernel_rfl)) rfl ?_; exact ⟨rr_, bm2_ HB.out GE110.out GE111.out⟩
         ·
          rw [if_neg c29] at H
          have ⟨c29b0, c29b1⟩ := nqb_ c29; replace H := bs_ H; obtain ⟨t114, A33, H⟩ := H; (try dsimp only at H)
          by_cases c34 : t114 = true
          ·
           subst c34
           rw [if_pos rfl] at H; simp only [Option.some.injEq, Prod.mk.injEq] at H; obtain ⟨rfl, rfl, rfl, rfl, rfl⟩ := H; have hnb35 := NB110_111.out; have hnc35 := NB111_110.out; obtain ⟨⟨hcz36_0, hcz36_1, hcz36_2, hcz36_3, hcz36_4⟩, hfz36_0, hfz36_1, hfz36_2, hfz36_3, hfz36_4⟩ := blk5_ BK110.out; go_wp2_with (first | ((with_reducible refine gate_callee (f := 50) rfl ?_); refine goesL_ (some 44) rfl rfl Try.func50 (by kernel_rfl) rfl #[.int .u8 a0_0] rfl am_ ?_; (with_reducible refine (insn_Kind.calls a0_0 t113 _ A28.out).mono ?_); rintro e w' ⟨rfl, ⟨nd, rfl⟩⟩; refine ⟨_, rfl, ?_⟩) | ((with_reducible refine gate_callee (f := 49) rfl ?_); refine goesL_ (some 49) rfl rfl Try.func49 (by kernel_rfl) rfl #[.int .u8 a0_0] rfl am_ ?_; (with_reducible refine (insn_ByReg.calls a0_0 true _ A33.out).mono ?_); rintro e w' ⟨rfl, ⟨nd, rfl⟩⟩; refine ⟨_, rfl, ?_⟩; obtain ⟨⟨hcz37_0, hcz37_1, hcz37_2, hcz37_3, hcz37_4⟩, hfz37_0, hfz37_1, hfz37_2, hfz37_3, hfz37_4⟩ := blk5_ BK111.out))
           refine bodyPost_ret (results_cell_row rfl _ _ gb111 43 #[.int .u8 a0_0, .int .u8 0, .int .u8 0, .int .i16 a0_3, .int .i32 a0_4] (0, 0) _ rfl (bz1_ BK111.out NB111_110.out) Try.underlying43 rfl (by kernel_rfl)) rfl ?_; exact ⟨rr_, bm2_ HB.out GE110.out GE111.out⟩
          ·
           replace c34 := Bool.eq_false_iff.mpr c34
           subst c34; rw [if_neg (show ¬ (false = true) by decide)] at H; simp only [Option.some.injEq, Prod.mk.injEq] at H; obtain ⟨rfl, rfl, rfl, rfl, rfl⟩ := H; have hnb38 := NB110_111.out; have hnc38 := NB111_110.out; obtain ⟨⟨hcz39_0, hcz39_1, hcz39_2, hcz39_3, hcz39_4⟩, hfz39_0, hfz39_1, hfz39_2, hfz39_3, hfz39_4⟩ := blk5_ BK110.out; go_wp2_with (first | ((with_reducible refine gate_callee (f := 50) rfl ?_); refine goesL_ (some 44) rfl rfl Try.func50 (by kernel_rfl) rfl #[.int .u8 a0_0] rfl am_ ?_; (with_reducible refine (insn_Kind.calls a0_0 t113 _ A28.out).mono ?_); rintro e w' ⟨rfl, ⟨nd, rfl⟩⟩; refine ⟨_, rfl, ?_⟩) | ((with_reducible refine gate_callee (f := 49) rfl ?_); refine goesL_ (some 49) rfl rfl Try.func49 (by kernel_rfl) rfl #[.int .u8 a0_0] rfl am_ ?_; (with_reducible refine (insn_ByReg.calls a0_0 false _ A33.out).mono ?_); rintro e w' ⟨rfl, ⟨nd, rfl⟩⟩; refine ⟨_, rfl, ?_⟩; obtain ⟨⟨hcz40_0, hcz40_1, hcz40_2, hcz40_3, hcz40_4⟩, hfz40_0, hfz40_1, hfz40_2, hfz40_3, hfz40_4⟩ := blk5_ BK111.out))
           refine bodyPost_ret (results_cell_row rfl _ _ gb111 43 #[.int .u8 a0_0, .int .u8 0, .int .u8 a0_2, .int .i16 a0_3, .int .i32 0] (0, 0) _ rfl (bz1_ BK111.out NB111_110.out) Try.underlying43 rfl (by kernel_rfl)) rfl ?_; exact ⟨rr_, bm2_ HB.out GE110.out GE111.out⟩
        ·
         replace c27 := Bool.eq_false_iff.mpr c27
         subst c27; rw [if_neg (show ¬ (false = true) by decide)] at H
         by_cases c41 : a0_0 = 5
         ·
          rw [if_pos c41] at H
          have ⟨c41b0, c41b1⟩ := eqb_ c41; clear c41; simp only [Option.some.injEq, Prod.mk.injEq] at H; obtain ⟨rfl, rfl, rfl, rfl, rfl⟩ := H; have hnb42 := NB110_111.out; have hnc42 := NB111_110.out; obtain ⟨⟨hcz43_0, hcz43_1, hcz43_2, hcz43_3, hcz43_4⟩, hfz43_0, hfz43_1, hfz43_2, hfz43_3, hfz43_4⟩ := blk5_ BK110.out; obtain ⟨⟨hcz44_0, hcz44_1, hcz44_2, hcz44_3, hcz44_4⟩, hfz44_0, hfz44_1, hfz44_2, hfz44_3, hfz44_4⟩ := blk5_ BK111.out; go_wp2; refine bodyPost_ret (results_cell_row rfl _ _ gb111 43 #[.int .u8 a0_0, .int .u8 a0_1, .int .u8 a0_2, .int .i16 0, .int .i32 a0_4] (0, 0) _ rfl (bz1_ BK111.out NB111_110.out) Try.underlying43 rfl (by kernel_rfl)) rfl ?_; exact ⟨rr_, bm2_ HB.out GE110.out GE111.out⟩
         ·
          rw [if_neg c41] at H
          have ⟨c41b0, c41b1⟩ := nqb_ c41
          by_cases c45 : a0_0 = 133
          ·
           rw [if_pos c45] at H
           have ⟨c45b0, c45b1⟩ := eqb_ c45; clear c45; simp only [Option.some.injEq, Prod.mk.injEq] at H; obtain ⟨rfl, rfl, rfl, rfl, rfl⟩ := H; have hnb46 := NB110_111.out; have hnc46 := NB111_110.out; obtain ⟨⟨hcz47_0, hcz47_1, hcz47_2, hcz47_3, hcz47_4⟩, hfz47_0, hfz47_1, hfz47_2, hfz47_3, hfz47_4⟩ := blk5_ BK110.out; obtain ⟨⟨hcz48_0, hcz48_1, hcz48_2, hcz48_3, hcz48_4⟩, hfz48_0, hfz48_1, hfz48_2, hfz48_3, hfz48_4⟩ := blk5_ BK111.out; go_wp2; refine bodyPost_ret (results_cell_row rfl _ _ gb111 43 #[.int .u8 a0_0, .int .u8 a0_1, .int .u8 0, .int .i16 a0_3, .int .i32 0] (0, 0) _ rfl (bz1_ BK111.out NB111_110.out) Try.underlying43 rfl (by kernel_rfl)) rfl ?_; exact ⟨rr_, bm2_ HB.out GE110.out GE111.out⟩
          ·
           rw [if_neg c45] at H
           have ⟨c45b0, c45b1⟩ := nqb_ c45
           by_cases c49 : a0_0 = 149
           ·
            rw [if_pos c49] at H
            have ⟨c49b0, c49b1⟩ := eqb_ c49; clear c49; simp only [Option.some.injEq, Prod.mk.injEq] at H; obtain ⟨rfl, rfl, rfl, rfl, rfl⟩ := H; have hnb50 := NB110_111.out; have hnc50 := NB111_110.out; obtain ⟨⟨hcz51_0, hcz51_1, hcz51_2, hcz51_3, hcz51_4⟩, hfz51_0, hfz51_1, hfz51_2, hfz51_3, hfz51_4⟩ := blk5_ BK110.out; obtain ⟨⟨hcz52_0, hcz52_1, hcz52_2, hcz52_3, hcz52_4⟩, hfz52_0, hfz52_1, hfz52_2, hfz52_3, hfz52_4⟩ := blk5_ BK111.out; go_wp2; refine bodyPost_ret (results_cell_row rfl _ _ gb111 43 #[.int .u8 a0_0, .int .u8 a0_1, .int .u8 a0_2, .int .i16 a0_3, .int .i32 a0_4] (0, 0) _ rfl (bz0_ BK111.out) Try.underlying43 rfl (by kernel_rfl)) rfl ?_; exact ⟨rr_, bm2_ HB.out GE110.out GE111.out⟩
           ·
            rw [if_neg c49] at H
            have ⟨c49b0, c49b1⟩ := nqb_ c49; replace H := bs_ H; obtain ⟨t115, A53, H⟩ := H; (try dsimp only at H)
            by_cases c54 : t115 = true
            ·
             subst c54
             rw [if_pos rfl] at H; simp only [Option.some.injEq, Prod.mk.injEq] at H; obtain ⟨rfl, rfl, rfl, rfl, rfl⟩ := H; have hnb55 := NB110_111.out; have hnc55 := NB111_110.out; obtain ⟨⟨hcz56_0, hcz56_1, hcz56_2, hcz56_3, hcz56_4⟩, hfz56_0, hfz56_1, hfz56_2, hfz56_3, hfz56_4⟩ := blk5_ BK110.out; go_wp2_with (first | ((with_reducible refine gate_callee (f := 49) rfl ?_); refine goesL_ (some 69) rfl rfl Try.func49 (by kernel_rfl) rfl #[.int .u8 a0_0] rfl am_ ?_; (with_reducible refine (insn_ByReg.calls a0_0 true _ A53.out).mono ?_); rintro e w' ⟨rfl, ⟨nd, rfl⟩⟩; refine ⟨_, rfl, ?_⟩; (try (rw [drewN_self wc]; generalize hq_ : World.drewN wc _ = wc; have n0_ : Aside0 (wc.heap[gb110]? = some (.cells #[.int .u8 a0_0, .int .u8 a0_1, .int .u8 a0_2, .int .i16 a0_3, .int .i32 a0_4] 43 (0, 0))) := ⟨by rw [← hq_]; exact (bk_ BK110.out)⟩; have n1_ : Aside0 (wc.heap[gb111]? = some (.cells #[.int .u8 0, .int .u8 0, .int .u8 0, .int .i16 0, .int .i32 0] 43 (0, 0))) := ⟨by rw [← hq_]; exact (bk_ BK111.out)⟩; have n2_ : Aside0 (Below w.heap.size w wc) := ⟨by rw [← hq_]; exact (bm2_ HB.out GE110.out GE111.out)⟩; clear BK110 BK111 HB hq_; have BK110 := n0_; have BK111 := n1_; have HB := n2_; clear n0_ n1_ n2_)); (try have hczu57_0 : wc.cell? ⟨gb110, 0, none⟩ = some (.int .u8 a0_0) := (blk_cell BK110.out 0).trans rfl); (try have hczu57_1 : wc.cell? ⟨gb110, 1, none⟩ = some (.int .u8 a0_1) := (blk_cell BK110.out 1).trans rfl); (try have hczu57_2 : wc.cell? ⟨gb110, 2, none⟩ = some (.int .u8 a0_2) := (blk_cell BK110.out 2).trans rfl); (try have hczu57_3 : wc.cell? ⟨gb110, 3, none⟩ = some (.int .i16 a0_3) := (blk_cell BK110.out 3).trans rfl); (try have hczu57_4 : wc.cell? ⟨gb110, 4, none⟩ = some (.int .i32 a0_4) := (blk_cell BK110.out 4).trans rfl); have hfzu57_0 := blk_frozen BK110.out 0; have hfzu57_1 := blk_frozen BK110.out 1; have hfzu57_2 := blk_frozen BK110.out 2; have hfzu57_3 := blk_frozen BK110.out 3; have hfzu57_4 := blk_frozen BK110.out 4; (try have hczu58_0 : wc.cell? ⟨gb111, 0, none⟩ = some (.int .u8 0) := (blk_cell BK111.out 0).trans rfl); (try have hczu58_1 : wc.cell? ⟨gb111, 1, none⟩ = some (.int .u8 0) := (blk_cell BK111.out 1).trans rfl); (try have hczu58_2 : wc.cell? ⟨gb111, 2, none⟩ = some (.int .u8 0) := (blk_cell BK111.out 2).trans rfl); (try have hczu58_3 : wc.cell? ⟨gb111, 3, none⟩ = some (.int .i16 0) := (blk_cell BK111.out 3).trans rfl); (try have hczu58_4 : wc.cell? ⟨gb111, 4, none⟩ = some (.int .i32 0) := (blk_cell BK111.out 4).trans rfl); have hfzu58_0 := blk_frozen BK111.out 0; have hfzu58_1 := blk_frozen BK111.out 1; have hfzu58_2 := blk_frozen BK111.out 2; have hfzu58_3 := blk_frozen BK111.out 3; have hfzu58_4 := blk_frozen BK111.out 4; obtain ⟨⟨hcz59_0, hcz59_1, hcz59_2, hcz59_3, hcz59_4⟩, hfz59_0, hfz59_1, hfz59_2, hfz59_3, hfz59_4⟩ := blk5_ BK111.out))
             refine bodyPost_ret (results_cell_row rfl _ _ gb111 43 #[.int .u8 a0_0, .int .u8 0, .int .u8 0, .int .i16 0, .int .i32 a0_4] (0, 0) _ rfl (bz1_ BK111.out NB111_110.out) Try.underlying43 rfl (by kernel_rfl)) rfl ?_; exact ⟨rr_, bm2_ HB.out GE110.out GE111.out⟩
            ·
             replace c54 := Bool.eq_false_iff.mpr c54
             subst c54; rw [if_neg (show ¬ (false = true) by decide)] at H; simp only [Option.some.injEq, Prod.mk.injEq] at H; obtain ⟨rfl, rfl, rfl, rfl, rfl⟩ := H; have hnb60 := NB110_111.out; have hnc60 := NB111_110.out; obtain ⟨⟨hcz61_0, hcz61_1, hcz61_2, hcz61_3, hcz61_4⟩, hfz61_0, hfz61_1, hfz61_2, hfz61_3, hfz61_4⟩ := blk5_ BK110.out; go_wp2_with (first | ((with_reducible refine gate_callee (f := 49) rfl ?_); refine goesL_ (some 69) rfl rfl Try.func49 (by kernel_rfl) rfl #[.int .u8 a0_0] rfl am_ ?_; (with_reducible refine (insn_ByReg.calls a0_0 false _ A53.out).mono ?_); rintro e w' ⟨rfl, ⟨nd, rfl⟩⟩; refine ⟨_, rfl, ?_⟩; (try (rw [drewN_self wc]; generalize hq_ : World.drewN wc _ = wc; have n0_ : Aside0 (wc.heap[gb110]? = some (.cells #[.int .u8 a0_0, .int .u8 a0_1, .int .u8 a0_2, .int .i16 a0_3, .int .i32 a0_4] 43 (0, 0))) := ⟨by rw [← hq_]; exact (bk_ BK110.out)⟩; have n1_ : Aside0 (wc.heap[gb111]? = some (.cells #[.int .u8 0, .int .u8 0, .int .u8 0, .int .i16 0, .int .i32 0] 43 (0, 0))) := ⟨by rw [← hq_]; exact (bk_ BK111.out)⟩; have n2_ : Aside0 (Below w.heap.size w wc) := ⟨by rw [← hq_]; exact (bm2_ HB.out GE110.out GE111.out)⟩; clear BK110 BK111 HB hq_; have BK110 := n0_; have BK111 := n1_; have HB := n2_; clear n0_ n1_ n2_)); (try have hczu62_0 : wc.cell? ⟨gb110, 0, none⟩ = some (.int .u8 a0_0) := (blk_cell BK110.out 0).trans rfl); (try have hczu62_1 : wc.cell? ⟨gb110, 1, none⟩ = some (.int .u8 a0_1) := (blk_cell BK110.out 1).trans rfl); (try have hczu62_2 : wc.cell? ⟨gb110, 2, none⟩ = some (.int .u8 a0_2) := (blk_cell BK110.out 2).trans rfl); (try have hczu62_3 : wc.cell? ⟨gb110, 3, none⟩ = some (.int .i16 a0_3) := (blk_cell BK110.out 3).trans rfl); (try have hczu62_4 : wc.cell? ⟨gb110, 4, none⟩ = some (.int .i32 a0_4) := (blk_cell BK110.out 4).trans rfl); have hfzu62_0 := blk_frozen BK110.out 0; have hfzu62_1 := blk_frozen BK110.out 1; have hfzu62_2 := blk_frozen BK110.out 2; have hfzu62_3 := blk_frozen BK110.out 3; have hfzu62_4 := blk_frozen BK110.out 4; (try have hczu63_0 : wc.cell? ⟨gb111, 0, none⟩ = some (.int .u8 0) := (blk_cell BK111.out 0).trans rfl); (try have hczu63_1 : wc.cell? ⟨gb111, 1, none⟩ = some (.int .u8 0) := (blk_cell BK111.out 1).trans rfl); (try have hczu63_2 : wc.cell? ⟨gb111, 2, none⟩ = some (.int .u8 0) := (blk_cell BK111.out 2).trans rfl); (try have hczu63_3 : wc.cell? ⟨gb111, 3, none⟩ = some (.int .i16 0) := (blk_cell BK111.out 3).trans rfl); (try have hczu63_4 : wc.cell? ⟨gb111, 4, none⟩ = some (.int .i32 0) := (blk_cell BK111.out 4).trans rfl); have hfzu63_0 := blk_frozen BK111.out 0; have hfzu63_1 := blk_frozen BK111.out 1; have hfzu63_2 := blk_frozen BK111.out 2; have hfzu63_3 := blk_frozen BK111.out 3; have hfzu63_4 := blk_frozen BK111.out 4; obtain ⟨⟨hcz64_0, hcz64_1, hcz64_2, hcz64_3, hcz64_4⟩, hfz64_0, hfz64_1, hfz64_2, hfz64_3, hfz64_4⟩ := blk5_ BK111.out))
             refine bodyPost_ret (results_cell_row rfl _ _ gb111 43 #[.int .u8 a0_0, .int .u8 0, .int .u8 a0_2, .int .i16 0, .int .i32 0] (0, 0) _ rfl (bz1_ BK111.out NB111_110.out) Try.underlying43 rfl (by kernel_rfl)) rfl ?_; exact ⟨rr_, bm2_ HB.out GE110.out GE111.out⟩

end Go.Proofs.Ytmijlibnembkaaa.PA
