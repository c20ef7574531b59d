-- Printed by wip/tools/extprint.py over the kit's printer, with contracts of this session's own. Lean checks it.
import Derived.Test.YtmijlibnembkaaaMkPAx0
import Derived.Test.YtmijlibnembkaaaMkPAx3
import Derived.Test.YtmijlibnembkaaaMkPAx10
namespace Go.Proofs.Ytmijlibnembkaaa.PA
open Go.RowKit Go.Proofs.YtmijlibnembkaaaW.PrintWords Go.Proofs.YtmijlibnembkaaaW.PrintLast Go.Proofs.YtmijlibnembkaaaW.PrintMore
attribute [local go_sem] max2_int min2_int max_two min_two max_three min_three max_four min_four   -- for this text's walks alone
set_option linter.unusedVariables false
set_option maxHeartbeats 8000000
set_option maxRecDepth 100000
set_option linter.unusedSimpArgs false

/-! ### fix_becomes: function 23 -/
def fix_becomes.j0 : Nat → List (S43) → Int → List (S80) → Bool → Bool → Bool → Int → Int → Int → Int → Int → Int → Option ((List (S43)) × Int)
 | 0, _, _, _, _, _, _, _, _, _, _, _, _ => none
 | k + 1, x0, x1, x3, x11, x214000, x214001, x214002, x216000, x216001, x216002, x216003, x216004 => if x214001 = true then ((fix_context.f x216003).bind fun bt216 => (if bt216.2 = true then ((insn_Size.f k x216000).bind fun t218 => (if t218 = 0 then (some (([] : List (S43)), 2)) else (if x214002 = 0 then (some ((([(⟨x216000, x216001, x216002, bt216.1, x216004⟩ : S43)] : List (S43))), 0)) else (some (([] : List (S43)), 2))))) else (some (([] : List (S43)), 2)))) else (if x214002 = 0 then ((insn_Wide.f x216000).bind fun t222 => (if t222 = true then (if 0 ≤ (wrap64 (x1 + 1)) then (if (wrap64 (x1 + 1)) < (x0.length : Int) then ((insn_Long.f x216000 x216001 x216002 x216003 x216004 ((rd_T43 x0 (wrap64 (x1 + 1))).f0) ((rd_T43 x0 (wrap64 (x1 + 1))).f1) ((rd_T43 x0 (wrap64 (x1 + 1))).f2) ((rd_T43 x0 (wrap64 (x1 + 1))).f3) ((rd_T43 x0 (wrap64 (x1 + 1))).f4)).bind fun t224 => (if x216002 = 1 then ((insn_Split.f x216001 0 (IntKind.u64.wrap (t224 + 281474976710656))).bind fun t225 => (some (t225, 0))) else ((insn_Split.f x216001 0 t224).bind fun t228 => (some (t228, 0))))) else (none)) else (none)) else (some ((([(⟨x216000, x216001, x216002, x216003, x216004⟩ : S43)] : List (S43))), 0)))) else (if x11 = true then (if x214002 < 0 then (some (([] : List (S43)), 2)) else (if x214002 > (x3.length : Int) then (some (([] : List (S43)), 2)) else (if 0 ≤ (wrap64 (x214002 - 1)) then (if (wrap64 (x214002 - 1)) < (x3.length : Int) then (if ((rd_T80 x3 (wrap64 (x214002 - 1))).f0) = 0 then ((fix_lookup.f (wrap64 (x214002 - 1)) ((rd_T80 x3 (wrap64 (x214002 - 1))).f0) ((rd_T80 x3 (wrap64 (x214002 - 1))).f1) ((rd_T80 x3 (wrap64 (x214002 - 1))).f2) ((rd_T80 x3 (wrap64 (x214002 - 1))).f3)).bind fun t236 => (some (t236, 0))) else (some (([] : List (S43)), 2))) else (none)) else (none)))) else (some (([] : List (S43)), 2))))
def fix_becomes.f (k : Nat) (l0 : List (S43)) (a1 : Int) (a2_0 : Bool) (a2_1 : Bool) (a2_2 : Int) (l3 : List (S80)) : Option ((List (S43)) × Int) := if 0 ≤ a1 then (if a1 < (l0.length : Int) then (if ((rd_T43 l0 a1).f0) = 133 then (if ((rd_T43 l0 a1).f2) = 0 then (fix_becomes.j0 k l0 a1 l3 (((rd_T43 l0 a1).f4) == 1) a2_0 a2_1 a2_2 ((rd_T43 l0 a1).f0) ((rd_T43 l0 a1).f1) ((rd_T43 l0 a1).f2) ((rd_T43 l0 a1).f3) ((rd_T43 l0 a1).f4)) else (fix_becomes.j0 k l0 a1 l3 false a2_0 a2_1 a2_2 ((rd_T43 l0 a1).f0) ((rd_T43 l0 a1).f1) ((rd_T43 l0 a1).f2) ((rd_T43 l0 a1).f3) ((rd_T43 l0 a1).f4))) else (fix_becomes.j0 k l0 a1 l3 false a2_0 a2_1 a2_2 ((rd_T43 l0 a1).f0) ((rd_T43 l0 a1).f1) ((rd_T43 l0 a1).f2) ((rd_T43 l0 a1).f3) ((rd_T43 l0 a1).f4))) else (none)) else (none)
theorem fix_becomes.mono_l : ∀ k, (∀ y0 y1 y2 y3 y4 y5 y6 y7 y8 y9 y10 y11, LeO (fix_becomes.j0 k y0 y1 y2 y3 y4 y5 y6 y7 y8 y9 y10 y11) (fix_becomes.j0 (k + 1) y0 y1 y2 y3 y4 y5 y6 y7 y8 y9 y10 y11))
 | 0 => fun _ _ _ _ _ _ _ _ _ _ _ _ r h => by simp [fix_becomes.j0] at h
 | k + 1 => by
  have ih0 := fix_becomes.mono_l k
  ·
   intro y0 y1 y2 y3 y4 y5 y6 y7 y8 y9 y10 y11
   unfold fix_becomes.j0
   repeat' (with_reducible first | apply ih0 | apply insn_Size.mono | exact LeO.refl _ | exact LeO.none _ | refine LeO.ite ?_ ?_ | refine LeO.bind ?_ (fun _ => ?_))
theorem fix_becomes.mono : ∀ a0 a1 a2 a3 a4 a5 k, LeO (fix_becomes.f k a0 a1 a2 a3 a4 a5) (fix_becomes.f (k + 1) a0 a1 a2 a3 a4 a5) := by
 intro a0 a1 a2 a3 a4 a5 k; have ih0 := fix_becomes.mono_l k
 unfold fix_becomes.f
 repeat' (with_reducible first | apply ih0 | apply insn_Size.mono | exact LeO.refl _ | exact LeO.none _ | refine LeO.ite ?_ ?_ | refine LeO.bind ?_ (fun _ => ?_))
def fix_becomes.T11 : Bool × List (List Nat × List Nat) := (true, [([], []), ([0], [0]), ([1], [1]), ([], []), ([], []), ([4], [4]), ([5], [5]), ([3, 6], [3, 6]), ([7], [7]), ([2, 8], [2, 8]), ([9, 9, 0, 1, 2, 3, 4, 5, 6, 7, 8, 9], [9]), ([10, 0, 1, 2, 3, 4, 5, 6, 7, 8, 9, 10], [])])
def fix_becomes.B11 : List Nat := [0, 1, 3, 0, 0, 16, 48, 120, 248, 511, 1023, 2047]
theorem fix_becomes.tab11 : rtab .any (opsOf Try.f23 11) = fix_becomes.T11 := by kernel_rfl
theorem fix_becomes.bits11 : waitsOk fix_becomes.T11.2 fix_becomes.B11 = true := by kernel_rfl
def fix_becomes.T13 : Bool × List (List Nat × List Nat) := (true, [([], []), ([], []), ([], []), ([2], [2]), ([1, 3], [1, 3]), ([4], [4]), ([0, 5], [0, 5]), ([6, 6, 0, 1, 2, 3, 4, 5, 6], [6])])
def fix_becomes.B13 : List Nat := [0, 0, 0, 4, 14, 30, 63, 127]
theorem fix_becomes.tab13 : rtab .any (opsOf Try.f23 13) = fix_becomes.T13 := by kernel_rfl
theorem fix_becomes.bits13 : waitsOk fix_becomes.T13.2 fix_becomes.B13 = true := by kernel_rfl
theorem fix_becomes.calls (k : Nat) (A0 : Option Addr) (c0 : Nat) (l0 : List (S43)) (a1 : Int) (a2_0 : Bool) (a2_1 : Bool) (a2_2 : Int) (A3 : Option Addr) (c3 : Nat) (l3 : List (S80)) (r1 : List (S43)) (r2 : Int) (w : World) (hr0 : Kd.C k43 w A0 l0.length l0) (hc0 : l0.length ≤ c0) (hr3 : Kd.C k80 w A3 l3.length l3) (hc3 : l3.length ≤ c3) (h : fix_becomes.f k l0 a1 a2_0 a2_1 a2_2 l3 = some (r1, r2)) :
  Calls Try.prog 23 #[.slice A0 l0.length c0, .int .i64 a1, .agg #[.bool a2_0, .bool a2_1, .int .i64 a2_2], .slice A3 l3.length c3] w fun e w' => ∃ v0_ : Value, e = .returned (.tuple #[v0_, .int .i64 r2]) ∧ Kd.R k43 43 w' w.heap.size (fun _ => True) v0_ r1 ∧ Below w.heap.size w w' := by
 have hu34 := Try.underlying34; have hu43 := Try.underlying43; have hu80 := Try.underlying80; have HR0 := Aside0.mk hr0; have HC0 := Aside0.mk hc0; clear hr0 hc0; have HR3 := Aside0.mk hr3; have HC3 := Aside0.mk hc3; clear hr3 hc3; have HB := Aside0.mk (Below.refl w.heap.size w); have H : (if 0 ≤ a1 then (if a1 < (l0.length : Int) then (if ((rd_T43 l0 a1).f0) = 133 then (if ((rd_T43 l0 a1).f2) = 0 then (fix_becomes.j0 k l0 a1 l3 (((rd_T43 l0 a1).f4) == 1) a2_0 a2_1 a2_2 ((rd_T43 l0 a1).f0) ((rd_T43 l0 a1).f1) ((rd_T43 l0 a1).f2) ((rd_T43 l0 a1).f3) ((rd_T43 l0 a1).f4)) else (fix_becomes.j0 k l0 a1 l3 false a2_0 a2_1 a2_2 ((rd_T43 l0 a1).f0) ((rd_T43 l0 a1).f1) ((rd_T43 l0 a1).f2) ((rd_T43 l0 a1).f3) ((rd_T43 l0 a1).f4))) else (fix_becomes.j0 k l0 a1 l3 false a2_0 a2_1 a2_2 ((rd_T43 l0 a1).f0) ((rd_T43 l0 a1).f1) ((rd_T43 l0 a1).f2) ((rd_T43 l0 a1).f3) ((rd_T43 l0 a1).f4))) else (none)) else (none)) = some (r1, r2) := h; clear h
 by_cases c5 : 0 ≤ a1
 ·
  rw [if_pos c5] at H
  have c5b0 := decide_eq_true c5; clear c5
  by_cases c6 : a1 < (l0.length : Int)
  ·
   rw [if_pos c6] at H
   have c6b0 := decide_eq_true c6; clear c6; have HC7 := Aside0.mk H; clear H; go_enter Try.func23, Try.ntmps23
   go_upto_region 2 with (first | ((with_reducible refine gate_dst (N := 6) rfl ?_); (try (refine gate_guard (by rfl) ?_; dsimp only)); refine box_event ?hg (N := 6) ?hd (cs := #[.bool a2_0, .bool a2_1, .int .i64 a2_2]) (t := 34) ?hr ?_; (case hd => rfl); (case hg => rfl); (case hr => first | (go_simp; done) | (go_simp; rfl)); intro gb213 hg w8 hbox hb; have n_ : _ ∧ _ ∧ _ ∧ _ := ⟨k_ (below_step (bl_ HB.out) hb), k_ (hbox), k_ ((by rw [hg]; exact (below_size (bl_ HB.out)) : w.heap.size ≤ gb213)), k_ ((by rw [hg]; exact (below_size (bl_ HB.out)) : w.heap.size ≤ gb213))⟩; clear HB; obtain ⟨HB, BK213, GW213, GE213⟩ := n_; clear hb hbox hg; have p214 : 0 ≤ (a1 : Int) := of_decide_eq_true as_; have q214 : a1 < (l0.length : Int) := of_decide_eq_true as_; obtain ⟨ad214, e214, hx214_0, hx214_1, hx214_2, hx214_3, hx214_4⟩ := at_T43 (Kd.C_below HR0.out HB.out) a1 p214 q214; cases e214; replace p214 := eq_true p214; replace q214 := eq_true q214) | ((with_reducible refine gate_dst (N := 10) rfl ?_); (try (refine gate_guard (by rfl) ?_; dsimp only)); refine box_event ?hg (N := 10) ?hd (cs := #[.int .u8 0, .int .u8 0, .int .u8 0, .int .i16 0, .int .i32 0]) (t := 43) ?hr ?_; (case hd => rfl); (case hg => rfl); (case hr => first | (go_simp; done) | (go_simp; rfl)); intro gb215 hg w9 hbox hb; have n_ : _ ∧ _ ∧ _ ∧ _ ∧ _ ∧ _ ∧ _ := ⟨k_ (blk_below (g := gb213) (o := .cells #[.bool a2_0, .bool a2_1, .int .i64 a2_2] 34 (0, 0)) (bk_ BK213.out) hb), k_ (below_step (bm_ HB.out GE213.out) hb), k_ (hbox), k_ ((by rw [hg]; exact (below_size (bm_ HB.out GE213.out)) : w.heap.size ≤ gb215)), k_ ((by rw [hg]; exact (below_size (bm_ HB.out GE213.out)) : w.heap.size ≤ gb215)), k_ ((by rw [hg]; exact Nat.ne_of_lt (blk_lt (g := gb213) (o := .cells #[.bool a2_0, .bool a2_1, .int .i64 a2_2] 34 (0, 0)) (bk_ BK213.out)) : gb213 ≠ gb215)), k_ ((by rw [hg]; exact Nat.ne_of_gt (blk_lt (g := gb213) (o := .cells #[.bool a2_0, .bool a2_1, .int .i64 a2_2] 34 (0, 0)) (bk_ BK213.out)) : gb215 ≠ gb213))⟩; clear BK213 HB; obtain ⟨BK213, HB, BK215, GW215, GE215, NB213_215, NB215_213⟩ := n_; clear hb hbox hg; have hnb10 := NB215_213.out; have hnc10 := NB213_215.out; obtain ⟨⟨hcz11_0, hcz11_1, hcz11_2, hcz11_3, hcz11_4⟩, hfz11_0, hfz11_1, hfz11_2, hfz11_3, hfz11_4⟩ := blk5_ BK215.out))
   (try simp only [Act.put, List.setIfInBounds_toArray, List.set_cons_zero, List.set_cons_succ]); go_cut [11] (fun v11 wc => ∃ (kq : Nat) (x11_6 : Bool), v11 = .bool x11_6 ∧ Aside0 (fix_becomes.j0 kq l0 a1 l3 x11_6 a2_0 a2_1 a2_2 ((rd_T43 l0 a1).f0) ((rd_T43 l0 a1).f1) ((rd_T43 l0 a1).f2) ((rd_T43 l0 a1).f3) ((rd_T43 l0 a1).f4) = some (r1, r2)) ∧ Aside0 (kq ≤ k) ∧ Aside0 (wc.heap[gb213]? = some (.cells #[.bool a2_0, .bool a2_1, .int .i64 a2_2] 34 (0, 0))) ∧ Aside0 (wc.heap[gb215]? = some (.cells #[.int .u8 ((rd_T43 l0 a1).f0), .int .u8 ((rd_T43 l0 a1).f1), .int .u8 ((rd_T43 l0 a1).f2), .int .i16 ((rd_T43 l0 a1).f3), .int .i32 ((rd_T43 l0 a1).f4)] 43 (0, 0))) ∧ Aside0 (Below w.heap.size w wc))
   case first =>
    have H := HC7.out; clear HC7
    by_cases c12 : ((rd_T43 l0 a1).f0) = 133
    ·
     rw [if_pos c12] at H
     have ⟨c12b0, c12b1⟩ := eqb_ c12; clear c12; (first | rw [c12b0] | (simp only [i64_w, i32_w]; rw [c12b0]) | skip)
     by_cases c13 : ((rd_T43 l0 a1).f2) = 0
     ·
      rw [if_pos c13] at H
      have ⟨c13b0, c13b1⟩ := eqb_ c13; clear c13; have H' := Aside0.mk H; clear H; have hnb14 := NB215_213.out; have hnc14 := NB213_215.out; obtain ⟨⟨hcz15_0, hcz15_1, hcz15_2, hcz15_3, hcz15_4⟩, hfz15_0, hfz15_1, hfz15_2, hfz15_3, hfz15_4⟩ := blk5_ BK215.out; go_wp2; go_meet
      case rel => exact ⟨_, ((((rd_T43 l0 a1).f4) == 1)), eq_, H', ⟨by first | omega | exact Nat.le_refl _⟩, ⟨bz1_ BK213.out NB213_215.out⟩, ⟨bz0_ BK215.out⟩, ⟨bm2_ HB.out GE213.out GE215.out⟩⟩
     ·
      rw [if_neg c13] at H
      have ⟨c13b0, c13b1⟩ := nqb_ c13; have H' := Aside0.mk H; clear H; have hnb16 := NB215_213.out; have hnc16 := NB213_215.out; obtain ⟨⟨hcz17_0, hcz17_1, hcz17_2, hcz17_3, hcz17_4⟩, hfz17_0, hfz17_1, hfz17_2, hfz17_3, hfz17_4⟩ := blk5_ BK215.out; go_wp2; go_meet
      case rel => exact ⟨_, (false), eq_, H', ⟨by first | omega | exact Nat.le_refl _⟩, ⟨bz1_ BK213.out NB213_215.out⟩, ⟨bz0_ BK215.out⟩, ⟨bm2_ HB.out GE213.out GE215.out⟩⟩
    ·
     rw [if_neg c12] at H
     have ⟨c12b0, c12b1⟩ := nqb_ c12; (first | rw [c12b0] | (simp only [i64_w, i32_w]; rw [c12b0]) | skip); have H' := Aside0.mk H; clear H; have hnb18 := NB215_213.out; have hnc18 := NB213_215.out; obtain ⟨⟨hcz19_0, hcz19_1, hcz19_2, hcz19_3, hcz19_4⟩, hfz19_0, hfz19_1, hfz19_2, hfz19_3, hfz19_4⟩ := blk5_ BK215.out; go_wp2; go_meet
     case rel => exact ⟨_, (false), eq_, H', ⟨by first | omega | exact Nat.le_refl _⟩, ⟨bz1_ BK213.out NB213_215.out⟩, ⟨bz0_ BK215.out⟩, ⟨bm2_ HB.out GE213.out GE215.out⟩⟩
   case rest =>
    clear HC7; (try clear c1); (try clear c2); (try clear p2); (try clear q2); (try clear hx2); (try clear c3); (try clear c5); (try clear c5b0); (try clear c6); (try clear c6b0); (try clear c10); (try clear c12); (try clear c12b0); (try clear c12b1); (try clear c13); (try clear c13b0); (try clear c13b1); (try clear c14); (try clear c16); (try clear c18); (try clear hcz11_0); (try clear hcz11_1); (try clear hcz11_2); (try clear hcz11_3); (try clear hcz11_4); (try clear hcz15_0); (try clear hcz15_1); (try clear hcz15_2); (try clear hcz15_3); (try clear hcz15_4); (try clear hcz17_0); (try clear hcz17_1); (try clear hcz17_2); (try clear hcz17_3); (try clear hcz17_4); (try clear hcz19_0); (try clear hcz19_1); (try clear hcz19_2); (try clear hcz19_3); (try clear hcz19_4); (try clear hfz11_0); (try clear hfz11_1); (try clear hfz11_2); (try clear hfz11_3); (try clear hfz11_4); (try clear hfz15_0); (try clear hfz15_1); (try clear hfz15_2); (try clear hfz15_3); (try clear hfz15_4); (try clear hfz17_0); (try clear hfz17_1); (try clear hfz17_2); (try clear hfz17_3); (try clear hfz17_4); (try clear hfz19_0); (try clear hfz19_1); (try clear hfz19_2); (try clear hfz19_3); (try clear hfz19_4); (try clear hx214_0); (try clear hx214_1); (try clear hx214_2); (try clear hx214_3); (try clear hx214_4); (try clear p214); (try clear q214); obtain ⟨kq, x11_6, rfl, HA, HJ6, BK213, BK215, HB⟩ := hcut
    cases kq with
    | zero => exact absurd HA.out (by simp [fix_becomes.j0])
    | succ kj6 =>
     have H := HA.out; clear HA; simp only [fix_becomes.j0] at H
     by_cases c20 : a2_1 = true
     ·
      subst c20
      rw [if_pos rfl] at H; replace H := bs_ H; obtain ⟨⟨t216, t217⟩, A21, H⟩ := H; (try dsimp only at H)
      by_cases c22 : t217 = true
      ·
       subst c22
       rw [if_pos rfl] at H; replace H := bs_ H; obtain ⟨t218, A23, H⟩ := H; (try dsimp only at H)
       by_cases c24 : t218 = 0
       ·
        rw [if_pos c24] at H
        have ⟨c24b0, c24b1⟩ := eqb_ c24; clear c24; simp only [Option.some.injEq, Prod.mk.injEq] at H; obtain ⟨rfl, rfl⟩ := H; have hnb25 := NB213_215.out; have hnc25 := NB215_213.out; obtain ⟨⟨hcz26_0, hcz26_1, hcz26_2⟩, hfz26_0, hfz26_1, hfz26_2⟩ := blk3_ BK213.out; obtain ⟨⟨hcz27_0, hcz27_1, hcz27_2, hcz27_3, hcz27_4⟩, hfz27_0, hfz27_1, hfz27_2, hfz27_3, hfz27_4⟩ := blk5_ BK215.out; go_wp2_with (first | ((with_reducible refine gate_callee (f := 38) rfl ?_); refine goesL_ (some 38) rfl rfl Try.func38 (by kernel_rfl) rfl #[.int .i16 ((rd_T43 l0 a1).f3)] rfl am_ ?_; (with_reducible refine (fix_context.calls ((rd_T43 l0 a1).f3) t216 true _ A21.out).mono ?_); rintro e w' ⟨rfl, ⟨nd, rfl⟩⟩; refine ⟨_, rfl, ?_⟩) | (go_at_call 39; (with_reducible refine (insn_Size.calls kj6 ((rd_T43 l0 a1).f0) t218 _ A23.out).mono ?_); rintro e w28 ⟨rfl, hb⟩; have n_ : _ ∧ _ ∧ _ := ⟨k_ (blk_below (g := gb213) (o := .cells #[.bool a2_0, .bool true, .int .i64 a2_2] 34 (0, 0)) (bk_ BK213.out) hb), k_ (blk_below (g := gb215) (o := .cells #[.int .u8 ((rd_T43 l0 a1).f0), .int .u8 ((rd_T43 l0 a1).f1), .int .u8 ((rd_T43 l0 a1).f2), .int .i16 ((rd_T43 l0 a1).f3), .int .i32 ((rd_T43 l0 a1).f4)] 43 (0, 0)) (bk_ BK215.out) hb), k_ (below_step (bm2_ HB.out GE213.out GE215.out) hb)⟩; clear BK213 BK215 HB; obtain ⟨BK213, BK215, HB⟩ := n_; (try clear hb); (try clear hb2); (try clear hk); (try clear hi)))
        go_ret2
        exact ⟨_, rr_, by first | exact Kd.R_nil _ _ _ _ _ | exact Kd.N_nil _ _ _ _ _ | exact Kd.V_nil _ _ _ _ _ | exact Kd.Q_nil _ _ _ _ _ | exact Kd.S_nil _ _ _ _ _, bm2_ HB.out GE213.out GE215.out⟩
       ·
        rw [if_neg c24] at H
        have ⟨c24b0, c24b1⟩ := nqb_ c24
        by_cases c29 : a2_2 = 0
        ·
         rw [if_pos c29] at H
         have ⟨c29b0, c29b1⟩ := eqb_ c29; clear c29; obtain ⟨y219, hy219⟩ : ∃ y_ : List (S43), y_ = (([(⟨((rd_T43 l0 a1).f0), ((rd_T43 l0 a1).f1), ((rd_T43 l0 a1).f2), t216, ((rd_T43 l0 a1).f4)⟩ : S43)] : List (S43))) := ⟨_, rfl⟩; (first | rw [Option.bind_some, ← hy219] at H | rw [Option.bind_some] at H | rw [← hy219] at H | skip); have Ny219 := Aside0.mk hy219; clear hy219; simp only [Option.some.injEq, Prod.mk.injEq] at H; obtain ⟨rfl, rfl⟩ := H; have hnb30 := NB213_215.out; have hnc30 := NB215_213.out; obtain ⟨⟨hcz31_0, hcz31_1, hcz31_2⟩, hfz31_0, hfz31_1, hfz31_2⟩ := blk3_ BK213.out; obtain ⟨⟨hcz32_0, hcz32_1, hcz32_2, hcz32_3, hcz32_4⟩, hfz32_0, hfz32_1, hfz32_2, hfz32_3, hfz32_4⟩ := blk5_ BK215.out; go_wp2_with (first | ((with_reducible refine gate_callee (f := 38) rfl ?_); refine goesL_ (some 38) rfl rfl Try.func38 (by kernel_rfl) rfl #[.int .i16 ((rd_T43 l0 a1).f3)] rfl am_ ?_; (with_reducible refine (fix_context.calls ((rd_T43 l0 a1).f3) t216 true _ A21.out).mono ?_); rintro e w' ⟨rfl, ⟨nd, rfl⟩⟩; refine ⟨_, rfl, ?_⟩; (try (rw [drewN_self wc]; generalize hq_ : World.drewN wc _ = wc; have n0_ : Aside0 (wc.heap[gb213]? = some (.cells #[.bool a2_0, .bool true, .int .i64 a2_2] 34 (0, 0))) := ⟨by rw [← hq_]; exact (bk_ BK213.out)⟩; have n1_ : Aside0 (wc.heap[gb215]? = some (.cells #[.int .u8 ((rd_T43 l0 a1).f0), .int .u8 ((rd_T43 l0 a1).f1), .int .u8 ((rd_T43 l0 a1).f2), .int .i16 ((rd_T43 l0 a1).f3), .int .i32 ((rd_T43 l0 a1).f4)] 43 (0, 0))) := ⟨by rw [← hq_]; exact (bk_ BK215.out)⟩; have n2_ : Aside0 (Below w.heap.size w wc) := ⟨by rw [← hq_]; exact (bm2_ HB.out GE213.out GE215.out)⟩; clear BK213 BK215 HB hq_; have BK213 := n0_; have BK215 := n1_; have HB := n2_; clear n0_ n1_ n2_)); (try have hczu33_0 : wc.cell? ⟨gb213, 0, none⟩ = some (.bool a2_0) := (blk_cell BK213.out 0).trans rfl); (try have hczu33_1 : wc.cell? ⟨gb213, 1, none⟩ = some (.bool true) := (blk_cell BK213.out 1).trans rfl); (try have hczu33_2 : wc.cell? ⟨gb213, 2, none⟩ = some (.int .i64 a2_2) := (blk_cell BK213.out 2).trans rfl); have hfzu33_0 := blk_frozen BK213.out 0; have hfzu33_1 := blk_frozen BK213.out 1; have hfzu33_2 := blk_frozen BK213.out 2; (try have hczu34_0 : wc.cell? ⟨gb215, 0, none⟩ = some (.int .u8 ((rd_T43 l0 a1).f0)) := (blk_cell BK215.out 0).trans rfl); (try have hczu34_1 : wc.cell? ⟨gb215, 1, none⟩ = some (.int .u8 ((rd_T43 l0 a1).f1)) := (blk_cell BK215.out 1).trans rfl); (try have hczu34_2 : wc.cell? ⟨gb215, 2, none⟩ = some (.int .u8 ((rd_T43 l0 a1).f2)) := (blk_cell BK215.out 2).trans rfl); (try have hczu34_3 : wc.cell? ⟨gb215, 3, none⟩ = some (.int .i16 ((rd_T43 l0 a1).f3)) := (blk_cell BK215.out 3).trans rfl); (try have hczu34_4 : wc.cell? ⟨gb215, 4, none⟩ = some (.int .i32 ((rd_T43 l0 a1).f4)) := (blk_cell BK215.out 4).trans rfl); have hfzu34_0 := blk_frozen BK215.out 0; have hfzu34_1 := blk_frozen BK215.out 1; have hfzu34_2 := blk_frozen BK215.out 2; have hfzu34_3 := blk_frozen BK215.out 3; have hfzu34_4 := blk_frozen BK215.out 4) | (go_at_call 39; (with_reducible refine (insn_Size.calls kj6 ((rd_T43 l0 a1).f0) t218 _ A23.out).mono ?_); rintro e w35 ⟨rfl, hb⟩; have n_ : _ ∧ _ ∧ _ := ⟨k_ (blk_below (g := gb213) (o := .cells #[.bool a2_0, .bool true, .int .i64 a2_2] 34 (0, 0)) (bk_ BK213.out) hb), k_ (blk_below (g := gb215) (o := .cells #[.int .u8 ((rd_T43 l0 a1).f0), .int .u8 ((rd_T43 l0 a1).f1), .int .u8 ((rd_T43 l0 a1).f2), .int .i16 ((rd_T43 l0 a1).f3), .int .i32 ((rd_T43 l0 a1).f4)] 43 (0, 0)) (bk_ BK215.out) hb), k_ (below_step (bm2_ HB.out GE213.out GE215.out) hb)⟩; clear BK213 BK215 HB; obtain ⟨BK213, BK215, HB⟩ := n_; (try clear hb); (try clear hb2); (try clear hk); (try clear hi); obtain ⟨⟨hcz36_0, hcz36_1, hcz36_2⟩, hfz36_0, hfz36_1, hfz36_2⟩ := blk3_ BK213.out; obtain ⟨⟨hcz37_0, hcz37_1, hcz37_2, hcz37_3, hcz37_4⟩, hfz37_0, hfz37_1, hfz37_2, hfz37_3, hfz37_4⟩ := blk5_ BK215.out) | ((with_reducible refine gate_dst (N := 115) rfl ?_); (try (refine gate_guard (by rfl) ?_; dsimp only)); refine Kd.R_lit k43 _ 43 ?hg (N := 115) ?hd (xs := ([(⟨((rd_T43 l0 a1).f0), ((rd_T43 l0 a1).f1), ((rd_T43 l0 a1).f2), t216, ((rd_T43 l0 a1).f4)⟩ : S43)] : List (S43))) (inner := [.int .u8 ((rd_T43 l0 a1).f0), .int .u8 ((rd_T43 l0 a1).f1), .int .u8 ((rd_T43 l0 a1).f2), .int .i16 t216, .int .i32 ((rd_T43 l0 a1).f4)]) (ok := fun _ => True) (okp := fun _ => True) ?hr ?hp (fun _ hk => hk) trivial (Below.refl _ _) (Nat.le_refl _) (by simp) ?_; (case hd => rfl); (case hg => rfl); (case hr => first | (go_simp; done) | (go_simp; rfl)); (case hp => exact (Reps.c5 (show Kd.M k43 _ _ _ (⟨((rd_T43 l0 a1).f0), ((rd_T43 l0 a1).f1), ((rd_T43 l0 a1).f2), t216, ((rd_T43 l0 a1).f4)⟩ : S43) [.int .u8 ((rd_T43 l0 a1).f0), .int .u8 ((rd_T43 l0 a1).f1), .int .u8 ((rd_T43 l0 a1).f2), .int .i16 t216, .int .i32 ((rd_T43 l0 a1).f4)] from (k43_mkM _ _ _ (⟨((rd_T43 l0 a1).f0), ((rd_T43 l0 a1).f1), ((rd_T43 l0 a1).f2), t216, ((rd_T43 l0 a1).f4)⟩ : S43) )) (Reps.none _ _))); intro v220 w38 ho39 hb hg_ hnew_; clear hg_ hnew_; (first | rw [← Ny219.out] at ho39 | (simp only [Int.reduceToNat] at ho39; rw [← Ny219.out] at ho39)); have n_ : _ ∧ _ ∧ _ ∧ _ := ⟨k_ (Kd.R_lower (Kd.R_newB ho39 (g := gb215) (o := .cells #[.int .u8 ((rd_T43 l0 a1).f0), .int .u8 ((rd_T43 l0 a1).f1), .int .u8 ((rd_T43 l0 a1).f2), .int .i16 t216, .int .i32 ((rd_T43 l0 a1).f4)] 43 (0, 0)) (bz0_ BK215.out)) (below_size (bm2_ HB.out GE213.out GE215.out))), k_ (blk_below (g := gb213) (o := .cells #[.bool a2_0, .bool true, .int .i64 a2_2] 34 (0, 0)) (bz1_ BK213.out NB213_215.out) hb), k_ (blk_below (g := gb215) (o := .cells #[.int .u8 ((rd_T43 l0 a1).f0), .int .u8 ((rd_T43 l0 a1).f1), .int .u8 ((rd_T43 l0 a1).f2), .int .i16 t216, .int .i32 ((rd_T43 l0 a1).f4)] 43 (0, 0)) (bz0_ BK215.out) hb), k_ (below_step (bm2_ HB.out GE213.out GE215.out) hb)⟩; clear BK213 BK215 HB; obtain ⟨HO221, BK213, BK215, HB⟩ := n_; clear hb ho39))
         go_ret2
         exact ⟨_, rr_, by (with_reducible repeat (first | apply ra_ | apply rn_ | apply rw_)); exact Kd.R_mono HO221.out (fun _ hk => trivial), bm2_ HB.out GE213.out GE215.out⟩
        ·
         rw [if_neg c29] at H
         have ⟨c29b0, c29b1⟩ := nqb_ c29; simp only [Option.some.injEq, Prod.mk.injEq] at H; obtain ⟨rfl, rfl⟩ := H; have hnb40 := NB213_215.out; have hnc40 := NB215_213.out; obtain ⟨⟨hcz41_0, hcz41_1, hcz41_2⟩, hfz41_0, hfz41_1, hfz41_2⟩ := blk3_ BK213.out; obtain ⟨⟨hcz42_0, hcz42_1, hcz42_2, hcz42_3, hcz42_4⟩, hfz42_0, hfz42_1, hfz42_2, hfz42_3, hfz42_4⟩ := blk5_ BK215.out; go_wp2_with (first | ((with_reducible refine gate_callee (f := 38) rfl ?_); refine goesL_ (some 38) rfl rfl Try.func38 (by kernel_rfl) rfl #[.int .i16 ((rd_T43 l0 a1).f3)] rfl am_ ?_; (with_reducible refine (fix_context.calls ((rd_T43 l0 a1).f3) t216 true _ A21.out).mono ?_); rintro e w' ⟨rfl, ⟨nd, rfl⟩⟩; refine ⟨_, rfl, ?_⟩) | (go_at_call 39; (with_reducible refine (insn_Size.calls kj6 ((rd_T43 l0 a1).f0) t218 _ A23.out).mono ?_); rintro e w43 ⟨rfl, hb⟩; have n_ : _ ∧ _ ∧ _ := ⟨k_ (blk_below (g := gb213) (o := .cells #[.bool a2_0, .bool true, .int .i64 a2_2] 34 (0, 0)) (bk_ BK213.out) hb), k_ (blk_below (g := gb215) (o := .cells #[.int .u8 ((rd_T43 l0 a1).f0), .int .u8 ((rd_T43 l0 a1).f1), .int .u8 ((rd_T43 l0 a1).f2), .int .i16 ((rd_T43 l0 a1).f3), .int .i32 ((rd_T43 l0 a1).f4)] 43 (0, 0)) (bk_ BK215.out) hb), k_ (below_step (bm2_ HB.out GE213.out GE215.out) hb)⟩; clear BK213 BK215 HB; obtain ⟨BK213, BK215, HB⟩ := n_; (try clear hb); (try clear hb2); (try clear hk); (try clear hi); obtain ⟨⟨hcz44_0, hcz44_1, hcz44_2⟩, hfz44_0, hfz44_1, hfz44_2⟩ := blk3_ BK213.out))
         go_ret2
         exact ⟨_, rr_, by first | exact Kd.R_nil _ _ _ _ _ | exact Kd.N_nil _ _ _ _ _ | exact Kd.V_nil _ _ _ _ _ | exact Kd.Q_nil _ _ _ _ _ | exact Kd.S_nil _ _ _ _ _, bm2_ HB.out GE213.out GE215.out⟩
      ·
       replace c22 := Bool.eq_false_iff.mpr c22
       subst c22; rw [if_neg (show ¬ (false = true) by decide)] at H; simp only [Option.some.injEq, Prod.mk.injEq] at H; obtain ⟨rfl, rfl⟩ := H; have hnb45 := NB213_215.out; have hnc45 := NB215_213.out; obtain ⟨⟨hcz46_0, hcz46_1, hcz46_2⟩, hfz46_0, hfz46_1, hfz46_2⟩ := blk3_ BK213.out; obtain ⟨⟨hcz47_0, hcz47_1, hcz47_2, hcz47_3, hcz47_4⟩, hfz47_0, hfz47_1, hfz47_2, hfz47_3, hfz47_4⟩ := blk5_ BK215.out; go_wp2_with (first | ((with_reducible refine gate_callee (f := 38) rfl ?_); refine goesL_ (some 38) rfl rfl Try.func38 (by kernel_rfl) rfl #[.int .i16 ((rd_T43 l0 a1).f3)] rfl am_ ?_; (with_reducible refine (fix_context.calls ((rd_T43 l0 a1).f3) t216 false _ A21.out).mono ?_); rintro e w' ⟨rfl, ⟨nd, rfl⟩⟩; refine ⟨_, rfl, ?_⟩))
       go_ret2
       exact ⟨_, rr_, by first | exact Kd.R_nil _ _ _ _ _ | exact Kd.N_nil _ _ _ _ _ | exact Kd.V_nil _ _ _ _ _ | exact Kd.Q_nil _ _ _ _ _ | exact Kd.S_nil _ _ _ _ _, bm2_ HB.out GE213.out GE215.out⟩
     ·
      replace c20 := Bool.eq_false_iff.mpr c20
      subst c20; rw [if_neg (show ¬ (false = true) by decide)] at H
      by_cases c48 : a2_2 = 0
      ·
       rw [if_pos c48] at H
       have ⟨c48b0, c48b1⟩ := eqb_ c48; clear c48; replace H := bs_ H; obtain ⟨t222, A49, H⟩ := H; (try dsimp only at H)
       by_cases c50 : t222 = true
       ·
        subst c50
        rw [if_pos rfl] at H; obtain ⟨ji51, hji51⟩ : ∃ j_ : Int, (wrap64 (a1 + 1)) = j_ := ⟨_, rfl⟩; (first | rw [hji51] at H | simp only [hji51] at H); (try rw [hji51] at A49); have hji51w : (IntKind.i64.wrap (a1 + 1)) = ji51 := (i64_w _).trans hji51
        by_cases c52 : 0 ≤ (ji51)
        ·
         rw [if_pos c52] at H
         have c52b0 := decide_eq_true c52; clear c52
         by_cases c53 : (ji51) < (l0.length : Int)
         ·
          rw [if_pos c53] at H
          have c53b0 := decide_eq_true c53; clear c53; replace H := bs_ H; obtain ⟨t224, A54, H⟩ := H; (try dsimp only at H)
          by_cases c55 : ((rd_T43 l0 a1).f2) = 1
          ·
           rw [if_pos c55] at H
           have ⟨c55b0, c55b1⟩ := eqb_ c55; clear c55; replace H := bs_ H; obtain ⟨t225, A56, H⟩ := H; (try dsimp only at H); simp only [Option.some.injEq, Prod.mk.injEq] at H; obtain ⟨rfl, rfl⟩ := H; have hnb57 := NB213_215.out; have hnc57 := NB215_213.out; obtain ⟨⟨hcz58_0, hcz58_1, hcz58_2⟩, hfz58_0, hfz58_1, hfz58_2⟩ := blk3_ BK213.out; obtain ⟨⟨hcz59_0, hcz59_1, hcz59_2, hcz59_3, hcz59_4⟩, hfz59_0, hfz59_1, hfz59_2, hfz59_3, hfz59_4⟩ := blk5_ BK215.out
           try go_wp2_with (first | ((with_reducible refine gate_callee (f := 18) rfl ?_); refine goesL_ (some 97) rfl rfl Try.func18 (by kernel_rfl) rfl #[.int .u8 ((rd_T43 l0 a1).f0)] rfl am_ ?_; (with_reducible refine (insn_Wide.calls ((rd_T43 l0 a1).f0) true _ A49.out).mono ?_); rintro e w' ⟨rfl, ⟨nd, rfl⟩⟩; refine ⟨_, rfl, ?_⟩))
           (try (rw [drewN_self wc]; generalize hq_ : World.drewN wc _ = wc; have n0_ : Aside0 (wc.heap[gb213]? = some (.cells #[.bool a2_0, .bool false, .int .i64 a2_2] 34 (0, 0))) := ⟨by rw [← hq_]; exact (bk_ BK213.out)⟩; have n1_ : Aside0 (wc.heap[gb215]? = some (.cells #[.int .u8 ((rd_T43 l0 a1).f0), .int .u8 ((rd_T43 l0 a1).f1), .int .u8 ((rd_T43 l0 a1).f2), .int .i16 ((rd_T43 l0 a1).f3), .int .i32 ((rd_T43 l0 a1).f4)] 43 (0, 0))) := ⟨by rw [← hq_]; exact (bk_ BK215.out)⟩; have n2_ : Aside0 (Below w.heap.size w wc) := ⟨by rw [← hq_]; exact (bm2_ HB.out GE213.out GE215.out)⟩; clear BK213 BK215 HB hq_; have BK213 := n0_; have BK215 := n1_; have HB := n2_; clear n0_ n1_ n2_)); (try have hczu60_0 : wc.cell? ⟨gb213, 0, none⟩ = some (.bool a2_0) := (blk_cell BK213.out 0).trans rfl); (try have hczu60_1 : wc.cell? ⟨gb213, 1, none⟩ = some (.bool false) := (blk_cell BK213.out 1).trans rfl); (try have hczu60_2 : wc.cell? ⟨gb213, 2, none⟩ = some (.int .i64 a2_2) := (blk_cell BK213.out 2).trans rfl); have hfzu60_0 := blk_frozen BK213.out 0; have hfzu60_1 := blk_frozen BK213.out 1; have hfzu60_2 := blk_frozen BK213.out 2; (try have hczu61_0 : wc.cell? ⟨gb215, 0, none⟩ = some (.int .u8 ((rd_T43 l0 a1).f0)) := (blk_cell BK215.out 0).trans rfl); (try have hczu61_1 : wc.cell? ⟨gb215, 1, none⟩ = some (.int .u8 ((rd_T43 l0 a1).f1)) := (blk_cell BK215.out 1).trans rfl); (try have hczu61_2 : wc.cell? ⟨gb215, 2, none⟩ = some (.int .u8 ((rd_T43 l0 a1).f2)) := (blk_cell BK215.out 2).trans rfl); (try have hczu61_3 : wc.cell? ⟨gb215, 3, none⟩ = some (.int .i16 ((rd_T43 l0 a1).f3)) := (blk_cell BK215.out 3).trans rfl); (try have hczu61_4 : wc.cell? ⟨gb215, 4, none⟩ = some (.int .i32 ((rd_T43 l0 a1).f4)) := (blk_cell BK215.out 4).trans rfl); have hfzu61_0 := blk_frozen BK215.out 0; have hfzu61_1 := blk_frozen BK215.out 1; have hfzu61_2 := blk_frozen BK215.out 2; have hfzu61_3 := blk_frozen BK215.out 3; have hfzu61_4 := blk_frozen BK215.out 4; have n_ : _ ∧ _ ∧ _ := ⟨k_ (blk_drew BK213.out), k_ (blk_drew BK215.out), k_ (below_drew1 HB.out)⟩; clear BK213 BK215 HB; obtain ⟨BK213, BK215, HB⟩ := n_; have p223 : 0 ≤ ((ji51) : Int) := of_decide_eq_true as_; have q223 : (ji51) < (l0.length : Int) := of_decide_eq_true as_; obtain ⟨ad223, e223, hx223_0, hx223_1, hx223_2, hx223_3, hx223_4⟩ := at_T43 HR0.out (ji51) p223 q223; have hw223_4 := hx223_4; have hw223_3 := hx223_3; have hw223_2 := hx223_2; have hw223_1 := hx223_1; have hw223_0 := hx223_0; obtain rfl : ad214 = ad223 := (by injection e223); replace hx223_0 := (HB.out.cell (World.block_lt_of_cell? w _ hx223_0)).trans hx223_0; replace hx223_1 := (HB.out.cell (World.block_lt_of_cell? w _ hx223_1)).trans hx223_1; replace hx223_2 := (HB.out.cell (World.block_lt_of_cell? w _ hx223_2)).trans hx223_2; replace hx223_3 := (HB.out.cell (World.block_lt_of_cell? w _ hx223_3)).trans hx223_3; replace hx223_4 := (HB.out.cell (World.block_lt_of_cell? w _ hx223_4)).trans hx223_4; replace p223 := eq_true p223; replace q223 := eq_true q223; refine start_ (n := 8) (S := fun w' => w'.cell? ⟨gb215, 0, none⟩ = some (.int .u8 ((rd_T43 l0 a1).f0)) ∧ w'.cell? ⟨gb215, 1, none⟩ = some (.int .u8 ((rd_T43 l0 a1).f1)) ∧ w'.cell? ⟨gb215, 2, none⟩ = some (.int .u8 ((rd_T43 l0 a1).f2)) ∧ w'.cell? ⟨gb215, 3, none⟩ = some (.int .i16 ((rd_T43 l0 a1).f3)) ∧ w'.cell? ⟨gb215, 4, none⟩ = some (.int .i32 ((rd_T43 l0 a1).f4)) ∧ w'.cell? (ad214.add (((ji51)).toNat * 5)) = some (.int .u8 ((rd_T43 l0 (ji51)).f0)) ∧ w'.cell? ⟨(ad214.add (((ji51)).toNat * 5)).block, (ad214.add (((ji51)).toNat * 5)).off + 1, none⟩ = some (.int .u8 ((rd_T43 l0 (ji51)).f1)) ∧ w'.cell? ⟨(ad214.add (((ji51)).toNat * 5)).block, (ad214.add (((ji51)).toNat * 5)).off + 2, none⟩ = some (.int .u8 ((rd_T43 l0 (ji51)).f2)) ∧ w'.cell? ⟨(ad214.add (((ji51)).toNat * 5)).block, (ad214.add (((ji51)).toNat * 5)).off + 3, none⟩ = some (.int .i16 ((rd_T43 l0 (ji51)).f3)) ∧ w'.cell? ⟨(ad214.add (((ji51)).toNat * 5)).block, (ad214.add (((ji51)).toNat * 5)).off + 4, none⟩ = some (.int .i32 ((rd_T43 l0 (ji51)).f4))) (ds := []) #[false, false, false, false, false, false, false, false] (by kernel_rfl) rfl rfl ⟨(blk_cell BK215.out 0).trans rfl, (blk_cell BK215.out 1).trans rfl, (blk_cell BK215.out 2).trans rfl, (blk_cell BK215.out 3).trans rfl, (blk_cell BK215.out 4).trans rfl, ((HB.out.cell (World.block_lt_of_cell? w _ hw223_0)).trans hw223_0), ((HB.out.cell (World.block_lt_of_cell? w _ hw223_1)).trans hw223_1), ((HB.out.cell (World.block_lt_of_cell? w _ hw223_2)).trans hw223_2), ((HB.out.cell (World.block_lt_of_cell? w _ hw223_3)).trans hw223_3), ((HB.out.cell (World.block_lt_of_cell? w _ hw223_4)).trans hw223_4)⟩ (fun hHeld => ?_); refine with_tabW fix_becomes.tab13 fix_becomes.bits13 (fun HT_ HW_ => ?_)
           generalize wc.drew = w62 at BK213 BK215 HB hx223_0 hx223_1 hx223_2 hx223_3 hx223_4 hHeld ⊢; refine pure_ (i := 1) (N := some 99) (v := ?_) (a' := ?_) #[false, true, false, false, false, false, false, false] rfl rfl (any_of HT_.out (by kernel_rfl)) (fun _ _ _ h => h) (Or.inl ⟨by rfl, ?_⟩) ?_ ?_; rotate_left
           ·
            intro w'
            go_simp; with_reducible rfl
           rotate_left
           ·
            exact pu_
           refine pure_ (i := 2) (N := some 100) (v := ?_) (a' := ?_) #[false, true, true, false, false, false, false, false] rfl rfl (any_of HT_.out (by kernel_rfl)) (fun _ _ _ h => h) (Or.inl ⟨by rfl, ?_⟩) ?_ ?_; rotate_left
           ·
            intro w'
            go_simp; with_reducible rfl
           rotate_left
           ·
            exact pu_
           refine pure_ (i := 3) (N := some 101) (v := ?_) (a' := ?_) #[false, true, true, true, false, false, false, false] rfl rfl (any_of HT_.out (by kernel_rfl)) (fun _ _ _ h => h) (Or.inl ⟨by rfl, ?_⟩) ?_ ?_; rotate_left
           ·
            intro w'
            go_simp; with_reducible rfl
           rotate_left
           ·
            exact pu_
           refine pure_ (i := 4) (N := some 102) (v := ?_) (a' := ?_) #[false, true, true, true, true, false, false, false] rfl rfl (any_of HT_.out (by kernel_rfl)) (fun _ _ _ h => h) (Or.inl ⟨by rfl, ?_⟩) ?_ ?_; rotate_left
           ·
            intro w'
            go_simp; with_reducible rfl
           rotate_left
           ·
            exact pu_
           refine take_ (i := 0) (N := some 98) (v := ?_) (a' := ?_) #[true, true, true, true, true, false, false, false] rfl rfl (take_ofW HT_.out HW_.out (by kernel_rfl)) (fun _ _ _ h => h) (Or.inl ⟨by rfl, ?_⟩) hHeld ?_ ?_; rotate_left
           ·
            rintro w' ⟨s0, s1, s2, s3, s4, s5, s6, s7, s8, s9⟩
            go_simp; with_reducible rfl
           rotate_left
           ·
            exact pu_
           refine take_ (i := 5) (N := some 103) (v := ?_) (a' := ?_) #[true, true, true, true, true, true, false, false] rfl rfl (take_ofW HT_.out HW_.out (by kernel_rfl)) (fun _ _ _ h => h) (Or.inl ⟨by rfl, ?_⟩) hHeld ?_ ?_; rotate_left
           ·
            rintro w' ⟨s0, s1, s2, s3, s4, s5, s6, s7, s8, s9⟩
            go_simp; with_reducible rfl
           rotate_left
           ·
            exact pu_
           refine one_ (i := 6) (N := some 104) #[true, true, true, true, true, true, true, false] rfl rfl (one_of HT_.out (by kernel_rfl)) (by decide) (fun K hK => ?_); refine goes_ Try.func41 (by kernel_rfl) rfl #[.agg #[.int .u8 ((rd_T43 l0 a1).f0), .int .u8 ((rd_T43 l0 a1).f1), .int .u8 ((rd_T43 l0 a1).f2), .int .i16 ((rd_T43 l0 a1).f3), .int .i32 ((rd_T43 l0 a1).f4)], .agg #[.int .u8 ((rd_T43 l0 (ji51)).f0), .int .u8 ((rd_T43 l0 (ji51)).f1), .int .u8 ((rd_T43 l0 (ji51)).f2), .int .i16 ((rd_T43 l0 (ji51)).f3), .int .i32 ((rd_T43 l0 (ji51)).f4)]] (by rfl) rfl rfl (by (try simp only [List.map_toArray, List.map_cons, List.map_nil]); first | done | (simp only [hji51]; rfl) | rfl | (simp only [List.length_drop, List.length_take]; rfl)) ?_; with_reducible refine (insn_Long.calls ((rd_T43 l0 a1).f0) ((rd_T43 l0 a1).f1) ((rd_T43 l0 a1).f2) ((rd_T43 l0 a1).f3) ((rd_T43 l0 a1).f4) ((rd_T43 l0 (ji51)).f0) ((rd_T43 l0 (ji51)).f1) ((rd_T43 l0 (ji51)).f2) ((rd_T43 l0 (ji51)).f3) ((rd_T43 l0 (ji51)).f4) t224 _ A54.out).mono ?_; rintro e w63 ⟨rfl, hb⟩; refine ⟨_, rfl, ?_⟩; have n_ : _ ∧ _ ∧ _ := ⟨k_ (blk_below (g := gb213) (o := .cells #[.bool a2_0, .bool false, .int .i64 a2_2] 34 (0, 0)) (bk_ BK213.out) hb), k_ (blk_below (g := gb215) (o := .cells #[.int .u8 ((rd_T43 l0 a1).f0), .int .u8 ((rd_T43 l0 a1).f1), .int .u8 ((rd_T43 l0 a1).f2), .int .i16 ((rd_T43 l0 a1).f3), .int .i32 ((rd_T43 l0 a1).f4)] 43 (0, 0)) (bk_ BK215.out) hb), k_ (below_step (bm2_ HB.out GE213.out GE215.out) hb)⟩; clear BK213 BK215 HB; obtain ⟨BK213, BK215, HB⟩ := n_; (try clear hb); (try clear hb2); (try clear hk); (try clear hi); refine hK.out _ _ ⟨(blk_cell BK215.out 0).trans rfl, (blk_cell BK215.out 1).trans rfl, (blk_cell BK215.out 2).trans rfl, (blk_cell BK215.out 3).trans rfl, (blk_cell BK215.out 4).trans rfl, ((HB.out.cell (World.block_lt_of_cell? w _ hw223_0)).trans hw223_0), ((HB.out.cell (World.block_lt_of_cell? w _ hw223_1)).trans hw223_1), ((HB.out.cell (World.block_lt_of_cell? w _ hw223_2)).trans hw223_2), ((HB.out.cell (World.block_lt_of_cell? w _ hw223_3)).trans hw223_3), ((HB.out.cell (World.block_lt_of_cell? w _ hw223_4)).trans hw223_4)⟩ (fun hHeld => ?_); clear hK K; refine norm_ (a' := ?_) ?_ ?_; rotate_left
           ·
            show Act.put _ (some 104) _ = _
            simp only [Act.put, List.setIfInBounds_toArray, List.set_cons_zero, List.set_cons_succ, i64_w, i32_w]
            rfl
           refine pure_ (i := 7) (N := some 14) (v := ?_) (a' := ?_) #[true, true, true, true, true, true, true, true] rfl rfl (any_of HT_.out (by kernel_rfl)) (fun _ _ _ h => h) (Or.inl ⟨by rfl, ?_⟩) ?_ ?_; rotate_left
           ·
            intro w'
            go_simp; with_reducible rfl
           rotate_left
           ·
            exact pu_
           refine done_ (done_of HT_.out (by kernel_rfl)) ?_; obtain ⟨⟨hcz64_0, hcz64_1, hcz64_2, hcz64_3, hcz64_4⟩, hfz64_0, hfz64_1, hfz64_2, hfz64_3, hfz64_4⟩ := blk5_ BK215.out
           try go_wp2_with (first | ((with_reducible refine gate_callee (f := 42) rfl ?_); refine goesL_ (some 113) rfl rfl Try.func42 (by kernel_rfl) rfl #[.int .u8 ((rd_T43 l0 a1).f1), .int .u8 0, .int .u64 (IntKind.u64.wrap (t224 + 281474976710656))] rfl am_ ?_; (with_reducible refine (insn_Split.calls ((rd_T43 l0 a1).f1) 0 (IntKind.u64.wrap (t224 + 281474976710656)) t225 _ A56.out).mono ?_); rintro e w65 ⟨v226, rfl, ho0, hb⟩; refine ⟨_, rfl, ?_⟩; have n_ : _ ∧ _ ∧ _ ∧ _ := ⟨k_ (Kd.R_lower (Kd.R_newB ho0 (g := gb215) (o := .cells #[.int .u8 ((rd_T43 l0 a1).f0), .int .u8 ((rd_T43 l0 a1).f1), .int .u8 ((rd_T43 l0 a1).f2), .int .i16 ((rd_T43 l0 a1).f3), .int .i32 ((rd_T43 l0 a1).f4)] 43 (0, 0)) (bk_ BK215.out)) (below_size (bm2_ HB.out GE213.out GE215.out))), k_ (blk_below (g := gb213) (o := .cells #[.bool a2_0, .bool false, .int .i64 a2_2] 34 (0, 0)) (bk_ BK213.out) hb), k_ (blk_below (g := gb215) (o := .cells #[.int .u8 ((rd_T43 l0 a1).f0), .int .u8 ((rd_T43 l0 a1).f1), .int .u8 ((rd_T43 l0 a1).f2), .int .i16 ((rd_T43 l0 a1).f3), .int .i32 ((rd_T43 l0 a1).f4)] 43 (0, 0)) (bk_ BK215.out) hb), k_ (below_step (bm2_ HB.out GE213.out GE215.out) hb)⟩; clear BK213 BK215 HB; obtain ⟨HO227, BK213, BK215, HB⟩ := n_; (try clear hb); (try clear hb2); (try clear hk); (try clear hi); (try clear ho0)))
           go_ret2
           exact ⟨_, by first | rfl | (simp [errW_none, errW_some] <;> rfl) | (simp only [← hji51]; first | rfl | (simp [errW_none, errW_some] <;> rfl)) | (simp [*, errW_none, errW_some] <;> rfl), by (with_reducible repeat (first | apply ra_ | apply rn_ | apply rw_)); exact Kd.R_mono HO227.out (fun _ hk => trivial), bm2_ HB.out GE213.out GE215.out⟩
          ·
           rw [if_neg c55] at H
           have ⟨c55b0, c55b1⟩ := nqb_ c55; replace H := bs_ H; obtain ⟨t228, A66, H⟩ := H; (try dsimp only at H); simp only [Option.some.injEq, Prod.mk.injEq] at H; obtain ⟨rfl, rfl⟩ := H; have hnb67 := NB213_215.out; have hnc67 := NB215_213.out; obtain ⟨⟨hcz68_0, hcz68_1, hcz68_2⟩, hfz68_0, hfz68_1, hfz68_2⟩ := blk3_ BK213.out; obtain ⟨⟨hcz69_0, hcz69_1, hcz69_2, hcz69_3, hcz69_4⟩, hfz69_0, hfz69_1, hfz69_2, hfz69_3, hfz69_4⟩ := blk5_ BK215.out
           try go_wp2_with (first | ((with_reducible refine gate_callee (f := 18) rfl ?_); refine goesL_ (some 97) rfl rfl Try.func18 (by kernel_rfl) rfl #[.int .u8 ((rd_T43 l0 a1).f0)] rfl am_ ?_; (with_reducible refine (insn_Wide.calls ((rd_T43 l0 a1).f0) true _ A49.out).mono ?_); rintro e w' ⟨rfl, ⟨nd, rfl⟩⟩; refine ⟨_, rfl, ?_⟩))
           (try (rw [drewN_self wc]; generalize hq_ : World.drewN wc _ = wc; have n0_ : Aside0 (wc.heap[gb213]? = some (.cells #[.bool a2_0, .bool false, .int .i64 a2_2] 34 (0, 0))) := ⟨by rw [← hq_]; exact (bk_ BK213.out)⟩; have n1_ : Aside0 (wc.heap[gb215]? = some (.cells #[.int .u8 ((rd_T43 l0 a1).f0), .int .u8 ((rd_T43 l0 a1).f1), .int .u8 ((rd_T43 l0 a1).f2), .int .i16 ((rd_T43 l0 a1).f3), .int .i32 ((rd_T43 l0 a1).f4)] 43 (0, 0))) := ⟨by rw [← hq_]; exact (bk_ BK215.out)⟩; have n2_ : Aside0 (Below w.heap.size w wc) := ⟨by rw [← hq_]; exact (bm2_ HB.out GE213.out GE215.out)⟩; clear BK213 BK215 HB hq_; have BK213 := n0_; have BK215 := n1_; have HB := n2_; clear n0_ n1_ n2_)); (try have hczu70_0 : wc.cell? ⟨gb213, 0, none⟩ = some (.bool a2_0) := (blk_cell BK213.out 0).trans rfl); (try have hczu70_1 : wc.cell? ⟨gb213, 1, none⟩ = some (.bool false) := (blk_cell BK213.out 1).trans rfl); (try have hczu70_2 : wc.cell? ⟨gb213, 2, none⟩ = some (.int .i64 a2_2) := (blk_cell BK213.out 2).trans rfl); have hfzu70_0 := blk_frozen BK213.out 0; have hfzu70_1 := blk_frozen BK213.out 1; have hfzu70_2 := blk_frozen BK213.out 2; (try have hczu71_0 : wc.cell? ⟨gb215, 0, none⟩ = some (.int .u8 ((rd_T43 l0 a1).f0)) := (blk_cell BK215.out 0).trans rfl); (try have hczu71_1 : wc.cell? ⟨gb215, 1, none⟩ = some (.int .u8 ((rd_T43 l0 a1).f1)) := (blk_cell BK215.out 1).trans rfl); (try have hczu71_2 : wc.cell? ⟨gb215, 2, none⟩ = some (.int .u8 ((rd_T43 l0 a1).f2)) := (blk_cell BK215.out 2).trans rfl); (try have hczu71_3 : wc.cell? ⟨gb215, 3, none⟩ = some (.int .i16 ((rd_T43 l0 a1).f3)) := (blk_cell BK215.out 3).trans rfl); (try have hczu71_4 : wc.cell? ⟨gb215, 4, none⟩ = some (.int .i32 ((rd_T43 l0 a1).f4)) := (blk_cell BK215.out 4).trans rfl); have hfzu71_0 := blk_frozen BK215.out 0; have hfzu71_1 := blk_frozen BK215.out 1; have hfzu71_2 := blk_frozen BK215.out 2; have hfzu71_3 := blk_frozen BK215.out 3; have hfzu71_4 := blk_frozen BK215.out 4; have n_ : _ ∧ _ ∧ _ := ⟨k_ (blk_drew BK213.out), k_ (blk_drew BK215.out), k_ (below_drew1 HB.out)⟩; clear BK213 BK215 HB; obtain ⟨BK213, BK215, HB⟩ := n_; have p223 : 0 ≤ ((ji51) : Int) := of_decide_eq_true as_; have q223 : (ji51) < (l0.length : Int) := of_decide_eq_true as_; obtain ⟨ad223, e223, hx223_0, hx223_1, hx223_2, hx223_3, hx223_4⟩ := at_T43 HR0.out (ji51) p223 q223; have hw223_4 := hx223_4; have hw223_3 := hx223_3; have hw223_2 := hx223_2; have hw223_1 := hx223_1; have hw223_0 := hx223_0; obtain rfl : ad214 = ad223 := (by injection e223); replace hx223_0 := (HB.out.cell (World.block_lt_of_cell? w _ hx223_0)).trans hx223_0; replace hx223_1 := (HB.out.cell (World.block_lt_of_cell? w _ hx223_1)).trans hx223_1; replace hx223_2 := (HB.out.cell (World.block_lt_of_cell? w _ hx223_2)).trans hx223_2; replace hx223_3 := (HB.out.cell (World.block_lt_of_cell? w _ hx223_3)).trans hx223_3; replace hx223_4 := (HB.out.cell (World.block_lt_of_cell? w _ hx223_4)).trans hx223_4; replace p223 := eq_true p223; replace q223 := eq_true q223; refine start_ (n := 8) (S := fun w' => w'.cell? ⟨gb215, 0, none⟩ = some (.int .u8 ((rd_T43 l0 a1).f0)) ∧ w'.cell? ⟨gb215, 1, none⟩ = some (.int .u8 ((rd_T43 l0 a1).f1)) ∧ w'.cell? ⟨gb215, 2, none⟩ = some (.int .u8 ((rd_T43 l0 a1).f2)) ∧ w'.cell? ⟨gb215, 3, none⟩ = some (.int .i16 ((rd_T43 l0 a1).f3)) ∧ w'.cell? ⟨gb215, 4, none⟩ = some (.int .i32 ((rd_T43 l0 a1).f4)) ∧ w'.cell? (ad214.add (((ji51)).toNat * 5)) = some (.int .u8 ((rd_T43 l0 (ji51)).f0)) ∧ w'.cell? ⟨(ad214.add (((ji51)).toNat * 5)).block, (ad214.add (((ji51)).toNat * 5)).off + 1, none⟩ = some (.int .u8 ((rd_T43 l0 (ji51)).f1)) ∧ w'.cell? ⟨(ad214.add (((ji51)).toNat * 5)).block, (ad214.add (((ji51)).toNat * 5)).off + 2, none⟩ = some (.int .u8 ((rd_T43 l0 (ji51)).f2)) ∧ w'.cell? ⟨(ad214.add (((ji51)).toNat * 5)).block, (ad214.add (((ji51)).toNat * 5)).off + 3, none⟩ = some (.int .i16 ((rd_T43 l0 (ji51)).f3)) ∧ w'.cell? ⟨(ad214.add (((ji51)).toNat * 5)).block, (ad214.add (((ji51)).toNat * 5)).off + 4, none⟩ = some (.int .i32 ((rd_T43 l0 (ji51)).f4))) (ds := []) #[false, false, false, false, false, false, false, false] (by kernel_rfl) rfl rfl ⟨(blk_cell BK215.out 0).trans rfl, (blk_cell BK215.out 1).trans rfl, (blk_cell BK215.out 2).trans rfl, (blk_cell BK215.out 3).trans rfl, (blk_cell BK215.out 4).trans rfl, ((HB.out.cell (World.block_lt_of_cell? w _ hw223_0)).trans hw223_0), ((HB.out.cell (World.block_lt_of_cell? w _ hw223_1)).trans hw223_1), ((HB.out.cell (World.block_lt_of_cell? w _ hw223_2)).trans hw223_2), ((HB.out.cell (World.block_lt_of_cell? w _ hw223_3)).trans hw223_3), ((HB.out.cell (World.block_lt_of_cell? w _ hw223_4)).trans hw223_4)⟩ (fun hHeld => ?_); refine with_tabW fix_becomes.tab13 fix_becomes.bits13 (fun HT_ HW_ => ?_)
           generalize wc.drew = w72 at BK213 BK215 HB hx223_0 hx223_1 hx223_2 hx223_3 hx223_4 hHeld ⊢; refine pure_ (i := 1) (N := some 99) (v := ?_) (a' := ?_) #[false, true, false, false, false, false, false, false] rfl rfl (any_of HT_.out (by kernel_rfl)) (fun _ _ _ h => h) (Or.inl ⟨by rfl, ?_⟩) ?_ ?_; rotate_left
           ·
            intro w'
            go_simp; with_reducible rfl
           rotate_left
           ·
            exact pu_
           refine pure_ (i := 2) (N := some 100) (v := ?_) (a' := ?_) #[false, true, true, false, false, false, false, false] rfl rfl (any_of HT_.out (by kernel_rfl)) (fun _ _ _ h => h) (Or.inl ⟨by rfl, ?_⟩) ?_ ?_; rotate_left
           ·
            intro w'
            go_simp; with_reducible rfl
           rotate_left
           ·
            exact pu_
           refine pure_ (i := 3) (N := some 101) (v := ?_) (a' := ?_) #[false, true, true, true, false, false, false, false] rfl rfl (any_of HT_.out (by kernel_rfl)) (fun _ _ _ h => h) (Or.inl ⟨by rfl, ?_⟩) ?_ ?_; rotate_left
           ·
            intro w'
            go_simp; with_reducible rfl
           rotate_left
           ·
            exact pu_
           refine pure_ (i := 4) (N := some 102) (v := ?_) (a' := ?_) #[false, true, true, true, true, false, false, false] rfl rfl (any_of HT_.out (by kernel_rfl)) (fun _ _ _ h => h) (Or.inl ⟨by rfl, ?_⟩) ?_ ?_; rotate_left
           ·
            intro w'
            go_simp; with_reducible rfl
           rotate_left
           ·
            exact pu_
           refine take_ (i := 0) (N := some 98) (v := ?_) (a' := ?_) #[true, true, true, true, true, false, false, false] rfl rfl (take_ofW HT_.out HW_.out (by kernel_rfl)) (fun _ _ _ h => h) (Or.inl ⟨by rfl, ?_⟩) hHeld ?_ ?_; rotate_left
           ·
            rintro w' ⟨s0, s1, s2, s3, s4, s5, s6, s7, s8, s9⟩
            go_simp; with_reducible rfl
           rotate_left
           ·
            exact pu_
           refine take_ (i := 5) (N := some 103) (v := ?_) (a' := ?_) #[true, true, true, true, true, true, false, false] rfl rfl (take_ofW HT_.out HW_.out (by kernel_rfl)) (fun _ _ _ h => h) (Or.inl ⟨by rfl, ?_⟩) hHeld ?_ ?_; rotate_left
           ·
            rintro w' ⟨s0, s1, s2, s3, s4, s5, s6, s7, s8, s9⟩
            go_simp; with_reducible rfl
           rotate_left
           ·
            exact pu_
           refine one_ (i := 6) (N := some 104) #[true, true, true, true, true, true, true, false] rfl rfl (one_of HT_.out (by kernel_rfl)) (by decide) (fun K hK => ?_); refine goes_ Try.func41 (by kernel_rfl) rfl #[.agg #[.int .u8 ((rd_T43 l0 a1).f0), .int .u8 ((rd_T43 l0 a1).f1), .int .u8 ((rd_T43 l0 a1).f2), .int .i16 ((rd_T43 l0 a1).f3), .int .i32 ((rd_T43 l0 a1).f4)], .agg #[.int .u8 ((rd_T43 l0 (ji51)).f0), .int .u8 ((rd_T43 l0 (ji51)).f1), .int .u8 ((rd_T43 l0 (ji51)).f2), .int .i16 ((rd_T43 l0 (ji51)).f3), .int .i32 ((rd_T43 l0 (ji51)).f4)]] (by rfl) rfl rfl (by (try simp only [List.map_toArray, List.map_cons, List.map_nil]); first | done | (simp only [hji51]; rfl) | rfl | (simp only [List.length_drop, List.length_take]; rfl)) ?_; with_reducible refine (insn_Long.calls ((rd_T43 l0 a1).f0) ((rd_T43 l0 a1).f1) ((rd_T43 l0 a1).f2) ((rd_T43 l0 a1).f3) ((rd_T43 l0 a1).f4) ((rd_T43 l0 (ji51)).f0) ((rd_T43 l0 (ji51)).f1) ((rd_T43 l0 (ji51)).f2) ((rd_T43 l0 (ji51)).f3) ((rd_T43 l0 (ji51)).f4) t224 _ A54.out).mono ?_; rintro e w73 ⟨rfl, hb⟩; refine ⟨_, rfl, ?_⟩; have n_ : _ ∧ _ ∧ _ := ⟨k_ (blk_below (g := gb213) (o := .cells #[.bool a2_0, .bool false, .int .i64 a2_2] 34 (0, 0)) (bk_ BK213.out) hb), k_ (blk_below (g := gb215) (o := .cells #[.int .u8 ((rd_T43 l0 a1).f0), .int .u8 ((rd_T43 l0 a1).f1), .int .u8 ((rd_T43 l0 a1).f2), .int .i16 ((rd_T43 l0 a1).f3), .int .i32 ((rd_T43 l0 a1).f4)] 43 (0, 0)) (bk_ BK215.out) hb), k_ (below_step (bm2_ HB.out GE213.out GE215.out) hb)⟩; clear BK213 BK215 HB; obtain ⟨BK213, BK215, HB⟩ := n_; (try clear hb); (try clear hb2); (try clear hk); (try clear hi); refine hK.out _ _ ⟨(blk_cell BK215.out 0).trans rfl, (blk_cell BK215.out 1).trans rfl, (blk_cell BK215.out 2).trans rfl, (blk_cell BK215.out 3).trans rfl, (blk_cell BK215.out 4).trans rfl, ((HB.out.cell (World.block_lt_of_cell? w _ hw223_0)).trans hw223_0), ((HB.out.cell (World.block_lt_of_cell? w _ hw223_1)).trans hw223_1), ((HB.out.cell (World.block_lt_of_cell? w _ hw223_2)).trans hw223_2), ((HB.out.cell (World.block_lt_of_cell? w _ hw223_3)).trans hw223_3), ((HB.out.cell (World.block_lt_of_cell? w _ hw223_4)).trans hw223_4)⟩ (fun hHeld => ?_); clear hK K; refine norm_ (a' := ?_) ?_ ?_; rotate_left
           ·
            show Act.put _ (some 104) _ = _
            simp only [Act.put, List.setIfInBounds_toArray, List.set_cons_zero, List.set_cons_succ, i64_w, i32_w]
            rfl
           refine pure_ (i := 7) (N := some 14) (v := ?_) (a' := ?_) #[true, true, true, true, true, true, true, true] rfl rfl (any_of HT_.out (by kernel_rfl)) (fun _ _ _ h => h) (Or.inl ⟨by rfl, ?_⟩) ?_ ?_; rotate_left
           ·
            intro w'
            go_simp; with_reducible rfl
           rotate_left
           ·
            exact pu_
           refine done_ (done_of HT_.out (by kernel_rfl)) ?_; obtain ⟨⟨hcz74_0, hcz74_1, hcz74_2, hcz74_3, hcz74_4⟩, hfz74_0, hfz74_1, hfz74_2, hfz74_3, hfz74_4⟩ := blk5_ BK215.out
           try go_wp2_with (first | ((with_reducible refine gate_callee (f := 42) rfl ?_); refine goesL_ (some 113) rfl rfl Try.func42 (by kernel_rfl) rfl #[.int .u8 ((rd_T43 l0 a1).f1), .int .u8 0, .int .u64 t224] rfl am_ ?_; (with_reducible refine (insn_Split.calls ((rd_T43 l0 a1).f1) 0 t224 t228 _ A66.out).mono ?_); rintro e w75 ⟨v229, rfl, ho0, hb⟩; refine ⟨_, rfl, ?_⟩; have n_ : _ ∧ _ ∧ _ ∧ _ := ⟨k_ (Kd.R_lower (Kd.R_newB ho0 (g := gb215) (o := .cells #[.int .u8 ((rd_T43 l0 a1).f0), .int .u8 ((rd_T43 l0 a1).f1), .int .u8 ((rd_T43 l0 a1).f2), .int .i16 ((rd_T43 l0 a1).f3), .int .i32 ((rd_T43 l0 a1).f4)] 43 (0, 0)) (bk_ BK215.out)) (below_size (bm2_ HB.out GE213.out GE215.out))), k_ (blk_below (g := gb213) (o := .cells #[.bool a2_0, .bool false, .int .i64 a2_2] 34 (0, 0)) (bk_ BK213.out) hb), k_ (blk_below (g := gb215) (o := .cells #[.int .u8 ((rd_T43 l0 a1).f0), .int .u8 ((rd_T43 l0 a1).f1), .int .u8 ((rd_T43 l0 a1).f2), .int .i16 ((rd_T43 l0 a1).f3), .int .i32 ((rd_T43 l0 a1).f4)] 43 (0, 0)) (bk_ BK215.out) hb), k_ (below_step (bm2_ HB.out GE213.out GE215.out) hb)⟩; clear BK213 BK215 HB; obtain ⟨HO230, BK213, BK215, HB⟩ := n_; (try clear hb); (try clear hb2); (try clear hk); (try clear hi); (try clear ho0)))
           go_ret2
           exact ⟨_, by first | rfl | (simp [errW_none, errW_some] <;> rfl) | (simp only [← hji51]; first | rfl | (simp [errW_none, errW_some] <;> rfl)) | (simp [*, errW_none, errW_some] <;> rfl), by (with_reducible repeat (first | apply ra_ | apply rn_ | apply rw_)); exact Kd.R_mono HO230.out (fun _ hk => trivial), bm2_ HB.out GE213.out GE215.out⟩
         ·
          rw [if_neg c53] at H
          exact absurd H (by simp)
        ·
         rw [if_neg c52] at H
         exact absurd H (by simp)
       ·
        replace c50 := Bool.eq_false_iff.mpr c50
        subst c50; rw [if_neg (show ¬ (false = true) by decide)] at H; obtain ⟨y231, hy231⟩ : ∃ y_ : List (S43), y_ = (([(⟨((rd_T43 l0 a1).f0), ((rd_T43 l0 a1).f1), ((rd_T43 l0 a1).f2), ((rd_T43 l0 a1).f3), ((rd_T43 l0 a1).f4)⟩ : S43)] : List (S43))) := ⟨_, rfl⟩; (first | rw [Option.bind_some, ← hy231] at H | rw [Option.bind_some] at H | rw [← hy231] at H | skip); have Ny231 := Aside0.mk hy231; clear hy231; simp only [Option.some.injEq, Prod.mk.injEq] at H; obtain ⟨rfl, rfl⟩ := H; have hnb76 := NB213_215.out; have hnc76 := NB215_213.out; obtain ⟨⟨hcz77_0, hcz77_1, hcz77_2⟩, hfz77_0, hfz77_1, hfz77_2⟩ := blk3_ BK213.out; obtain ⟨⟨hcz78_0, hcz78_1, hcz78_2, hcz78_3, hcz78_4⟩, hfz78_0, hfz78_1, hfz78_2, hfz78_3, hfz78_4⟩ := blk5_ BK215.out; go_wp2_with (first | ((with_reducible refine gate_callee (f := 18) rfl ?_); refine goesL_ (some 97) rfl rfl Try.func18 (by kernel_rfl) rfl #[.int .u8 ((rd_T43 l0 a1).f0)] rfl am_ ?_; (with_reducible refine (insn_Wide.calls ((rd_T43 l0 a1).f0) false _ A49.out).mono ?_); rintro e w' ⟨rfl, ⟨nd, rfl⟩⟩; refine ⟨_, rfl, ?_⟩) | ((with_reducible refine gate_dst (N := 115) rfl ?_); (try (refine gate_guard (by rfl) ?_; dsimp only)); refine Kd.R_lit k43 _ 43 ?hg (N := 115) ?hd (xs := ([(⟨((rd_T43 l0 a1).f0), ((rd_T43 l0 a1).f1), ((rd_T43 l0 a1).f2), ((rd_T43 l0 a1).f3), ((rd_T43 l0 a1).f4)⟩ : S43)] : List (S43))) (inner := [.int .u8 ((rd_T43 l0 a1).f0), .int .u8 ((rd_T43 l0 a1).f1), .int .u8 ((rd_T43 l0 a1).f2), .int .i16 ((rd_T43 l0 a1).f3), .int .i32 ((rd_T43 l0 a1).f4)]) (ok := fun _ => True) (okp := fun _ => True) ?hr ?hp (fun _ hk => hk) trivial (Below.refl _ _) (Nat.le_refl _) (by simp) ?_; (case hd => rfl); (case hg => rfl); (case hr => first | (go_simp; done) | (go_simp; rfl)); (case hp => exact (Reps.c5 (show Kd.M k43 _ _ _ (⟨((rd_T43 l0 a1).f0), ((rd_T43 l0 a1).f1), ((rd_T43 l0 a1).f2), ((rd_T43 l0 a1).f3), ((rd_T43 l0 a1).f4)⟩ : S43) [.int .u8 ((rd_T43 l0 a1).f0), .int .u8 ((rd_T43 l0 a1).f1), .int .u8 ((rd_T43 l0 a1).f2), .int .i16 ((rd_T43 l0 a1).f3), .int .i32 ((rd_T43 l0 a1).f4)] from (k43_mkM _ _ _ (⟨((rd_T43 l0 a1).f0), ((rd_T43 l0 a1).f1), ((rd_T43 l0 a1).f2), ((rd_T43 l0 a1).f3), ((rd_T43 l0 a1).f4)⟩ : S43) )) (Reps.none _ _))); intro v232 w79 ho80 hb hg_ hnew_; clear hg_ hnew_; (first | rw [← Ny231.out] at ho80 | (simp only [Int.reduceToNat] at ho80; rw [← Ny231.out] at ho80)); have n_ : _ ∧ _ ∧ _ ∧ _ := ⟨k_ (Kd.R_lower (Kd.R_newB ho80 (g := gb215) (o := .cells #[.int .u8 ((rd_T43 l0 a1).f0), .int .u8 ((rd_T43 l0 a1).f1), .int .u8 ((rd_T43 l0 a1).f2), .int .i16 ((rd_T43 l0 a1).f3), .int .i32 ((rd_T43 l0 a1).f4)] 43 (0, 0)) (bk_ BK215.out)) (below_size (bm2_ HB.out GE213.out GE215.out))), k_ (blk_below (g := gb213) (o := .cells #[.bool a2_0, .bool false, .int .i64 a2_2] 34 (0, 0)) (bk_ BK213.out) hb), k_ (blk_below (g := gb215) (o := .cells #[.int .u8 ((rd_T43 l0 a1).f0), .int .u8 ((rd_T43 l0 a1).f1), .int .u8 ((rd_T43 l0 a1).f2), .int .i16 ((rd_T43 l0 a1).f3), .int .i32 ((rd_T43 l0 a1).f4)] 43 (0, 0)) (bk_ BK215.out) hb), k_ (below_step (bm2_ HB.out GE213.out GE215.out) hb)⟩; clear BK213 BK215 HB; obtain ⟨HO233, BK213, BK215, HB⟩ := n_; clear hb ho80))
        go_ret2
        exact ⟨_, rr_, by (with_reducible repeat (first | apply ra_ | apply rn_ | apply rw_)); exact Kd.R_mono HO233.out (fun _ hk => trivial), bm2_ HB.out GE213.out GE215.out⟩
      ·
       rw [if_neg c48] at H
       have ⟨c48b0, c48b1⟩ := nqb_ c48
       by_cases c81 : x11_6 = true
       ·
        subst c81
        rw [if_pos rfl] at H
        by_cases c82 : a2_2 < 0
        ·
         rw [if_pos c82] at H
         have c82b0 := decide_eq_true c82; clear c82; simp only [Option.some.injEq, Prod.mk.injEq] at H; obtain ⟨rfl, rfl⟩ := H; have hnb83 := NB213_215.out; have hnc83 := NB215_213.out; obtain ⟨⟨hcz84_0, hcz84_1, hcz84_2⟩, hfz84_0, hfz84_1, hfz84_2⟩ := blk3_ BK213.out; go_wp2; go_ret2
         exact ⟨_, rr_, by first | exact Kd.R_nil _ _ _ _ _ | exact Kd.N_nil _ _ _ _ _ | exact Kd.V_nil _ _ _ _ _ | exact Kd.Q_nil _ _ _ _ _ | exact Kd.S_nil _ _ _ _ _, bm2_ HB.out GE213.out GE215.out⟩
        ·
         rw [if_neg c82] at H
         have c82b0 := decide_eq_false c82; clear c82
         by_cases c85 : a2_2 > (l3.length : Int)
         ·
          rw [if_pos c85] at H
          have c85b0 := decide_eq_true c85; clear c85; simp only [Option.some.injEq, Prod.mk.injEq] at H; obtain ⟨rfl, rfl⟩ := H; have hnb86 := NB213_215.out; have hnc86 := NB215_213.out; obtain ⟨⟨hcz87_0, hcz87_1, hcz87_2⟩, hfz87_0, hfz87_1, hfz87_2⟩ := blk3_ BK213.out; go_wp2; go_ret2
          exact ⟨_, rr_, by first | exact Kd.R_nil _ _ _ _ _ | exact Kd.N_nil _ _ _ _ _ | exact Kd.V_nil _ _ _ _ _ | exact Kd.Q_nil _ _ _ _ _ | exact Kd.S_nil _ _ _ _ _, bm2_ HB.out GE213.out GE215.out⟩
         ·
          rw [if_neg c85] at H
          have c85b0 := decide_eq_false c85; clear c85; obtain ⟨ji88, hji88⟩ : ∃ j_ : Int, (wrap64 (a2_2 - 1)) = j_ := ⟨_, rfl⟩; (first | rw [hji88] at H | simp only [hji88] at H); have hji88w : (IntKind.i64.wrap (a2_2 - 1)) = ji88 := (i64_w _).trans hji88
          by_cases c89 : 0 ≤ (ji88)
          ·
           rw [if_pos c89] at H
           have c89b0 := decide_eq_true c89; clear c89
           by_cases c90 : (ji88) < (l3.length : Int)
           ·
            rw [if_pos c90] at H
            have c90b0 := decide_eq_true c90; clear c90
            by_cases c91 : ((rd_T80 l3 (ji88)).f0) = 0
            ·
             rw [if_pos c91] at H
             have ⟨c91b0, c91b1⟩ := eqb_ c91; clear c91; replace H := bs_ H; obtain ⟨t236, A92, H⟩ := H; (try dsimp only at H); simp only [Option.some.injEq, Prod.mk.injEq] at H; obtain ⟨rfl, rfl⟩ := H; have hnb93 := NB213_215.out; have hnc93 := NB215_213.out; obtain ⟨⟨hcz94_0, hcz94_1, hcz94_2⟩, hfz94_0, hfz94_1, hfz94_2⟩ := blk3_ BK213.out; have p234 : 0 ≤ ((ji88) : Int) := of_decide_eq_true as_; have q234 : (ji88) < (l3.length : Int) := of_decide_eq_true as_; obtain ⟨ad234, e234, hx234_0, hx234_1, hx234_2, hx234_3⟩ := at_T80 (Kd.C_below HR3.out HB.out) (ji88) p234 q234
             cases e234
             replace p234 := eq_true p234; replace q234 := eq_true q234
             try go_wp2
             have n_ : _ ∧ _ ∧ _ := ⟨k_ (blk_drew BK213.out), k_ (blk_drew BK215.out), k_ (below_drew1 HB.out)⟩; clear BK213 BK215 HB; obtain ⟨BK213, BK215, HB⟩ := n_; have p235 : 0 ≤ ((ji88) : Int) := of_decide_eq_true as_; have q235 : (ji88) < (l3.length : Int) := of_decide_eq_true as_; obtain ⟨ad235, e235, hx235_0, hx235_1, hx235_2, hx235_3⟩ := at_T80 HR3.out (ji88) p235 q235; have hw235_3 := hx235_3; have hw235_2 := hx235_2; have hw235_1 := hx235_1; have hw235_0 := hx235_0; obtain rfl : ad234 = ad235 := (by injection e235); replace hx235_0 := (HB.out.cell (World.block_lt_of_cell? w _ hx235_0)).trans hx235_0; replace hx235_1 := (HB.out.cell (World.block_lt_of_cell? w _ hx235_1)).trans hx235_1; replace hx235_2 := (HB.out.cell (World.block_lt_of_cell? w _ hx235_2)).trans hx235_2; replace hx235_3 := (HB.out.cell (World.block_lt_of_cell? w _ hx235_3)).trans hx235_3; replace p235 := eq_true p235; replace q235 := eq_true q235; refine start_ (n := 12) (S := fun w' => w'.cell? ⟨gb213, 0, none⟩ = some (.bool a2_0) ∧ w'.cell? ⟨gb213, 1, none⟩ = some (.bool false) ∧ w'.cell? ⟨gb213, 2, none⟩ = some (.int .i64 a2_2) ∧ w'.cell? (ad234.add (((ji88)).toNat * 4)) = some (.int .i64 ((rd_T80 l3 (ji88)).f0)) ∧ w'.cell? ⟨(ad234.add (((ji88)).toNat * 4)).block, (ad234.add (((ji88)).toNat * 4)).off + 1, none⟩ = some (.int .i64 ((rd_T80 l3 (ji88)).f1)) ∧ w'.cell? ⟨(ad234.add (((ji88)).toNat * 4)).block, (ad234.add (((ji88)).toNat * 4)).off + 2, none⟩ = some (.int .i64 ((rd_T80 l3 (ji88)).f2)) ∧ w'.cell? ⟨(ad234.add (((ji88)).toNat * 4)).block, (ad234.add (((ji88)).toNat * 4)).off + 3, none⟩ = some (.int .i64 ((rd_T80 l3 (ji88)).f3))) (ds := []) #[false, false, false, false, false, false, false, false, false, false, false, false] (by kernel_rfl) rfl rfl ⟨(blk_cell BK213.out 0).trans rfl, (blk_cell BK213.out 1).trans rfl, (blk_cell BK213.out 2).trans rfl, ((HB.out.cell (World.block_lt_of_cell? w _ hw235_0)).trans hw235_0), ((HB.out.cell (World.block_lt_of_cell? w _ hw235_1)).trans hw235_1), ((HB.out.cell (World.block_lt_of_cell? w _ hw235_2)).trans hw235_2), ((HB.out.cell (World.block_lt_of_cell? w _ hw235_3)).trans hw235_3)⟩ (fun hHeld => ?_); refine with_tabW fix_becomes.tab11 fix_becomes.bits11 (fun HT_ HW_ => ?_)
             generalize wc.drew = w95 at BK213 BK215 HB hx235_0 hx235_1 hx235_2 hx235_3 hHeld ⊢; refine pure_ (i := 0) (N := some 84) (v := ?_) (a' := ?_) #[true, false, false, false, false, false, false, false, false, false, false, false] rfl rfl (any_of HT_.out (by kernel_rfl)) (fun _ _ _ h => h) (Or.inl ⟨by rfl, ?_⟩) ?_ ?_; rotate_left
             ·
              intro w'
              go_simp; with_reducible rfl
             rotate_left
             ·
              exact pu_
             refine pure_ (i := 3) (N := some 87) (v := ?_) (a' := ?_) #[true, false, false, true, false, false, false, false, false, false, false, false] rfl rfl (any_of HT_.out (by kernel_rfl)) (fun _ _ _ h => h) (Or.inl ⟨by rfl, ?_⟩) ?_ ?_; rotate_left
             ·
              intro w'
              go_simp; with_reducible rfl
             rotate_left
             ·
              exact pu_
             refine pure_ (i := 4) (N := some 88) (v := ?_) (a' := ?_) #[true, false, false, true, true, false, false, false, false, false, false, false] rfl rfl (any_of HT_.out (by kernel_rfl)) (fun _ _ _ h => h) (Or.inl ⟨by rfl, ?_⟩) ?_ ?_; rotate_left
             ·
              intro w'
              go_simp; with_reducible rfl
             rotate_left
             ·
              exact pu_
             refine take_ (i := 1) (N := some 85) (v := ?_) (a' := ?_) #[true, true, false, true, true, false, false, false, false, false, false, false] rfl rfl (take_ofW HT_.out HW_.out (by kernel_rfl)) (fun _ _ _ h => h) (Or.inl ⟨by rfl, ?_⟩) hHeld ?_ ?_; rotate_left
             ·
              rintro w' ⟨s0, s1, s2, s3, s4, s5, s6⟩
              go_simp; with_reducible rfl
             rotate_left
             ·
              exact pu_
             refine pure_ (i := 2) (N := some 86) (v := ?_) (a' := ?_) #[true, true, true, true, true, false, false, false, false, false, false, false] rfl rfl (any_of HT_.out (by kernel_rfl)) (fun _ _ _ h => h) (Or.inl ⟨by rfl, ?_⟩) ?_ ?_; rotate_left
             ·
              intro w'
              go_simp; with_reducible rfl
             rotate_left
             ·
              exact pu_
             refine take_ (i := 5) (N := some 89) (v := ?_) (a' := ?_) #[true, true, true, true, true, true, false, false, false, false, false, false] rfl rfl (take_ofW HT_.out HW_.out (by kernel_rfl)) (fun _ _ _ h => h) (Or.inl ⟨by rfl, ?_⟩) hHeld ?_ ?_; rotate_left
             ·
              rintro w' ⟨s0, s1, s2, s3, s4, s5, s6⟩
              go_simp; with_reducible rfl
             rotate_left
             ·
              exact pu_
             refine pure_ (i := 6) (N := some 90) (v := ?_) (a' := ?_) #[true, true, true, true, true, true, true, false, false, false, false, false] rfl rfl (any_of HT_.out (by kernel_rfl)) (fun _ _ _ h => h) (Or.inl ⟨by rfl, ?_⟩) ?_ ?_; rotate_left
             ·
              intro w'
              go_simp; with_reducible rfl
             rotate_left
             ·
              exact pu_
             refine pure_ (i := 7) (N := some 91) (v := ?_) (a' := ?_) #[true, true, true, true, true, true, true, true, false, false, false, false] rfl rfl (any_of HT_.out (by kernel_rfl)) (fun _ _ _ h => h) (Or.inl ⟨by rfl, ?_⟩) ?_ ?_; rotate_left
             ·
              intro w'
              go_simp; with_reducible rfl
             rotate_left
             ·
              exact pu_
             refine take_ (i := 8) (N := some 92) (v := ?_) (a' := ?_) #[true, true, true, true, true, true, true, true, true, false, false, false] rfl rfl (take_ofW HT_.out HW_.out (by kernel_rfl)) (fun _ _ _ h => h) (Or.inl ⟨by rfl, ?_⟩) hHeld ?_ ?_; rotate_left
             ·
              rintro w' ⟨s0, s1, s2, s3, s4, s5, s6⟩
              go_simp; with_reducible rfl
             rotate_left
             ·
              exact pu_
             refine one_ (i := 9) (N := some 93) #[true, true, true, true, true, true, true, true, true, true, false, false] rfl rfl (one_of HT_.out (by kernel_rfl)) (by decide) (fun K hK => ?_); refine goes_ Try.func40 (by kernel_rfl) rfl #[.int .i64 ji88, .agg #[.int .i64 ((rd_T80 l3 (ji88)).f0), .int .i64 ((rd_T80 l3 (ji88)).f1), .int .i64 ((rd_T80 l3 (ji88)).f2), .int .i64 ((rd_T80 l3 (ji88)).f3)]] (by rfl) rfl rfl (by (try simp only [List.map_toArray, List.map_cons, List.map_nil]); first | done | (simp only [hji88]; rfl) | rfl | (simp only [List.length_drop, List.length_take]; rfl)) ?_; with_reducible refine (fix_lookup.calls ji88 ((rd_T80 l3 (ji88)).f0) ((rd_T80 l3 (ji88)).f1) ((rd_T80 l3 (ji88)).f2) ((rd_T80 l3 (ji88)).f3) t236 _ A92.out).mono ?_; rintro e w96 ⟨v237, rfl, ho0, hb⟩; refine ⟨_, rfl, ?_⟩; have n_ : _ ∧ _ ∧ _ ∧ _ := ⟨k_ (Kd.R_lower (Kd.R_newB ho0 (g := gb215) (o := .cells #[.int .u8 ((rd_T43 l0 a1).f0), .int .u8 ((rd_T43 l0 a1).f1), .int .u8 ((rd_T43 l0 a1).f2), .int .i16 ((rd_T43 l0 a1).f3), .int .i32 ((rd_T43 l0 a1).f4)] 43 (0, 0)) (bk_ BK215.out)) (below_size (bm2_ HB.out GE213.out GE215.out))), k_ (blk_below (g := gb213) (o := .cells #[.bool a2_0, .bool false, .int .i64 a2_2] 34 (0, 0)) (bk_ BK213.out) hb), k_ (blk_below (g := gb215) (o := .cells #[.int .u8 ((rd_T43 l0 a1).f0), .int .u8 ((rd_T43 l0 a1).f1), .int .u8 ((rd_T43 l0 a1).f2), .int .i16 ((rd_T43 l0 a1).f3), .int .i32 ((rd_T43 l0 a1).f4)] 43 (0, 0)) (bk_ BK215.out) hb), k_ (below_step (bm2_ HB.out GE213.out GE215.out) hb)⟩; clear BK213 BK215 HB; obtain ⟨HO238, BK213, BK215, HB⟩ := n_; (try clear hb); (try clear hb2); (try clear hk); (try clear hi); (try clear ho0); refine hK.out _ _ ⟨(blk_cell BK213.out 0).trans rfl, (blk_cell BK213.out 1).trans rfl, (blk_cell BK213.out 2).trans rfl, ((HB.out.cell (World.block_lt_of_cell? w _ hw235_0)).trans hw235_0), ((HB.out.cell (World.block_lt_of_cell? w _ hw235_1)).trans hw235_1), ((HB.out.cell (World.block_lt_of_cell? w _ hw235_2)).trans hw235_2), ((HB.out.cell (World.block_lt_of_cell? w _ hw235_3)).trans hw235_3)⟩ (fun hHeld => ?_); clear hK K; refine norm_ (a' := ?_) ?_ ?_; rotate_left
             ·
              show Act.put _ (some 93) _ = _
              simp only [Act.put, List.setIfInBounds_toArray, List.set_cons_zero, List.set_cons_succ, i64_w, i32_w]
              rfl
             refine pure_ (i := 10) (N := some 8) (v := ?_) (a' := ?_) #[true, true, true, true, true, true, true, true, true, true, true, false] rfl rfl (any_of HT_.out (by kernel_rfl)) (fun _ _ _ h => h) (Or.inl ⟨by rfl, ?_⟩) ?_ ?_; rotate_left
             ·
              intro w'
              go_simp; with_reducible rfl
             rotate_left
             ·
              exact pu_
             refine pure_ (i := 11) (N := some 9) (v := ?_) (a' := ?_) #[true, true, true, true, true, true, true, true, true, true, true, true] rfl rfl (any_of HT_.out (by kernel_rfl)) (fun _ _ _ h => h) (Or.inl ⟨by rfl, ?_⟩) ?_ ?_; rotate_left
             ·
              intro w'
              go_simp; with_reducible rfl
             rotate_left
             ·
              exact pu_
             refine done_ (done_of HT_.out (by kernel_rfl)) ?_
             try go_wp2
             go_ret2
             exact ⟨_, by first | rfl | (simp [errW_none, errW_some] <;> rfl) | (simp only [← hji88]; first | rfl | (simp [errW_none, errW_some] <;> rfl)) | (simp [*, errW_none, errW_some] <;> rfl), by (with_reducible repeat (first | apply ra_ | apply rn_ | apply rw_)); exact Kd.R_mono HO238.out (fun _ hk => trivial), bm2_ HB.out GE213.out GE215.out⟩
            ·
             rw [if_neg c91] at H
             have ⟨c91b0, c91b1⟩ := nqb_ c91; simp only [Option.some.injEq, Prod.mk.injEq] at H; obtain ⟨rfl, rfl⟩ := H; have hnb97 := NB213_215.out; have hnc97 := NB215_213.out; obtain ⟨⟨hcz98_0, hcz98_1, hcz98_2⟩, hfz98_0, hfz98_1, hfz98_2⟩ := blk3_ BK213.out; have p234 : 0 ≤ ((ji88) : Int) := of_decide_eq_true as_; have q234 : (ji88) < (l3.length : Int) := of_decide_eq_true as_; obtain ⟨ad234, e234, hx234_0, hx234_1, hx234_2, hx234_3⟩ := at_T80 (Kd.C_below HR3.out HB.out) (ji88) p234 q234
             cases e234
             replace p234 := eq_true p234; replace q234 := eq_true q234; go_wp2; go_ret2
             exact ⟨_, by first | rfl | (simp [errW_none, errW_some] <;> rfl) | (simp only [← hji88]; first | rfl | (simp [errW_none, errW_some] <;> rfl)) | (simp [*, errW_none, errW_some] <;> rfl), by first | exact Kd.R_nil _ _ _ _ _ | exact Kd.N_nil _ _ _ _ _ | exact Kd.V_nil _ _ _ _ _ | exact Kd.Q_nil _ _ _ _ _ | exact Kd.S_nil _ _ _ _ _, bm2_ HB.out GE213.out GE215.out⟩
           ·
            rw [if_neg c90] at H
            exact absurd H (by simp)
          ·
           rw [if_neg c89] at H
           exact absurd H (by simp)
       ·
        replace c81 := Bool.eq_false_iff.mpr c81
        subst c81; rw [if_neg (show ¬ (false = true) by decide)] at H; simp only [Option.some.injEq, Prod.mk.injEq] at H; obtain ⟨rfl, rfl⟩ := H; have hnb99 := NB213_215.out; have hnc99 := NB215_213.out; obtain ⟨⟨hcz100_0, hcz100_1, hcz100_2⟩, hfz100_0, hfz100_1, hfz100_2⟩ := blk3_ BK213.out; go_wp2; go_ret2
        exact ⟨_, rr_, by first | exact Kd.R_nil _ _ _ _ _ | exact Kd.N_nil _ _ _ _ _ | exact Kd.V_nil _ _ _ _ _ | exact Kd.Q_nil _ _ _ _ _ | exact Kd.S_nil _ _ _ _ _, bm2_ HB.out GE213.out GE215.out⟩
  ·
   rw [if_neg c6] at H
   exact absurd H (by simp)
 ·
  rw [if_neg c5] at H
  exact absurd H (by simp)

end Go.Proofs.Ytmijlibnembkaaa.PA
