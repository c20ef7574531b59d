-- Printed by wip/tools/extprint.py over the kit's printer, with contracts of this session's own. Lean checks it.
import Derived.Test.YtmijlibnembkaaaFsPAx0
import Derived.Test.YtmijlibnembkaaaFsPAx2
import Derived.Test.YtmijlibnembkaaaFsPAx19
namespace Go.Proofs.Ytmijlibnembkaaa.PA
open Go.RowKit Go.Proofs.YtmijlibnembkaaaW.PrintWords Go.Proofs.YtmijlibnembkaaaW.PrintLast Go.Proofs.YtmijlibnembkaaaW.PrintMore
attribute [local go_sem] max2_int min2_int max_two min_two max_three min_three max_four min_four   -- for this text's walks alone
set_option linter.unusedVariables false
set_option linter.unusedSimpArgs false

attribute [local go_sem high] eqA43
/-! ### posternlaw19_FixStays: function 6 -/
mutual
def posternlaw19_FixStays.l0 : Nat → List (S43) → List (S43) → Int → Int → Option (Bool)
 | 0, _, _, _, _ => none
 | k + 1, x0, x5, x31, x32 => if x32 < x31 then (if 0 ≤ x32 then (if x32 < (x0.length : Int) then (if ((rd_T43 x0 x32).f0) = 24 then (posternlaw19_FixStays.j1 k x0 x5 x32 x31 x32 (((rd_T43 x0 x32).f2) == 1) ((rd_T43 x0 x32).f0) ((rd_T43 x0 x32).f1) ((rd_T43 x0 x32).f2) ((rd_T43 x0 x32).f3) ((rd_T43 x0 x32).f4)) else (posternlaw19_FixStays.j1 k x0 x5 x32 x31 x32 false ((rd_T43 x0 x32).f0) ((rd_T43 x0 x32).f1) ((rd_T43 x0 x32).f2) ((rd_T43 x0 x32).f3) ((rd_T43 x0 x32).f4))) else (none)) else (none)) else (some true)
def posternlaw19_FixStays.j1 : Nat → List (S43) → List (S43) → Int → Int → Int → Bool → Int → Int → Int → Int → Int → Option (Bool)
 | 0, _, _, _, _, _, _, _, _, _, _, _ => none
 | k + 1, x0, x5, x7, x31, x32, x46, x587000, x587001, x587002, x587003, x587004 => if x46 = true then (if 0 ≤ x7 then (if x7 < (x5.length : Int) then (if ((rd_T43 x5 x7).f0) = 24 then (if ((rd_T43 x5 x7).f2) = 0 then (if ((rd_T43 x5 x7).f1) = x587001 then (if ((rd_T43 x5 x7).f4) = x587004 then (if 0 ≤ (wrap64 (x7 + 1)) then (if (wrap64 (x7 + 1)) < (x5.length : Int) then (if (wrap64 (x7 + 1)) < (x0.length : Int) then (posternlaw19_FixStays.j2 k x0 x5 x31 x32 ((((rd_T43 x5 (wrap64 (x7 + 1))).f4) % 4294967296) != (((((rd_T43 x0 (wrap64 (x7 + 1))).f4) % 4294967296) + 65536) % 4294967296))) else (none)) else (none)) else (none)) else (posternlaw19_FixStays.j2 k x0 x5 x31 x32 true)) else (posternlaw19_FixStays.j2 k x0 x5 x31 x32 true)) else (posternlaw19_FixStays.j2 k x0 x5 x31 x32 true)) else (posternlaw19_FixStays.j2 k x0 x5 x31 x32 true)) else (none)) else (none)) else (if 0 ≤ x7 then (if x7 < (x5.length : Int) then (if (!(((rd_T43 x5 x7).f0) == x587000) || (!(((rd_T43 x5 x7).f1) == x587001) || (!(((rd_T43 x5 x7).f2) == x587002) || (!(((rd_T43 x5 x7).f3) == x587003) || (!(((rd_T43 x5 x7).f4) == x587004)))))) = true then (if x7 = 0 then (some false) else (if 0 ≤ (wrap64 (x7 - 1)) then (if (wrap64 (x7 - 1)) < (x0.length : Int) then (if ((rd_T43 x0 (wrap64 (x7 - 1))).f0) = 24 then (if ((rd_T43 x0 (wrap64 (x7 - 1))).f2) = 1 then (posternlaw19_FixStays.l0 k x0 x5 x31 (wrap64 (x32 + 1))) else (some false)) else (some false)) else (none)) else (none))) else (posternlaw19_FixStays.l0 k x0 x5 x31 (wrap64 (x32 + 1)))) else (none)) else (none))
def posternlaw19_FixStays.j2 : Nat → List (S43) → List (S43) → Int → Int → Bool → Option (Bool)
 | 0, _, _, _, _, _ => none
 | k + 1, x0, x5, x31, x32, x98 => if x98 = true then (some false) else (posternlaw19_FixStays.l0 k x0 x5 x31 (wrap64 (x32 + 1)))
end
def posternlaw19_FixStays.f (k : Nat) (l0 : List (S43)) (l1 : List (S80)) : Option (Bool) := (posternlaw19_first.f k).bind fun t577 => (if t577 = true then (if 0 ≤ (l0.length : Int) then (if ((l0.length : Int) : Int).toNat ≤ 17592186044416 then ((fix_Fix.f k l0 (List.replicate ((l0.length : Int) : Int).toNat z34) l1).bind fun bt581 => (if bt581.2 = 0 then (if (bt581.1.length : Int) = (l0.length : Int) then (posternlaw19_FixStays.l0 k l0 bt581.1 (bt581.1.length : Int) 0) else (some false)) else (some ((bt581.1.length : Int) == 0)))) else (none)) else (none)) else (some false))
theorem posternlaw19_FixStays.mono_l : ∀ k, (∀ y0 y1 y2 y3, LeO (posternlaw19_FixStays.l0 k y0 y1 y2 y3) (posternlaw19_FixStays.l0 (k + 1) y0 y1 y2 y3)) ∧ (∀ y0 y1 y2 y3 y4 y5 y6 y7 y8 y9 y10, LeO (posternlaw19_FixStays.j1 k y0 y1 y2 y3 y4 y5 y6 y7 y8 y9 y10) (posternlaw19_FixStays.j1 (k + 1) y0 y1 y2 y3 y4 y5 y6 y7 y8 y9 y10)) ∧ (∀ y0 y1 y2 y3 y4, LeO (posternlaw19_FixStays.j2 k y0 y1 y2 y3 y4) (posternlaw19_FixStays.j2 (k + 1) y0 y1 y2 y3 y4))
 | 0 => ⟨fun _ _ _ _ r h => by simp [posternlaw19_FixStays.l0] at h, fun _ _ _ _ _ _ _ _ _ _ _ r h => by simp [posternlaw19_FixStays.j1] at h, fun _ _ _ _ _ r h => by simp [posternlaw19_FixStays.j2] at h⟩
 | k + 1 => by
  obtain ⟨ih0, ih1, ih2⟩ := posternlaw19_FixStays.mono_l k
  refine ⟨?_, ?_, ?_⟩
  ·
   intro y0 y1 y2 y3
   unfold posternlaw19_FixStays.l0
   repeat' first
   | (with_reducible exact ih0 _ _ _ _)
   | (with_reducible exact ih1 _ _ _ _ _ _ _ _ _ _ _)
   | (with_reducible exact ih2 _ _ _ _ _)
   | (with_reducible exact fix_Fix.mono _ _ _ _)
   | (with_reducible exact posternlaw19_first.mono _)
   | (with_reducible exact LeO.refl _)
   | (with_reducible exact LeO.none _)
   | (with_reducible refine LeO.ite ?_ ?_)
   | (with_reducible refine LeO.bind ?_ (fun _ => ?_))
  ·
   intro y0 y1 y2 y3 y4 y5 y6 y7 y8 y9 y10
   unfold posternlaw19_FixStays.j1
   repeat' first
   | (with_reducible exact ih0 _ _ _ _)
   | (with_reducible exact ih1 _ _ _ _ _ _ _ _ _ _ _)
   | (with_reducible exact ih2 _ _ _ _ _)
   | (with_reducible exact fix_Fix.mono _ _ _ _)
   | (with_reducible exact posternlaw19_first.mono _)
   | (with_reducible exact LeO.refl _)
   | (with_reducible exact LeO.none _)
   | (with_reducible refine LeO.ite ?_ ?_)
   | (with_reducible refine LeO.bind ?_ (fun _ => ?_))
  ·
   intro y0 y1 y2 y3 y4
   unfold posternlaw19_FixStays.j2
   repeat' first
   | (with_reducible exact ih0 _ _ _ _)
   | (with_reducible exact ih1 _ _ _ _ _ _ _ _ _ _ _)
   | (with_reducible exact ih2 _ _ _ _ _)
   | (with_reducible exact fix_Fix.mono _ _ _ _)
   | (with_reducible exact posternlaw19_first.mono _)
   | (with_reducible exact LeO.refl _)
   | (with_reducible exact LeO.none _)
   | (with_reducible refine LeO.ite ?_ ?_)
   | (with_reducible refine LeO.bind ?_ (fun _ => ?_))
theorem posternlaw19_FixStays.mono : ∀ a0 a1 k, LeO (posternlaw19_FixStays.f k a0 a1) (posternlaw19_FixStays.f (k + 1) a0 a1) := by
 intro a0 a1 k
 obtain ⟨ih0, ih1, ih2⟩ := posternlaw19_FixStays.mono_l k
 unfold posternlaw19_FixStays.f
 repeat' first
   | (with_reducible exact ih0 _ _ _ _)
   | (with_reducible exact ih1 _ _ _ _ _ _ _ _ _ _ _)
   | (with_reducible exact ih2 _ _ _ _ _)
   | (with_reducible exact fix_Fix.mono _ _ _ _)
   | (with_reducible exact posternlaw19_first.mono _)
   | (with_reducible exact LeO.refl _)
   | (with_reducible exact LeO.none _)
   | (with_reducible refine LeO.ite ?_ ?_)
   | (with_reducible refine LeO.bind ?_ (fun _ => ?_))
set_option maxHeartbeats 8000000 in
set_option maxRecDepth 100000 in
theorem posternlaw19_FixStays.calls (k : Nat) (A0 : Option Addr) (c0 : Nat) (l0 : List (S43)) (A1 : Option Addr) (c1 : Nat) (l1 : List (S80)) (r : Bool) (w : World) (hr0 : Kd.C k43 w A0 l0.length l0) (hc0 : l0.length ≤ c0) (hr1 : Kd.C k80 w A1 l1.length l1) (hc1 : l1.length ≤ c1) (h : posternlaw19_FixStays.f k l0 l1 = some r) :
  Calls Try.prog 6 #[.slice A0 l0.length c0, .slice A1 l1.length c1] w fun e w' => e = .returned (.bool r) ∧ Below w.heap.size w w' := by
 have hu43 := Try.underlying43
 have HR0 := Aside0.mk hr0
 have HC0 := Aside0.mk hc0
 clear hr0 hc0
 have HR1 := Aside0.mk hr1
 have HC1 := Aside0.mk hc1
 clear hr1 hc1
 have HB := Aside0.mk (Below.refl w.heap.size w)
 have H : ((posternlaw19_first.f k).bind fun t577 => (if t577 = true then (if 0 ≤ (l0.length : Int) then (if ((l0.length : Int) : Int).toNat ≤ 17592186044416 then ((fix_Fix.f k l0 (List.replicate ((l0.length : Int) : Int).toNat z34) l1).bind fun bt581 => (if bt581.2 = 0 then (if (bt581.1.length : Int) = (l0.length : Int) then (posternlaw19_FixStays.l0 k l0 bt581.1 (bt581.1.length : Int) 0) else (some false)) else (some ((bt581.1.length : Int) == 0)))) else (none)) else (none)) else (some false))) = some r := h
 clear h
 replace H := Option.bind_eq_some_iff.mp H
 obtain ⟨t577, A30, H⟩ := H
 replace H : (if t577 = true then (if 0 ≤ (l0.length : Int) then (if ((l0.length : Int) : Int).toNat ≤ 17592186044416 then ((fix_Fix.f k l0 (List.replicate ((l0.length : Int) : Int).toNat z34) l1).bind fun bt581 => (if bt581.2 = 0 then (if (bt581.1.length : Int) = (l0.length : Int) then (posternlaw19_FixStays.l0 k l0 bt581.1 (bt581.1.length : Int) 0) else (some false)) else (some ((bt581.1.length : Int) == 0)))) else (none)) else (none)) else (some false)) = some r := H
 have A3 := Aside0.mk A30
 clear A30
 by_cases c4 : t577 = true
 ·
  subst c4
  have H1 : (if 0 ≤ (l0.length : Int) then (if ((l0.length : Int) : Int).toNat ≤ 17592186044416 then ((fix_Fix.f k l0 (List.replicate ((l0.length : Int) : Int).toNat z34) l1).bind fun bt581 => (if bt581.2 = 0 then (if (bt581.1.length : Int) = (l0.length : Int) then (posternlaw19_FixStays.l0 k l0 bt581.1 (bt581.1.length : Int) 0) else (some false)) else (some ((bt581.1.length : Int) == 0)))) else (none)) else (none)) = some r := by rw [if_pos rfl] at H; exact H
  clear H
  have H := H1
  clear H1
  by_cases c5 : 0 ≤ (l0.length : Int)
  ·
   rw [if_pos c5] at H
   have c5b0 := eq_true c5
   have c5b1 : decide (0 ≤ (l0.length : Int)) = true := decide_eq_true c5
   clear c5
   by_cases c6 : ((l0.length : Int) : Int).toNat ≤ 17592186044416
   ·
    rw [if_pos c6] at H
    have c6b0 := eq_true c6
    have c6b1 : decide (((l0.length : Int) : Int).toNat ≤ 17592186044416) = true := decide_eq_true c6
    clear c6
    obtain ⟨y578, hy578⟩ : ∃ y_ : List (S34), y_ = (List.replicate ((l0.length : Int) : Int).toNat z34) := ⟨_, rfl⟩
    replace H : ((fix_Fix.f k l0 y578 l1).bind fun bt581 => (if bt581.2 = 0 then (if (bt581.1.length : Int) = (l0.length : Int) then (posternlaw19_FixStays.l0 k l0 bt581.1 (bt581.1.length : Int) 0) else (some false)) else (some ((bt581.1.length : Int) == 0)))) = some r := by first | (rw [hy578]; with_reducible exact H) | (have H2_ := (Option.bind_some _ _).symm.trans H; rw [hy578]; with_reducible exact H2_) | (have H2_ := (Option.bind_some _ _).symm.trans H; with_reducible exact H2_) | with_reducible exact H | (rw [hy578]; exact H) | exact H
    have Ny578 := Aside0.mk hy578
    clear hy578
    replace H := Option.bind_eq_some_iff.mp H
    obtain ⟨⟨t581, t582⟩, A70, H⟩ := H
    replace H : (if t582 = 0 then (if (t581.length : Int) = (l0.length : Int) then (posternlaw19_FixStays.l0 k l0 t581 (t581.length : Int) 0) else (some false)) else (some ((t581.length : Int) == 0))) = some r := H
    have A7 := Aside0.mk A70
    clear A70
    by_cases c8 : t582 = 0
    ·
     rw [if_pos c8] at H
     have c8b0 : (t582 == 0) = true := beq_iff_eq.mpr c8
     have c8b1 : (t582 != 0) = false := bne_eq_false_iff_eq.mpr c8
     clear c8
     by_cases c9 : (t581.length : Int) = (l0.length : Int)
     ·
      rw [if_pos c9] at H
      have c9b0 : ((t581.length : Int) == (l0.length : Int)) = true := beq_iff_eq.mpr c9
      have c9b1 : ((t581.length : Int) != (l0.length : Int)) = false := bne_eq_false_iff_eq.mpr c9
      have c9b2 : (t581.length == l0.length) = true := by first | simpa using c9 | (simp at c9 ⊢; omega)
      clear c9
      have H' := Aside0.mk H
      clear H
      go_enter Try.func6, Try.ntmps6
      go_wp2_with (first | (go_at_call 12; (with_reducible refine (posternlaw19_first.calls k  true _ A3.out).mono ?_); rintro e w10 ⟨rfl, hb⟩; have n0_ := Aside0.mk (below_step (by repeat (first | (with_reducible first | exact HB.out | apply below_alloc | apply pw_below_drewN | apply below_drew1) | exact HB.out)) hb); clear HB; have HB := n0_; clear n0_; (try clear hb); (try clear hb2); (try clear hk); (try clear hi)) | ((with_reducible refine gate_dst (N := 15) rfl ?_); refine Kd.R_make k34 _ 34 rfl (N := 15) rfl 23 _ _ rfl (l0.length : Int) rfl rfl Try.underlying23 (.agg #[(.bool false), (.bool false), (.int .i64 0)]) 16 info34 rfl (by decide) (by omega) z34 (ok := fun _ => True) (okp := fun _ => True) (k34_mkM _ _ _ z34 ) (fun _ hk => hk) trivial (of_decide_eq_true (by first | (with_reducible assumption) | assumption)) (Nat.le_trans (Nat.mul_le_mul_right _ (of_decide_eq_true (by first | (with_reducible assumption) | assumption) : (l0.length : Int).toNat ≤ 17592186044416)) (by omega)) (Below.refl _ _) (Nat.le_refl _) ?_; intro v579 w11 ho12 hb hg_ hnew_; clear hg_ hnew_; (first | rw [← Ny578.out] at ho12 | (simp only [Int.reduceToNat] at ho12; rw [← Ny578.out] at ho12)); have n0_ := Aside0.mk (Kd.R_lower ho12 (below_size (by repeat (first | (with_reducible first | exact HB.out | apply below_alloc | apply pw_below_drewN | apply below_drew1) | exact HB.out)))); have n1_ := Aside0.mk (below_step (by repeat (first | (with_reducible first | exact HB.out | apply below_alloc | apply pw_below_drewN | apply below_drew1) | exact HB.out)) hb); clear HB; have HO580 := n0_; have HB := n1_; clear n0_ n1_; clear hb ho12; obtain ⟨Ao13, co13, eo13⟩ := Kd.R_slice HO580.out; subst eo13) | (go_at_call 13; (with_reducible refine (fix_Fix.calls k _ _ l0 _ _ y578 _ _ l1 t581 t582 _ ?side1 ?side2 ?side3 ?side4 ?side5 ?side6 A7.out).mono ?_); (case side1 => repeat (first | exact (Kd.C_below HR0.out HB.out) | (with_reducible refine Kd.C_alloc ?_ _) | (with_reducible refine Kd.C_drewN ?_ _) | (with_reducible refine Kd.C_drew ?_))); (case side2 => exact HC0.out); (case side3 => repeat (first | exact (Kd.R_reads' HO580.out).2.2 | (with_reducible refine Kd.C_alloc ?_ _) | (with_reducible refine Kd.C_drewN ?_ _) | (with_reducible refine Kd.C_drew ?_))); (case side4 => exact (Kd.R_reads' HO580.out).2.1); (case side5 => repeat (first | exact (Kd.C_below HR1.out HB.out) | (with_reducible refine Kd.C_alloc ?_ _) | (with_reducible refine Kd.C_drewN ?_ _) | (with_reducible refine Kd.C_drew ?_))); (case side6 => exact HC1.out); rintro e w14 ⟨v583, rfl, ho0, hb⟩; have n0_ := Aside0.mk (Kd.R_below (by (with_reducible repeat (first | apply Kd.R_alloc | apply Kd.R_drewN | apply Kd.R_drew)); exact HO580.out) hb); have n1_ := Aside0.mk (Kd.R_lower ho0 (below_size (by repeat (first | (with_reducible first | exact HB.out | apply below_alloc | apply pw_below_drewN | apply below_drew1) | exact HB.out)))); have n2_ := Aside0.mk (below_step (by repeat (first | (with_reducible first | exact HB.out | apply below_alloc | apply pw_below_drewN | apply below_drew1) | exact HB.out)) hb); clear HO580; clear HB; have HO580 := n0_; have HO584 := n1_; have HB := n2_; clear n0_ n1_ n2_; (try clear hb); (try clear hb2); (try clear hk); (try clear hi); (try clear ho0); obtain ⟨Ao15, co15, eo15⟩ := Kd.R_slice HO584.out; subst eo15))
      repeat (go_quiet (first | (go_at_call 12; (with_reducible refine (posternlaw19_first.calls k  true _ A3.out).mono ?_); rintro e w10 ⟨rfl, hb⟩; have n0_ := Aside0.mk (below_step (by repeat (first | (with_reducible first | exact HB.out | apply below_alloc | apply pw_below_drewN | apply below_drew1) | exact HB.out)) hb); clear HB; have HB := n0_; clear n0_; (try clear hb); (try clear hb2); (try clear hk); (try clear hi)) | ((with_reducible refine gate_dst (N := 15) rfl ?_); refine Kd.R_make k34 _ 34 rfl (N := 15) rfl 23 _ _ rfl (l0.length : Int) rfl rfl Try.underlying23 (.agg #[(.bool false), (.bool false), (.int .i64 0)]) 16 info34 rfl (by decide) (by omega) z34 (ok := fun _ => True) (okp := fun _ => True) (k34_mkM _ _ _ z34 ) (fun _ hk => hk) trivial (of_decide_eq_true (by first | (with_reducible assumption) | assumption)) (Nat.le_trans (Nat.mul_le_mul_right _ (of_decide_eq_true (by first | (with_reducible assumption) | assumption) : (l0.length : Int).toNat ≤ 17592186044416)) (by omega)) (Below.refl _ _) (Nat.le_refl _) ?_; intro v579 w11 ho12 hb hg_ hnew_; clear hg_ hnew_; (first | rw [← Ny578.out] at ho12 | (simp only [Int.reduceToNat] at ho12; rw [← Ny578.out] at ho12)); have n0_ := Aside0.mk (Kd.R_lower ho12 (below_size (by repeat (first | (with_reducible first | exact HB.out | apply below_alloc | apply pw_below_drewN | apply below_drew1) | exact HB.out)))); have n1_ := Aside0.mk (below_step (by repeat (first | (with_reducible first | exact HB.out | apply below_alloc | apply pw_below_drewN | apply below_drew1) | exact HB.out)) hb); clear HB; have HO580 := n0_; have HB := n1_; clear n0_ n1_; clear hb ho12; obtain ⟨Ao13, co13, eo13⟩ := Kd.R_slice HO580.out; subst eo13) | (go_at_call 13; (with_reducible refine (fix_Fix.calls k _ _ l0 _ _ y578 _ _ l1 t581 t582 _ ?side1 ?side2 ?side3 ?side4 ?side5 ?side6 A7.out).mono ?_); (case side1 => repeat (first | exact (Kd.C_below HR0.out HB.out) | (with_reducible refine Kd.C_alloc ?_ _) | (with_reducible refine Kd.C_drewN ?_ _) | (with_reducible refine Kd.C_drew ?_))); (case side2 => exact HC0.out); (case side3 => repeat (first | exact (Kd.R_reads' HO580.out).2.2 | (with_reducible refine Kd.C_alloc ?_ _) | (with_reducible refine Kd.C_drewN ?_ _) | (with_reducible refine Kd.C_drew ?_))); (case side4 => exact (Kd.R_reads' HO580.out).2.1); (case side5 => repeat (first | exact (Kd.C_below HR1.out HB.out) | (with_reducible refine Kd.C_alloc ?_ _) | (with_reducible refine Kd.C_drewN ?_ _) | (with_reducible refine Kd.C_drew ?_))); (case side6 => exact HC1.out); rintro e w14 ⟨v583, rfl, ho0, hb⟩; have n0_ := Aside0.mk (Kd.R_below (by (with_reducible repeat (first | apply Kd.R_alloc | apply Kd.R_drewN | apply Kd.R_drew)); exact HO580.out) hb); have n1_ := Aside0.mk (Kd.R_lower ho0 (below_size (by repeat (first | (with_reducible first | exact HB.out | apply below_alloc | apply pw_below_drewN | apply below_drew1) | exact HB.out)))); have n2_ := Aside0.mk (below_step (by repeat (first | (with_reducible first | exact HB.out | apply below_alloc | apply pw_below_drewN | apply below_drew1) | exact HB.out)) hb); clear HO580; clear HB; have HO580 := n0_; have HO584 := n1_; have HB := n2_; clear n0_ n1_ n2_; (try clear hb); (try clear hb2); (try clear hk); (try clear hi); (try clear ho0); obtain ⟨Ao15, co15, eo15⟩ := Kd.R_slice HO584.out; subst eo15)); try go_wp2_with (first | (go_at_call 12; (with_reducible refine (posternlaw19_first.calls k  true _ A3.out).mono ?_); rintro e w10 ⟨rfl, hb⟩; have n0_ := Aside0.mk (below_step (by repeat (first | (with_reducible first | exact HB.out | apply below_alloc | apply pw_below_drewN | apply below_drew1) | exact HB.out)) hb); clear HB; have HB := n0_; clear n0_; (try clear hb); (try clear hb2); (try clear hk); (try clear hi)) | ((with_reducible refine gate_dst (N := 15) rfl ?_); refine Kd.R_make k34 _ 34 rfl (N := 15) rfl 23 _ _ rfl (l0.length : Int) rfl rfl Try.underlying23 (.agg #[(.bool false), (.bool false), (.int .i64 0)]) 16 info34 rfl (by decide) (by omega) z34 (ok := fun _ => True) (okp := fun _ => True) (k34_mkM _ _ _ z34 ) (fun _ hk => hk) trivial (of_decide_eq_true (by first | (with_reducible assumption) | assumption)) (Nat.le_trans (Nat.mul_le_mul_right _ (of_decide_eq_true (by first | (with_reducible assumption) | assumption) : (l0.length : Int).toNat ≤ 17592186044416)) (by omega)) (Below.refl _ _) (Nat.le_refl _) ?_; intro v579 w11 ho12 hb hg_ hnew_; clear hg_ hnew_; (first | rw [← Ny578.out] at ho12 | (simp only [Int.reduceToNat] at ho12; rw [← Ny578.out] at ho12)); have n0_ := Aside0.mk (Kd.R_lower ho12 (below_size (by repeat (first | (with_reducible first | exact HB.out | apply below_alloc | apply pw_below_drewN | apply below_drew1) | exact HB.out)))); have n1_ := Aside0.mk (below_step (by repeat (first | (with_reducible first | exact HB.out | apply below_alloc | apply pw_below_drewN | apply below_drew1) | exact HB.out)) hb); clear HB; have HO580 := n0_; have HB := n1_; clear n0_ n1_; clear hb ho12; obtain ⟨Ao13, co13, eo13⟩ := Kd.R_slice HO580.out; subst eo13) | (go_at_call 13; (with_reducible refine (fix_Fix.calls k _ _ l0 _ _ y578 _ _ l1 t581 t582 _ ?side1 ?side2 ?side3 ?side4 ?side5 ?side6 A7.out).mono ?_); (case side1 => repeat (first | exact (Kd.C_below HR0.out HB.out) | (with_reducible refine Kd.C_alloc ?_ _) | (with_reducible refine Kd.C_drewN ?_ _) | (with_reducible refine Kd.C_drew ?_))); (case side2 => exact HC0.out); (case side3 => repeat (first | exact (Kd.R_reads' HO580.out).2.2 | (with_reducible refine Kd.C_alloc ?_ _) | (with_reducible refine Kd.C_drewN ?_ _) | (with_reducible refine Kd.C_drew ?_))); (case side4 => exact (Kd.R_reads' HO580.out).2.1); (case side5 => repeat (first | exact (Kd.C_below HR1.out HB.out) | (with_reducible refine Kd.C_alloc ?_ _) | (with_reducible refine Kd.C_drewN ?_ _) | (with_reducible refine Kd.C_drew ?_))); (case side6 => exact HC1.out); rintro e w14 ⟨v583, rfl, ho0, hb⟩; have n0_ := Aside0.mk (Kd.R_below (by (with_reducible repeat (first | apply Kd.R_alloc | apply Kd.R_drewN | apply Kd.R_drew)); exact HO580.out) hb); have n1_ := Aside0.mk (Kd.R_lower ho0 (below_size (by repeat (first | (with_reducible first | exact HB.out | apply below_alloc | apply pw_below_drewN | apply below_drew1) | exact HB.out)))); have n2_ := Aside0.mk (below_step (by repeat (first | (with_reducible first | exact HB.out | apply below_alloc | apply pw_below_drewN | apply below_drew1) | exact HB.out)) hb); clear HO580; clear HB; have HO580 := n0_; have HO584 := n1_; have HB := n2_; clear n0_ n1_ n2_; (try clear hb); (try clear hb2); (try clear hk); (try clear hi); (try clear ho0); obtain ⟨Ao15, co15, eo15⟩ := Kd.R_slice HO584.out; subst eo15)))
      go_loopg [32] k (fun kq v32 w' => ∃ (x32_1 : Int), v32 = .int .i64 x32_1 ∧ Aside0 (posternlaw19_FixStays.l0 kq l0 t581 (t581.length : Int) x32_1 = some r) ∧ Aside0 (kq ≤ k) ∧ Aside0 (Kd.R k43 43 w' w.heap.size (fun _ => True) (.slice Ao15 t581.length co15) t581) ∧ Aside0 (Below w.heap.size w w'))
      case atStart => exact ⟨(0), (by first | rfl | (simp; done) | (simp [*]; done)), H', ⟨Nat.le_refl _⟩, ⟨by (with_reducible repeat (first | apply Kd.R_alloc | apply Kd.R_drewN | apply Kd.R_drew)); exact HO584.out⟩, ⟨by repeat (first | (with_reducible first | exact HB.out | apply below_alloc | apply pw_below_drewN | apply below_drew1) | exact HB.out)⟩⟩
      case round =>
       clear H'
       try clear c1; try clear p2; try clear c4; try clear c5; try clear c5b0; try clear c5b1; try clear c6; try clear c6b0; try clear c6b1; try clear c8; try clear c8b0; try clear c8b1; try clear c9; try clear c9b0; try clear c9b1; try clear c9b2
       obtain ⟨x32_1, rfl, HA, HK1, HO_5, HB⟩ := hrel
       cases gk with
       | zero => exact absurd HA.out (by simp [posternlaw19_FixStays.l0])
       | succ k1 =>
        have H := HA.out
        clear HA
        simp only [posternlaw19_FixStays.l0] at H
        by_cases c16 : x32_1 < (t581.length : Int)
        ·
         rw [if_pos c16] at H
         have c16b0 : decide (x32_1 < (t581.length : Int)) = true := decide_eq_true c16
         clear c16
         by_cases c17 : 0 ≤ x32_1
         ·
          rw [if_pos c17] at H
          have c17b0 : decide (0 ≤ x32_1) = true := decide_eq_true c17
          clear c17
          by_cases c18 : x32_1 < (l0.length : Int)
          ·
           rw [if_pos c18] at H
           have c18b0 : decide (x32_1 < (l0.length : Int)) = true := decide_eq_true c18
           clear c18
           have HC19 := Aside0.mk H
           clear H
           have p585 : 0 ≤ (x32_1 : Int) := of_decide_eq_true (by first | (with_reducible assumption) | assumption)
           have q585 : x32_1 < (l0.length : Int) := of_decide_eq_true (by first | (with_reducible assumption) | assumption)
           obtain ⟨ad585, e585, hx585_0, hx585_1, hx585_2, hx585_3, hx585_4⟩ := at_T43 HR0.out x32_1 p585 q585
           cases e585
           replace hx585_0 := (HB.out.cell (World.block_lt_of_cell? w _ hx585_0)).trans hx585_0
           replace hx585_1 := (HB.out.cell (World.block_lt_of_cell? w _ hx585_1)).trans hx585_1
           replace hx585_2 := (HB.out.cell (World.block_lt_of_cell? w _ hx585_2)).trans hx585_2
           replace hx585_3 := (HB.out.cell (World.block_lt_of_cell? w _ hx585_3)).trans hx585_3
           replace hx585_4 := (HB.out.cell (World.block_lt_of_cell? w _ hx585_4)).trans hx585_4
           replace p585 := eq_true p585
           replace q585 := eq_true q585
           go_upto_region 12 with (first | ((with_reducible refine gate_dst (N := 8) rfl ?_); refine box_event ?hg (N := 8) ?hd (cs := #[.int .u8 0, .int .u8 0, .int .u8 0, .int .i16 0, .int .i32 0]) (t := 43) ?hr ?_; (case hd => rfl); (case hg => rfl); (case hr => first | (go_simp; done) | (go_simp; rfl)); intro gb586 hg w20 hbox hb; have n0_ := Aside0.mk (Kd.R_below (Kd.R_elderB (by (with_reducible repeat (first | apply Kd.R_alloc | apply Kd.R_drewN | apply Kd.R_drew)); exact HO_5.out) gb586 (Nat.le_of_eq hg.symm)) hb); have n1_ := Aside0.mk (below_step (by repeat (first | (with_reducible first | exact HB.out | apply below_alloc | apply pw_below_drewN | apply below_drew1) | exact HB.out)) hb); have n2_ := Aside0.mk (hbox); have n3_ := Aside0.mk ((by rw [hg]; exact (below_size (by repeat (first | (with_reducible first | exact HB.out | apply below_alloc | apply pw_below_drewN | apply below_drew1) | exact HB.out))) : w.heap.size ≤ gb586)); have n4_ := Aside0.mk ((by rw [hg]; exact (below_size (by repeat (first | (with_reducible first | exact HB.out | apply below_alloc | apply pw_below_drewN | apply below_drew1) | exact HB.out))) : w.heap.size ≤ gb586)); clear HO_5; clear HB; have HO_5 := n0_; have HB := n1_; have BK586 := n2_; have GW586 := n3_; have GE586 := n4_; clear n0_ n1_ n2_ n3_ n4_; clear hb hbox hg; have hcz21_0 : w20.cell? ⟨gb586, 0, none⟩ = some (.int .u8 0) := (blk_cell BK586.out 0).trans rfl; have hcz21_1 : w20.cell? ⟨gb586, 1, none⟩ = some (.int .u8 0) := (blk_cell BK586.out 1).trans rfl; have hcz21_2 : w20.cell? ⟨gb586, 2, none⟩ = some (.int .u8 0) := (blk_cell BK586.out 2).trans rfl; have hcz21_3 : w20.cell? ⟨gb586, 3, none⟩ = some (.int .i16 0) := (blk_cell BK586.out 3).trans rfl; have hcz21_4 : w20.cell? ⟨gb586, 4, none⟩ = some (.int .i32 0) := (blk_cell BK586.out 4).trans rfl; have hfz21_0 := blk_frozen BK586.out 0; have hfz21_1 := blk_frozen BK586.out 1; have hfz21_2 := blk_frozen BK586.out 2; have hfz21_3 := blk_frozen BK586.out 3; have hfz21_4 := blk_frozen BK586.out 4))
           repeat (go_quiet (first | ((with_reducible refine gate_dst (N := 8) rfl ?_); refine box_event ?hg (N := 8) ?hd (cs := #[.int .u8 0, .int .u8 0, .int .u8 0, .int .i16 0, .int .i32 0]) (t := 43) ?hr ?_; (case hd => rfl); (case hg => rfl); (case hr => first | (go_simp; done) | (go_simp; rfl)); intro gb586 hg w20 hbox hb; have n0_ := Aside0.mk (Kd.R_below (Kd.R_elderB (by (with_reducible repeat (first | apply Kd.R_alloc | apply Kd.R_drewN | apply Kd.R_drew)); exact HO_5.out) gb586 (Nat.le_of_eq hg.symm)) hb); have n1_ := Aside0.mk (below_step (by repeat (first | (with_reducible first | exact HB.out | apply below_alloc | apply pw_below_drewN | apply below_drew1) | exact HB.out)) hb); have n2_ := Aside0.mk (hbox); have n3_ := Aside0.mk ((by rw [hg]; exact (below_size (by repeat (first | (with_reducible first | exact HB.out | apply below_alloc | apply pw_below_drewN | apply below_drew1) | exact HB.out))) : w.heap.size ≤ gb586)); have n4_ := Aside0.mk ((by rw [hg]; exact (below_size (by repeat (first | (with_reducible first | exact HB.out | apply below_alloc | apply pw_below_drewN | apply below_drew1) | exact HB.out))) : w.heap.size ≤ gb586)); clear HO_5; clear HB; have HO_5 := n0_; have HB := n1_; have BK586 := n2_; have GW586 := n3_; have GE586 := n4_; clear n0_ n1_ n2_ n3_ n4_; clear hb hbox hg; have hcz21_0 : w20.cell? ⟨gb586, 0, none⟩ = some (.int .u8 0) := (blk_cell BK586.out 0).trans rfl; have hcz21_1 : w20.cell? ⟨gb586, 1, none⟩ = some (.int .u8 0) := (blk_cell BK586.out 1).trans rfl; have hcz21_2 : w20.cell? ⟨gb586, 2, none⟩ = some (.int .u8 0) := (blk_cell BK586.out 2).trans rfl; have hcz21_3 : w20.cell? ⟨gb586, 3, none⟩ = some (.int .i16 0) := (blk_cell BK586.out 3).trans rfl; have hcz21_4 : w20.cell? ⟨gb586, 4, none⟩ = some (.int .i32 0) := (blk_cell BK586.out 4).trans rfl; have hfz21_0 := blk_frozen BK586.out 0; have hfz21_1 := blk_frozen BK586.out 1; have hfz21_2 := blk_frozen BK586.out 2; have hfz21_3 := blk_frozen BK586.out 3; have hfz21_4 := blk_frozen BK586.out 4)); go_upto_region 12 with (first | ((with_reducible refine gate_dst (N := 8) rfl ?_); refine box_event ?hg (N := 8) ?hd (cs := #[.int .u8 0, .int .u8 0, .int .u8 0, .int .i16 0, .int .i32 0]) (t := 43) ?hr ?_; (case hd => rfl); (case hg => rfl); (case hr => first | (go_simp; done) | (go_simp; rfl)); intro gb586 hg w20 hbox hb; have n0_ := Aside0.mk (Kd.R_below (Kd.R_elderB (by (with_reducible repeat (first | apply Kd.R_alloc | apply Kd.R_drewN | apply Kd.R_drew)); exact HO_5.out) gb586 (Nat.le_of_eq hg.symm)) hb); have n1_ := Aside0.mk (below_step (by repeat (first | (with_reducible first | exact HB.out | apply below_alloc | apply pw_below_drewN | apply below_drew1) | exact HB.out)) hb); have n2_ := Aside0.mk (hbox); have n3_ := Aside0.mk ((by rw [hg]; exact (below_size (by repeat (first | (with_reducible first | exact HB.out | apply below_alloc | apply pw_below_drewN | apply below_drew1) | exact HB.out))) : w.heap.size ≤ gb586)); have n4_ := Aside0.mk ((by rw [hg]; exact (below_size (by repeat (first | (with_reducible first | exact HB.out | apply below_alloc | apply pw_below_drewN | apply below_drew1) | exact HB.out))) : w.heap.size ≤ gb586)); clear HO_5; clear HB; have HO_5 := n0_; have HB := n1_; have BK586 := n2_; have GW586 := n3_; have GE586 := n4_; clear n0_ n1_ n2_ n3_ n4_; clear hb hbox hg; have hcz21_0 : w20.cell? ⟨gb586, 0, none⟩ = some (.int .u8 0) := (blk_cell BK586.out 0).trans rfl; have hcz21_1 : w20.cell? ⟨gb586, 1, none⟩ = some (.int .u8 0) := (blk_cell BK586.out 1).trans rfl; have hcz21_2 : w20.cell? ⟨gb586, 2, none⟩ = some (.int .u8 0) := (blk_cell BK586.out 2).trans rfl; have hcz21_3 : w20.cell? ⟨gb586, 3, none⟩ = some (.int .i16 0) := (blk_cell BK586.out 3).trans rfl; have hcz21_4 : w20.cell? ⟨gb586, 4, none⟩ = some (.int .i32 0) := (blk_cell BK586.out 4).trans rfl; have hfz21_0 := blk_frozen BK586.out 0; have hfz21_1 := blk_frozen BK586.out 1; have hfz21_2 := blk_frozen BK586.out 2; have hfz21_3 := blk_frozen BK586.out 3; have hfz21_4 := blk_frozen BK586.out 4)))
           (try simp only [Act.put, List.setIfInBounds_toArray, List.set_cons_zero, List.set_cons_succ])
           go_cut [46] (fun v46 wc => ∃ (kq : Nat) (x46_18 : Bool), v46 = .bool x46_18 ∧ Aside0 (posternlaw19_FixStays.j1 kq l0 t581 x32_1 (t581.length : Int) x32_1 x46_18 ((rd_T43 l0 x32_1).f0) ((rd_T43 l0 x32_1).f1) ((rd_T43 l0 x32_1).f2) ((rd_T43 l0 x32_1).f3) ((rd_T43 l0 x32_1).f4) = some r) ∧ Aside0 (kq ≤ k1) ∧ Aside0 (Kd.R k43 43 wc w.heap.size (fun k_ => k_ ≠ gb586) (.slice Ao15 t581.length co15) t581) ∧ Aside0 (wc.heap[gb586]? = some (.cells #[.int .u8 ((rd_T43 l0 x32_1).f0), .int .u8 ((rd_T43 l0 x32_1).f1), .int .u8 ((rd_T43 l0 x32_1).f2), .int .i16 ((rd_T43 l0 x32_1).f3), .int .i32 ((rd_T43 l0 x32_1).f4)] 43 (0, 0))) ∧ Aside0 (Below w.heap.size w wc))
           case first =>
            have H := HC19.out
            clear HC19
            by_cases c22 : ((rd_T43 l0 x32_1).f0) = 24
            ·
             rw [if_pos c22] at H
             have c22b0 : (((rd_T43 l0 x32_1).f0) == 24) = true := beq_iff_eq.mpr c22
             have c22b1 : (((rd_T43 l0 x32_1).f0) != 24) = false := bne_eq_false_iff_eq.mpr c22
             clear c22
             (first | rw [c22b0] | (simp only [i64_w, i32_w]; rw [c22b0]) | skip)
             have H' := Aside0.mk H
             clear H
             have hcz23_0 : w20.cell? ⟨gb586, 0, none⟩ = some (.int .u8 0) := (blk_cell BK586.out 0).trans rfl
             have hcz23_1 : w20.cell? ⟨gb586, 1, none⟩ = some (.int .u8 0) := (blk_cell BK586.out 1).trans rfl
             have hcz23_2 : w20.cell? ⟨gb586, 2, none⟩ = some (.int .u8 0) := (blk_cell BK586.out 2).trans rfl
             have hcz23_3 : w20.cell? ⟨gb586, 3, none⟩ = some (.int .i16 0) := (blk_cell BK586.out 3).trans rfl
             have hcz23_4 : w20.cell? ⟨gb586, 4, none⟩ = some (.int .i32 0) := (blk_cell BK586.out 4).trans rfl
             have hfz23_0 := blk_frozen BK586.out 0
             have hfz23_1 := blk_frozen BK586.out 1
             have hfz23_2 := blk_frozen BK586.out 2
             have hfz23_3 := blk_frozen BK586.out 3
             have hfz23_4 := blk_frozen BK586.out 4
             go_wp2
             repeat (go_quiet (fail); try go_wp2)
             go_meet
             case rel => exact ⟨_, ((((rd_T43 l0 x32_1).f2) == 1)), (by first | rfl | (simp; done) | (simp [*]; done)), H', ⟨by have := HK1.out; first | omega | exact Nat.le_refl _⟩, ⟨by (with_reducible repeat (first | apply Kd.R_alloc | apply Kd.R_drewN | apply Kd.R_drew)); exact Kd.R_mono (Kd.R_far (p := ⟨gb586, 4, none⟩) (Kd.R_far (p := ⟨gb586, 3, none⟩) (Kd.R_far (p := ⟨gb586, 2, none⟩) (Kd.R_far (p := ⟨gb586, 1, none⟩) (Kd.R_far (p := ⟨gb586, 0, none⟩) (Kd.R_mono HO_5.out (fun k_ hk => (⟨hk, hk.2⟩ : _ ∧ k_ ≠ gb586))) (fun _ hk => hk.2) (.int .u8 ((rd_T43 l0 x32_1).f0))) (fun _ hk => hk.2) (.int .u8 ((rd_T43 l0 x32_1).f1))) (fun _ hk => hk.2) (.int .u8 ((rd_T43 l0 x32_1).f2))) (fun _ hk => hk.2) (.int .i16 ((rd_T43 l0 x32_1).f3))) (fun _ hk => hk.2) (.int .i32 ((rd_T43 l0 x32_1).f4))) (fun _ hk => hk.1.2)⟩, ⟨by (with_reducible repeat (first | refine blk_drewN ?_ _ | refine blk_drew ?_ | refine blk_alloc ?_ _)); refine blk_put (cs := #[.int .u8 ((rd_T43 l0 x32_1).f0), .int .u8 ((rd_T43 l0 x32_1).f1), .int .u8 ((rd_T43 l0 x32_1).f2), .int .i16 ((rd_T43 l0 x32_1).f3), .int .i32 0]) ?_ 4 _ rfl; (with_reducible repeat (first | refine blk_drewN ?_ _ | refine blk_drew ?_ | refine blk_alloc ?_ _)); refine blk_put (cs := #[.int .u8 ((rd_T43 l0 x32_1).f0), .int .u8 ((rd_T43 l0 x32_1).f1), .int .u8 ((rd_T43 l0 x32_1).f2), .int .i16 0, .int .i32 0]) ?_ 3 _ rfl; (with_reducible repeat (first | refine blk_drewN ?_ _ | refine blk_drew ?_ | refine blk_alloc ?_ _)); refine blk_put (cs := #[.int .u8 ((rd_T43 l0 x32_1).f0), .int .u8 ((rd_T43 l0 x32_1).f1), .int .u8 0, .int .i16 0, .int .i32 0]) ?_ 2 _ rfl; (with_reducible repeat (first | refine blk_drewN ?_ _ | refine blk_drew ?_ | refine blk_alloc ?_ _)); refine blk_put (cs := #[.int .u8 ((rd_T43 l0 x32_1).f0), .int .u8 0, .int .u8 0, .int .i16 0, .int .i32 0]) ?_ 1 _ rfl; (with_reducible repeat (first | refine blk_drewN ?_ _ | refine blk_drew ?_ | refine blk_alloc ?_ _)); refine blk_put (cs := #[.int .u8 0, .int .u8 0, .int .u8 0, .int .i16 0, .int .i32 0]) ?_ 0 _ rfl; (with_reducible repeat (first | refine blk_drewN ?_ _ | refine blk_drew ?_ | refine blk_alloc ?_ _)); exact BK586.out⟩, ⟨by repeat (first | (with_reducible first | exact HB.out | apply below_alloc | apply pw_below_drewN | apply below_drew1 | refine below_set ?_ GE586.out) | exact HB.out)⟩⟩
            ·
             rw [if_neg c22] at H
             have c22b0 : (((rd_T43 l0 x32_1).f0) == 24) = false := beq_eq_false_iff_ne.mpr c22
             have c22b1 : (((rd_T43 l0 x32_1).f0) != 24) = true := bne_iff_ne.mpr c22
             (first | rw [c22b0] | (simp only [i64_w, i32_w]; rw [c22b0]) | skip)
             have H' := Aside0.mk H
             clear H
             have hcz24_0 : w20.cell? ⟨gb586, 0, none⟩ = some (.int .u8 0) := (blk_cell BK586.out 0).trans rfl
             have hcz24_1 : w20.cell? ⟨gb586, 1, none⟩ = some (.int .u8 0) := (blk_cell BK586.out 1).trans rfl
             have hcz24_2 : w20.cell? ⟨gb586, 2, none⟩ = some (.int .u8 0) := (blk_cell BK586.out 2).trans rfl
             have hcz24_3 : w20.cell? ⟨gb586, 3, none⟩ = some (.int .i16 0) := (blk_cell BK586.out 3).trans rfl
             have hcz24_4 : w20.cell? ⟨gb586, 4, none⟩ = some (.int .i32 0) := (blk_cell BK586.out 4).trans rfl
             have hfz24_0 := blk_frozen BK586.out 0
             have hfz24_1 := blk_frozen BK586.out 1
             have hfz24_2 := blk_frozen BK586.out 2
             have hfz24_3 := blk_frozen BK586.out 3
             have hfz24_4 := blk_frozen BK586.out 4
             go_wp2
             repeat (go_quiet (fail); try go_wp2)
             go_meet
             case rel => exact ⟨_, (false), (by first | rfl | (simp; done) | (simp [*]; done)), H', ⟨by have := HK1.out; first | omega | exact Nat.le_refl _⟩, ⟨by (with_reducible repeat (first | apply Kd.R_alloc | apply Kd.R_drewN | apply Kd.R_drew)); exact Kd.R_mono (Kd.R_far (p := ⟨gb586, 4, none⟩) (Kd.R_far (p := ⟨gb586, 3, none⟩) (Kd.R_far (p := ⟨gb586, 2, none⟩) (Kd.R_far (p := ⟨gb586, 1, none⟩) (Kd.R_far (p := ⟨gb586, 0, none⟩) (Kd.R_mono HO_5.out (fun k_ hk => (⟨hk, hk.2⟩ : _ ∧ k_ ≠ gb586))) (fun _ hk => hk.2) (.int .u8 ((rd_T43 l0 x32_1).f0))) (fun _ hk => hk.2) (.int .u8 ((rd_T43 l0 x32_1).f1))) (fun _ hk => hk.2) (.int .u8 ((rd_T43 l0 x32_1).f2))) (fun _ hk => hk.2) (.int .i16 ((rd_T43 l0 x32_1).f3))) (fun _ hk => hk.2) (.int .i32 ((rd_T43 l0 x32_1).f4))) (fun _ hk => hk.1.2)⟩, ⟨by (with_reducible repeat (first | refine blk_drewN ?_ _ | refine blk_drew ?_ | refine blk_alloc ?_ _)); refine blk_put (cs := #[.int .u8 ((rd_T43 l0 x32_1).f0), .int .u8 ((rd_T43 l0 x32_1).f1), .int .u8 ((rd_T43 l0 x32_1).f2), .int .i16 ((rd_T43 l0 x32_1).f3), .int .i32 0]) ?_ 4 _ rfl; (with_reducible repeat (first | refine blk_drewN ?_ _ | refine blk_drew ?_ | refine blk_alloc ?_ _)); refine blk_put (cs := #[.int .u8 ((rd_T43 l0 x32_1).f0), .int .u8 ((rd_T43 l0 x32_1).f1), .int .u8 ((rd_T43 l0 x32_1).f2), .int .i16 0, .int .i32 0]) ?_ 3 _ rfl; (with_reducible repeat (first | refine blk_drewN ?_ _ | refine blk_drew ?_ | refine blk_alloc ?_ _)); refine blk_put (cs := #[.int .u8 ((rd_T43 l0 x32_1).f0), .int .u8 ((rd_T43 l0 x32_1).f1), .int .u8 0, .int .i16 0, .int .i32 0]) ?_ 2 _ rfl; (with_reducible repeat (first | refine blk_drewN ?_ _ | refine blk_drew ?_ | refine blk_alloc ?_ _)); refine blk_put (cs := #[.int .u8 ((rd_T43 l0 x32_1).f0), .int .u8 0, .int .u8 0, .int .i16 0, .int .i32 0]) ?_ 1 _ rfl; (with_reducible repeat (first | refine blk_drewN ?_ _ | refine blk_drew ?_ | refine blk_alloc ?_ _)); refine blk_put (cs := #[.int .u8 0, .int .u8 0, .int .u8 0, .int .i16 0, .int .i32 0]) ?_ 0 _ rfl; (with_reducible repeat (first | refine blk_drewN ?_ _ | refine blk_drew ?_ | refine blk_alloc ?_ _)); exact BK586.out⟩, ⟨by repeat (first | (with_reducible first | exact HB.out | apply below_alloc | apply pw_below_drewN | apply below_drew1 | refine below_set ?_ GE586.out) | exact HB.out)⟩⟩
           case rest =>
            clear HC19
            try clear c1; try clear c2; try clear p2; try clear c4; try clear c5; try clear c5b0; try clear c5b1; try clear p5; try clear q5; try clear hx5; try clear c6; try clear c6b0; try clear c6b1; try clear c8; try clear c8b0; try clear c8b1; try clear c9; try clear c9b0; try clear c9b1; try clear c9b2; try clear c16; try clear c16b0; try clear c17; try clear c17b0; try clear c18; try clear c18b0; try clear c22; try clear c22b0; try clear c22b1; try clear hcz21_0; try clear hcz21_1; try clear hcz21_2; try clear hcz21_3; try clear hcz21_4; try clear hcz23_0; try clear hcz23_1; try clear hcz23_2; try clear hcz23_3; try clear hcz23_4; try clear hcz24_0; try clear hcz24_1; try clear hcz24_2; try clear hcz24_3; try clear hcz24_4; try clear hfz21_0; try clear hfz21_1; try clear hfz21_2; try clear hfz21_3; try clear hfz21_4; try clear hfz23_0; try clear hfz23_1; try clear hfz23_2; try clear hfz23_3; try clear hfz23_4; try clear hfz24_0; try clear hfz24_1; try clear hfz24_2; try clear hfz24_3; try clear hfz24_4; try clear hx585_0; try clear hx585_1; try clear hx585_2; try clear hx585_3; try clear hx585_4; try clear p585; try clear q585
            obtain ⟨kq, x46_18, rfl, HA, HJ18, HO_5, BK586, HB⟩ := hcut
            cases kq with
            | zero => exact absurd HA.out (by simp [posternlaw19_FixStays.j1])
            | succ kj18 =>
             have H := HA.out
             clear HA
             simp only [posternlaw19_FixStays.j1] at H
             by_cases c25 : x46_18 = true
             ·
              subst c25
              have H1 : (if 0 ≤ x32_1 then (if x32_1 < (t581.length : Int) then (if ((rd_T43 t581 x32_1).f0) = 24 then (if ((rd_T43 t581 x32_1).f2) = 0 then (if ((rd_T43 t581 x32_1).f1) = ((rd_T43 l0 x32_1).f1) then (if ((rd_T43 t581 x32_1).f4) = ((rd_T43 l0 x32_1).f4) then (if 0 ≤ (wrap64 (x32_1 + 1)) then (if (wrap64 (x32_1 + 1)) < (t581.length : Int) then (if (wrap64 (x32_1 + 1)) < (l0.length : Int) then (posternlaw19_FixStays.j2 kj18 l0 t581 (t581.length : Int) x32_1 ((((rd_T43 t581 (wrap64 (x32_1 + 1))).f4) % 4294967296) != (((((rd_T43 l0 (wrap64 (x32_1 + 1))).f4) % 4294967296) + 65536) % 4294967296))) else (none)) else (none)) else (none)) else (posternlaw19_FixStays.j2 kj18 l0 t581 (t581.length : Int) x32_1 true)) else (posternlaw19_FixStays.j2 kj18 l0 t581 (t581.length : Int) x32_1 true)) else (posternlaw19_FixStays.j2 kj18 l0 t581 (t581.length : Int) x32_1 true)) else (posternlaw19_FixStays.j2 kj18 l0 t581 (t581.length : Int) x32_1 true)) else (none)) else (none)) = some r := by rw [if_pos rfl] at H; exact H
              clear H
              have H := H1
              clear H1
              have HC26 := Aside0.mk H
              clear H
              go_upto_region 13 with (fail)
              repeat (go_quiet (fail); go_upto_region 13 with (fail))
              go_cut [98] (fun v98 wc => ∃ (kq : Nat) (x98_25 : Bool), v98 = .bool x98_25 ∧ Aside0 (posternlaw19_FixStays.j2 kq l0 t581 (t581.length : Int) x32_1 x98_25 = some r) ∧ Aside0 (kq ≤ kj18) ∧ Aside0 (Kd.R k43 43 wc w.heap.size (fun k_ => k_ ≠ gb586) (.slice Ao15 t581.length co15) t581) ∧ Aside0 (wc.heap[gb586]? = some (.cells #[.int .u8 ((rd_T43 l0 x32_1).f0), .int .u8 ((rd_T43 l0 x32_1).f1), .int .u8 ((rd_T43 l0 x32_1).f2), .int .i16 ((rd_T43 l0 x32_1).f3), .int .i32 ((rd_T43 l0 x32_1).f4)] 43 (0, 0))) ∧ Aside0 (Below w.heap.size w wc))
              case first =>
               have H := HC26.out
               clear HC26
               by_cases c27 : 0 ≤ x32_1
               ·
                rw [if_pos c27] at H
                have c27b0 : decide (0 ≤ x32_1) = true := decide_eq_true c27
                clear c27
                (first | rw [c27b0] | (simp only [i64_w, i32_w]; rw [c27b0]) | skip)
                by_cases c28 : x32_1 < (t581.length : Int)
                ·
                 rw [if_pos c28] at H
                 have c28b0 : decide (x32_1 < (t581.length : Int)) = true := decide_eq_true c28
                 clear c28
                 by_cases c29 : ((rd_T43 t581 x32_1).f0) = 24
                 ·
                  rw [if_pos c29] at H
                  have c29b0 : (((rd_T43 t581 x32_1).f0) == 24) = true := beq_iff_eq.mpr c29
                  have c29b1 : (((rd_T43 t581 x32_1).f0) != 24) = false := bne_eq_false_iff_eq.mpr c29
                  clear c29
                  by_cases c30 : ((rd_T43 t581 x32_1).f2) = 0
                  ·
                   rw [if_pos c30] at H
                   have c30b0 : (((rd_T43 t581 x32_1).f2) == 0) = true := beq_iff_eq.mpr c30
                   have c30b1 : (((rd_T43 t581 x32_1).f2) != 0) = false := bne_eq_false_iff_eq.mpr c30
                   clear c30
                   by_cases c31 : ((rd_T43 t581 x32_1).f1) = ((rd_T43 l0 x32_1).f1)
                   ·
                    rw [if_pos c31] at H
                    have c31b0 : (((rd_T43 t581 x32_1).f1) == ((rd_T43 l0 x32_1).f1)) = true := beq_iff_eq.mpr c31
                    have c31b1 : (((rd_T43 t581 x32_1).f1) != ((rd_T43 l0 x32_1).f1)) = false := bne_eq_false_iff_eq.mpr c31
                    clear c31
                    by_cases c32 : ((rd_T43 t581 x32_1).f4) = ((rd_T43 l0 x32_1).f4)
                    ·
                     rw [if_pos c32] at H
                     have c32b0 : (((rd_T43 t581 x32_1).f4) == ((rd_T43 l0 x32_1).f4)) = true := beq_iff_eq.mpr c32
                     have c32b1 : (((rd_T43 t581 x32_1).f4) != ((rd_T43 l0 x32_1).f4)) = false := bne_eq_false_iff_eq.mpr c32
                     clear c32
                     obtain ⟨ji33, hji33⟩ : ∃ j_ : Int, (wrap64 (x32_1 + 1)) = j_ := ⟨_, rfl⟩
                     replace H : (if 0 ≤ (ji33) then (if (ji33) < (t581.length : Int) then (if (ji33) < (l0.length : Int) then (posternlaw19_FixStays.j2 kj18 l0 t581 (t581.length : Int) x32_1 ((((rd_T43 t581 (ji33)).f4) % 4294967296) != (((((rd_T43 l0 (ji33)).f4) % 4294967296) + 65536) % 4294967296))) else (none)) else (none)) else (none)) = some r := by first | (rw [hji33] at H; exact H) | (simp only [hji33] at H ⊢; exact H)
                     have hji33w : (IntKind.i64.wrap (x32_1 + 1)) = ji33 := (i64_w _).trans hji33
                     by_cases c34 : 0 ≤ (ji33)
                     ·
                      rw [if_pos c34] at H
                      have c34b0 : decide (0 ≤ (ji33)) = true := decide_eq_true c34
                      clear c34
                      by_cases c35 : (ji33) < (t581.length : Int)
                      ·
                       rw [if_pos c35] at H
                       have c35b0 : decide ((ji33) < (t581.length : Int)) = true := decide_eq_true c35
                       clear c35
                       by_cases c36 : (ji33) < (l0.length : Int)
                       ·
                        rw [if_pos c36] at H
                        have c36b0 : decide ((ji33) < (l0.length : Int)) = true := decide_eq_true c36
                        clear c36
                        have H' := Aside0.mk H
                        clear H
                        have p587 : 0 ≤ (x32_1 : Int) := of_decide_eq_true (by first | (with_reducible assumption) | assumption)
                        have q587 : x32_1 < (t581.length : Int) := of_decide_eq_true (by first | (with_reducible assumption) | assumption)
                        obtain ⟨ad587, e587, hx587_0, hx587_1, hx587_2, hx587_3, hx587_4⟩ := at_T43 (Kd.R_reads' HO_5.out).2.2 x32_1 p587 q587
                        cases e587
                        replace p587 := eq_true p587
                        replace q587 := eq_true q587
                        have p588 : 0 ≤ (x32_1 : Int) := of_decide_eq_true (by first | (with_reducible assumption) | assumption)
                        have q588 : x32_1 < (t581.length : Int) := of_decide_eq_true (by first | (with_reducible assumption) | assumption)
                        obtain ⟨ad588, e588, hx588_0, hx588_1, hx588_2, hx588_3, hx588_4⟩ := at_T43 (Kd.R_reads' HO_5.out).2.2 x32_1 p588 q588
                        obtain rfl : ad587 = ad588 := (by injection e588)
                        replace p588 := eq_true p588
                        replace q588 := eq_true q588
                        have p589 : 0 ≤ (x32_1 : Int) := of_decide_eq_true (by first | (with_reducible assumption) | assumption)
                        have q589 : x32_1 < (t581.length : Int) := of_decide_eq_true (by first | (with_reducible assumption) | assumption)
                        obtain ⟨ad589, e589, hx589_0, hx589_1, hx589_2, hx589_3, hx589_4⟩ := at_T43 (Kd.R_reads' HO_5.out).2.2 x32_1 p589 q589
                        obtain rfl : ad587 = ad589 := (by injection e589)
                        replace p589 := eq_true p589
                        replace q589 := eq_true q589
                        have hcz37_0 : wc.cell? ⟨gb586, 0, none⟩ = some (.int .u8 ((rd_T43 l0 x32_1).f0)) := (blk_cell BK586.out 0).trans rfl
                        have hcz37_1 : wc.cell? ⟨gb586, 1, none⟩ = some (.int .u8 ((rd_T43 l0 x32_1).f1)) := (blk_cell BK586.out 1).trans rfl
                        have hcz37_2 : wc.cell? ⟨gb586, 2, none⟩ = some (.int .u8 ((rd_T43 l0 x32_1).f2)) := (blk_cell BK586.out 2).trans rfl
                        have hcz37_3 : wc.cell? ⟨gb586, 3, none⟩ = some (.int .i16 ((rd_T43 l0 x32_1).f3)) := (blk_cell BK586.out 3).trans rfl
                        have hcz37_4 : wc.cell? ⟨gb586, 4, none⟩ = some (.int .i32 ((rd_T43 l0 x32_1).f4)) := (blk_cell BK586.out 4).trans rfl
                        have hfz37_0 := blk_frozen BK586.out 0
                        have hfz37_1 := blk_frozen BK586.out 1
                        have hfz37_2 := blk_frozen BK586.out 2
                        have hfz37_3 := blk_frozen BK586.out 3
                        have hfz37_4 := blk_frozen BK586.out 4
                        have p590 : 0 ≤ (x32_1 : Int) := of_decide_eq_true (by first | (with_reducible assumption) | assumption)
                        have q590 : x32_1 < (t581.length : Int) := of_decide_eq_true (by first | (with_reducible assumption) | assumption)
                        obtain ⟨ad590, e590, hx590_0, hx590_1, hx590_2, hx590_3, hx590_4⟩ := at_T43 (Kd.R_reads' HO_5.out).2.2 x32_1 p590 q590
                        obtain rfl : ad587 = ad590 := (by injection e590)
                        replace p590 := eq_true p590
                        replace q590 := eq_true q590
                        have p591 : 0 ≤ ((ji33) : Int) := of_decide_eq_true (by first | (with_reducible assumption) | assumption)
                        have q591 : (ji33) < (t581.length : Int) := of_decide_eq_true (by first | (with_reducible assumption) | assumption)
                        obtain ⟨ad591, e591, hx591_0, hx591_1, hx591_2, hx591_3, hx591_4⟩ := at_T43 (Kd.R_reads' HO_5.out).2.2 (ji33) p591 q591
                        obtain rfl : ad587 = ad591 := (by injection e591)
                        replace p591 := eq_true p591
                        replace q591 := eq_true q591
                        have p592 : 0 ≤ ((ji33) : Int) := of_decide_eq_true (by first | (with_reducible assumption) | assumption)
                        have q592 : (ji33) < (l0.length : Int) := of_decide_eq_true (by first | (with_reducible assumption) | assumption)
                        obtain ⟨ad592, e592, hx592_0, hx592_1, hx592_2, hx592_3, hx592_4⟩ := at_T43 HR0.out (ji33) p592 q592
                        obtain rfl : ad585 = ad592 := (by injection e592)
                        replace hx592_0 := (HB.out.cell (World.block_lt_of_cell? w _ hx592_0)).trans hx592_0
                        replace hx592_1 := (HB.out.cell (World.block_lt_of_cell? w _ hx592_1)).trans hx592_1
                        replace hx592_2 := (HB.out.cell (World.block_lt_of_cell? w _ hx592_2)).trans hx592_2
                        replace hx592_3 := (HB.out.cell (World.block_lt_of_cell? w _ hx592_3)).trans hx592_3
                        replace hx592_4 := (HB.out.cell (World.block_lt_of_cell? w _ hx592_4)).trans hx592_4
                        replace p592 := eq_true p592
                        replace q592 := eq_true q592
                        go_wp2
                        repeat (go_quiet (fail); try go_wp2)
                        go_meet
                        case rel => exact ⟨_, (((((rd_T43 t581 (ji33)).f4) % 4294967296) != (((((rd_T43 l0 (ji33)).f4) % 4294967296) + 65536) % 4294967296))), (by first | rfl | (simp; done) | (simp only [← hji33] <;> (first | rfl | simp)) | (simp [*]; done)), H', ⟨by have := HK1.out; have := HJ18.out; first | omega | exact Nat.le_refl _⟩, ⟨by (with_reducible repeat (first | apply Kd.R_alloc | apply Kd.R_drewN | apply Kd.R_drew)); exact HO_5.out⟩, ⟨by (with_reducible repeat (first | refine blk_drewN ?_ _ | refine blk_drew ?_ | refine blk_alloc ?_ _)); exact BK586.out⟩, ⟨by repeat (first | (with_reducible first | exact HB.out | apply below_alloc | apply pw_below_drewN | apply below_drew1 | refine below_set ?_ GE586.out) | exact HB.out)⟩⟩
                       ·
                        rw [if_neg c36] at H
                        exact absurd H (by simp)
                      ·
                       rw [if_neg c35] at H
                       exact absurd H (by simp)
                     ·
                      rw [if_neg c34] at H
                      exact absurd H (by simp)
                    ·
                     rw [if_neg c32] at H
                     have c32b0 : (((rd_T43 t581 x32_1).f4) == ((rd_T43 l0 x32_1).f4)) = false := beq_eq_false_iff_ne.mpr c32
                     have c32b1 : (((rd_T43 t581 x32_1).f4) != ((rd_T43 l0 x32_1).f4)) = true := bne_iff_ne.mpr c32
                     have H' := Aside0.mk H
                     clear H
                     have p587 : 0 ≤ (x32_1 : Int) := of_decide_eq_true (by first | (with_reducible assumption) | assumption)
                     have q587 : x32_1 < (t581.length : Int) := of_decide_eq_true (by first | (with_reducible assumption) | assumption)
                     obtain ⟨ad587, e587, hx587_0, hx587_1, hx587_2, hx587_3, hx587_4⟩ := at_T43 (Kd.R_reads' HO_5.out).2.2 x32_1 p587 q587
                     cases e587
                     replace p587 := eq_true p587
                     replace q587 := eq_true q587
                     have p588 : 0 ≤ (x32_1 : Int) := of_decide_eq_true (by first | (with_reducible assumption) | assumption)
                     have q588 : x32_1 < (t581.length : Int) := of_decide_eq_true (by first | (with_reducible assumption) | assumption)
                     obtain ⟨ad588, e588, hx588_0, hx588_1, hx588_2, hx588_3, hx588_4⟩ := at_T43 (Kd.R_reads' HO_5.out).2.2 x32_1 p588 q588
                     obtain rfl : ad587 = ad588 := (by injection e588)
                     replace p588 := eq_true p588
                     replace q588 := eq_true q588
                     have p589 : 0 ≤ (x32_1 : Int) := of_decide_eq_true (by first | (with_reducible assumption) | assumption)
                     have q589 : x32_1 < (t581.length : Int) := of_decide_eq_true (by first | (with_reducible assumption) | assumption)
                     obtain ⟨ad589, e589, hx589_0, hx589_1, hx589_2, hx589_3, hx589_4⟩ := at_T43 (Kd.R_reads' HO_5.out).2.2 x32_1 p589 q589
                     obtain rfl : ad587 = ad589 := (by injection e589)
                     replace p589 := eq_true p589
                     replace q589 := eq_true q589
                     have hcz38_0 : wc.cell? ⟨gb586, 0, none⟩ = some (.int .u8 ((rd_T43 l0 x32_1).f0)) := (blk_cell BK586.out 0).trans rfl
                     have hcz38_1 : wc.cell? ⟨gb586, 1, none⟩ = some (.int .u8 ((rd_T43 l0 x32_1).f1)) := (blk_cell BK586.out 1).trans rfl
                     have hcz38_2 : wc.cell? ⟨gb586, 2, none⟩ = some (.int .u8 ((rd_T43 l0 x32_1).f2)) := (blk_cell BK586.out 2).trans rfl
                     have hcz38_3 : wc.cell? ⟨gb586, 3, none⟩ = some (.int .i16 ((rd_T43 l0 x32_1).f3)) := (blk_cell BK586.out 3).trans rfl
                     have hcz38_4 : wc.cell? ⟨gb586, 4, none⟩ = some (.int .i32 ((rd_T43 l0 x32_1).f4)) := (blk_cell BK586.out 4).trans rfl
                     have hfz38_0 := blk_frozen BK586.out 0
                     have hfz38_1 := blk_frozen BK586.out 1
                     have hfz38_2 := blk_frozen BK586.out 2
                     have hfz38_3 := blk_frozen BK586.out 3
                     have hfz38_4 := blk_frozen BK586.out 4
                     have p590 : 0 ≤ (x32_1 : Int) := of_decide_eq_true (by first | (with_reducible assumption) | assumption)
                     have q590 : x32_1 < (t581.length : Int) := of_decide_eq_true (by first | (with_reducible assumption) | assumption)
                     obtain ⟨ad590, e590, hx590_0, hx590_1, hx590_2, hx590_3, hx590_4⟩ := at_T43 (Kd.R_reads' HO_5.out).2.2 x32_1 p590 q590
                     obtain rfl : ad587 = ad590 := (by injection e590)
                     replace p590 := eq_true p590
                     replace q590 := eq_true q590
                     go_wp2
                     repeat (go_quiet (fail); try go_wp2)
                     go_meet
                     case rel => exact ⟨_, (true), (by first | rfl | (simp; done) | (simp [*]; done)), H', ⟨by have := HK1.out; have := HJ18.out; first | omega | exact Nat.le_refl _⟩, ⟨by (with_reducible repeat (first | apply Kd.R_alloc | apply Kd.R_drewN | apply Kd.R_drew)); exact HO_5.out⟩, ⟨by (with_reducible repeat (first | refine blk_drewN ?_ _ | refine blk_drew ?_ | refine blk_alloc ?_ _)); exact BK586.out⟩, ⟨by repeat (first | (with_reducible first | exact HB.out | apply below_alloc | apply pw_below_drewN | apply below_drew1 | refine below_set ?_ GE586.out) | exact HB.out)⟩⟩
                   ·
                    rw [if_neg c31] at H
                    have c31b0 : (((rd_T43 t581 x32_1).f1) == ((rd_T43 l0 x32_1).f1)) = false := beq_eq_false_iff_ne.mpr c31
                    have c31b1 : (((rd_T43 t581 x32_1).f1) != ((rd_T43 l0 x32_1).f1)) = true := bne_iff_ne.mpr c31
                    have H' := Aside0.mk H
                    clear H
                    have p587 : 0 ≤ (x32_1 : Int) := of_decide_eq_true (by first | (with_reducible assumption) | assumption)
                    have q587 : x32_1 < (t581.length : Int) := of_decide_eq_true (by first | (with_reducible assumption) | assumption)
                    obtain ⟨ad587, e587, hx587_0, hx587_1, hx587_2, hx587_3, hx587_4⟩ := at_T43 (Kd.R_reads' HO_5.out).2.2 x32_1 p587 q587
                    cases e587
                    replace p587 := eq_true p587
                    replace q587 := eq_true q587
                    have p588 : 0 ≤ (x32_1 : Int) := of_decide_eq_true (by first | (with_reducible assumption) | assumption)
                    have q588 : x32_1 < (t581.length : Int) := of_decide_eq_true (by first | (with_reducible assumption) | assumption)
                    obtain ⟨ad588, e588, hx588_0, hx588_1, hx588_2, hx588_3, hx588_4⟩ := at_T43 (Kd.R_reads' HO_5.out).2.2 x32_1 p588 q588
                    obtain rfl : ad587 = ad588 := (by injection e588)
                    replace p588 := eq_true p588
                    replace q588 := eq_true q588
                    have p589 : 0 ≤ (x32_1 : Int) := of_decide_eq_true (by first | (with_reducible assumption) | assumption)
                    have q589 : x32_1 < (t581.length : Int) := of_decide_eq_true (by first | (with_reducible assumption) | assumption)
                    obtain ⟨ad589, e589, hx589_0, hx589_1, hx589_2, hx589_3, hx589_4⟩ := at_T43 (Kd.R_reads' HO_5.out).2.2 x32_1 p589 q589
                    obtain rfl : ad587 = ad589 := (by injection e589)
                    replace p589 := eq_true p589
                    replace q589 := eq_true q589
                    have hcz39_0 : wc.cell? ⟨gb586, 0, none⟩ = some (.int .u8 ((rd_T43 l0 x32_1).f0)) := (blk_cell BK586.out 0).trans rfl
                    have hcz39_1 : wc.cell? ⟨gb586, 1, none⟩ = some (.int .u8 ((rd_T43 l0 x32_1).f1)) := (blk_cell BK586.out 1).trans rfl
                    have hcz39_2 : wc.cell? ⟨gb586, 2, none⟩ = some (.int .u8 ((rd_T43 l0 x32_1).f2)) := (blk_cell BK586.out 2).trans rfl
                    have hcz39_3 : wc.cell? ⟨gb586, 3, none⟩ = some (.int .i16 ((rd_T43 l0 x32_1).f3)) := (blk_cell BK586.out 3).trans rfl
                    have hcz39_4 : wc.cell? ⟨gb586, 4, none⟩ = some (.int .i32 ((rd_T43 l0 x32_1).f4)) := (blk_cell BK586.out 4).trans rfl
                    have hfz39_0 := blk_frozen BK586.out 0
                    have hfz39_1 := blk_frozen BK586.out 1
                    have hfz39_2 := blk_frozen BK586.out 2
                    have hfz39_3 := blk_frozen BK586.out 3
                    have hfz39_4 := blk_frozen BK586.out 4
                    go_wp2
                    repeat (go_quiet (fail); try go_wp2)
                    go_meet
                    case rel => exact ⟨_, (true), (by first | rfl | (simp; done) | (simp [*]; done)), H', ⟨by have := HK1.out; have := HJ18.out; first | omega | exact Nat.le_refl _⟩, ⟨by (with_reducible repeat (first | apply Kd.R_alloc | apply Kd.R_drewN | apply Kd.R_drew)); exact HO_5.out⟩, ⟨by (with_reducible repeat (first | refine blk_drewN ?_ _ | refine blk_drew ?_ | refine blk_alloc ?_ _)); exact BK586.out⟩, ⟨by repeat (first | (with_reducible first | exact HB.out | apply below_alloc | apply pw_below_drewN | apply below_drew1 | refine below_set ?_ GE586.out) | exact HB.out)⟩⟩
                  ·
                   rw [if_neg c30] at H
                   have c30b0 : (((rd_T43 t581 x32_1).f2) == 0) = false := beq_eq_false_iff_ne.mpr c30
                   have c30b1 : (((rd_T43 t581 x32_1).f2) != 0) = true := bne_iff_ne.mpr c30
                   have H' := Aside0.mk H
                   clear H
                   have p587 : 0 ≤ (x32_1 : Int) := of_decide_eq_true (by first | (with_reducible assumption) | assumption)
                   have q587 : x32_1 < (t581.length : Int) := of_decide_eq_true (by first | (with_reducible assumption) | assumption)
                   obtain ⟨ad587, e587, hx587_0, hx587_1, hx587_2, hx587_3, hx587_4⟩ := at_T43 (Kd.R_reads' HO_5.out).2.2 x32_1 p587 q587
                   cases e587
                   replace p587 := eq_true p587
                   replace q587 := eq_true q587
                   have p588 : 0 ≤ (x32_1 : Int) := of_decide_eq_true (by first | (with_reducible assumption) | assumption)
                   have q588 : x32_1 < (t581.length : Int) := of_decide_eq_true (by first | (with_reducible assumption) | assumption)
                   obtain ⟨ad588, e588, hx588_0, hx588_1, hx588_2, hx588_3, hx588_4⟩ := at_T43 (Kd.R_reads' HO_5.out).2.2 x32_1 p588 q588
                   obtain rfl : ad587 = ad588 := (by injection e588)
                   replace p588 := eq_true p588
                   replace q588 := eq_true q588
                   go_wp2
                   repeat (go_quiet (fail); try go_wp2)
                   go_meet
                   case rel => exact ⟨_, (true), (by first | rfl | (simp; done) | (simp [*]; done)), H', ⟨by have := HK1.out; have := HJ18.out; first | omega | exact Nat.le_refl _⟩, ⟨by (with_reducible repeat (first | apply Kd.R_alloc | apply Kd.R_drewN | apply Kd.R_drew)); exact HO_5.out⟩, ⟨by (with_reducible repeat (first | refine blk_drewN ?_ _ | refine blk_drew ?_ | refine blk_alloc ?_ _)); exact BK586.out⟩, ⟨by repeat (first | (with_reducible first | exact HB.out | apply below_alloc | apply pw_below_drewN | apply below_drew1 | refine below_set ?_ GE586.out) | exact HB.out)⟩⟩
                 ·
                  rw [if_neg c29] at H
                  have c29b0 : (((rd_T43 t581 x32_1).f0) == 24) = false := beq_eq_false_iff_ne.mpr c29
                  have c29b1 : (((rd_T43 t581 x32_1).f0) != 24) = true := bne_iff_ne.mpr c29
                  have H' := Aside0.mk H
                  clear H
                  have p587 : 0 ≤ (x32_1 : Int) := of_decide_eq_true (by first | (with_reducible assumption) | assumption)
                  have q587 : x32_1 < (t581.length : Int) := of_decide_eq_true (by first | (with_reducible assumption) | assumption)
                  obtain ⟨ad587, e587, hx587_0, hx587_1, hx587_2, hx587_3, hx587_4⟩ := at_T43 (Kd.R_reads' HO_5.out).2.2 x32_1 p587 q587
                  cases e587
                  replace p587 := eq_true p587
                  replace q587 := eq_true q587
                  go_wp2
                  repeat (go_quiet (fail); try go_wp2)
                  go_meet
                  case rel => exact ⟨_, (true), (by first | rfl | (simp; done) | (simp [*]; done)), H', ⟨by have := HK1.out; have := HJ18.out; first | omega | exact Nat.le_refl _⟩, ⟨by (with_reducible repeat (first | apply Kd.R_alloc | apply Kd.R_drewN | apply Kd.R_drew)); exact HO_5.out⟩, ⟨by (with_reducible repeat (first | refine blk_drewN ?_ _ | refine blk_drew ?_ | refine blk_alloc ?_ _)); exact BK586.out⟩, ⟨by repeat (first | (with_reducible first | exact HB.out | apply below_alloc | apply pw_below_drewN | apply below_drew1 | refine below_set ?_ GE586.out) | exact HB.out)⟩⟩
                ·
                 rw [if_neg c28] at H
                 exact absurd H (by simp)
               ·
                rw [if_neg c27] at H
                exact absurd H (by simp)
              case rest =>
               clear HC26
               try clear c1; try clear c2; try clear p2; try clear c3; try clear c4; try clear c5; try clear c5b0; try clear c5b1; try clear p5; try clear q5; try clear hx5; try clear c6; try clear c6b0; try clear c6b1; try clear p6; try clear c8; try clear c8b0; try clear c8b1; try clear c9; try clear c9b0; try clear c9b1; try clear c9b2; try clear c16; try clear c16b0; try clear c17; try clear c17b0; try clear c18; try clear c18b0; try clear c22; try clear c22b0; try clear c22b1; try clear c25; try clear c27; try clear c27b0; try clear c28; try clear c28b0; try clear c29; try clear c29b0; try clear c29b1; try clear c30; try clear c30b0; try clear c30b1; try clear c31; try clear c31b0; try clear c31b1; try clear c32; try clear c32b0; try clear c32b1; try clear c34; try clear c34b0; try clear c35; try clear c35b0; try clear c36; try clear c36b0; try clear hcz21_0; try clear hcz21_1; try clear hcz21_2; try clear hcz21_3; try clear hcz21_4; try clear hcz23_0; try clear hcz23_1; try clear hcz23_2; try clear hcz23_3; try clear hcz23_4; try clear hcz24_0; try clear hcz24_1; try clear hcz24_2; try clear hcz24_3; try clear hcz24_4; try clear hcz37_0; try clear hcz37_1; try clear hcz37_2; try clear hcz37_3; try clear hcz37_4; try clear hcz38_0; try clear hcz38_1; try clear hcz38_2; try clear hcz38_3; try clear hcz38_4; try clear hcz39_0; try clear hcz39_1; try clear hcz39_2; try clear hcz39_3; try clear hcz39_4; try clear hfz21_0; try clear hfz21_1; try clear hfz21_2; try clear hfz21_3; try clear hfz21_4; try clear hfz23_0; try clear hfz23_1; try clear hfz23_2; try clear hfz23_3; try clear hfz23_4; try clear hfz24_0; try clear hfz24_1; try clear hfz24_2; try clear hfz24_3; try clear hfz24_4; try clear hfz37_0; try clear hfz37_1; try clear hfz37_2; try clear hfz37_3; try clear hfz37_4; try clear hfz38_0; try clear hfz38_1; try clear hfz38_2; try clear hfz38_3; try clear hfz38_4; try clear hfz39_0; try clear hfz39_1; try clear hfz39_2; try clear hfz39_3; try clear hfz39_4; try clear hx585_0; try clear hx585_1; try clear hx585_2; try clear hx585_3; try clear hx585_4; try clear hx587_0; try clear hx587_1; try clear hx587_2; try clear hx587_3; try clear hx587_4; try clear hx588_0; try clear hx588_1; try clear hx588_2; try clear hx588_3; try clear hx588_4; try clear hx589_0; try clear hx589_1; try clear hx589_2; try clear hx589_3; try clear hx589_4; try clear hx590_0; try clear hx590_1; try clear hx590_2; try clear hx590_3; try clear hx590_4; try clear hx591_0; try clear hx591_1; try clear hx591_2; try clear hx591_3; try clear hx591_4; try clear hx592_0; try clear hx592_1; try clear hx592_2; try clear hx592_3; try clear hx592_4; try clear p585; try clear p587; try clear p588; try clear p589; try clear p590; try clear p591; try clear p592; try clear q585; try clear q587; try clear q588; try clear q589; try clear q590; try clear q591; try clear q592
               obtain ⟨kq, x98_25, rfl, HA, HJ25, HO_5, BK586, HB⟩ := hcut
               cases kq with
               | zero => exact absurd HA.out (by simp [posternlaw19_FixStays.j2])
               | succ kj25 =>
                have H := HA.out
                clear HA
                simp only [posternlaw19_FixStays.j2] at H
                by_cases c40 : x98_25 = true
                ·
                 subst c40
                 have H1 : (some false) = some r := by rw [if_pos rfl] at H; exact H
                 clear H
                 have H := H1
                 clear H1
                 obtain rfl := Option.some.inj H
                 go_wp2
                 repeat (go_quiet (fail); try go_wp2)
                 go_ret
                 exact ⟨by first | rfl | (simp [errW_none, errW_some] <;> rfl) | (simp [*, errW_none, errW_some] <;> rfl), by repeat (first | (with_reducible first | exact HB.out | apply below_alloc | apply pw_below_drewN | apply below_drew1 | refine below_set ?_ GE586.out) | exact HB.out)⟩
                ·
                 replace c40 := Bool.eq_false_iff.mpr c40
                 subst c40
                 have H1 : (posternlaw19_FixStays.l0 kj25 l0 t581 (t581.length : Int) (wrap64 (x32_1 + 1))) = some r := by rw [if_neg (show ¬ (false = true) by decide)] at H; exact H
                 clear H
                 have H := H1
                 clear H1
                 have H' := Aside0.mk H
                 clear H
                 go_wp2
                 repeat (go_quiet (fail); try go_wp2)
                 go_roundg kj25
                 case measure => have := HK1.out; have := HJ18.out; have := HJ25.out; omega
                 case rel => exact ⟨(wrap64 (x32_1 + 1)), (by first | rfl | (simp; done) | (simp [*]; done)), H', ⟨by have := HK1.out; have := HJ18.out; have := HJ25.out; omega⟩, ⟨by (with_reducible repeat (first | apply Kd.R_alloc | apply Kd.R_drewN | apply Kd.R_drew)); exact Kd.R_mono HO_5.out (fun _ hk => trivial)⟩, ⟨by repeat (first | (with_reducible first | exact HB.out | apply below_alloc | apply pw_below_drewN | apply below_drew1 | refine below_set ?_ GE586.out) | exact HB.out)⟩⟩
             ·
              replace c25 := Bool.eq_false_iff.mpr c25
              subst c25
              have H1 : (if 0 ≤ x32_1 then (if x32_1 < (t581.length : Int) then (if (!(((rd_T43 t581 x32_1).f0) == ((rd_T43 l0 x32_1).f0)) || (!(((rd_T43 t581 x32_1).f1) == ((rd_T43 l0 x32_1).f1)) || (!(((rd_T43 t581 x32_1).f2) == ((rd_T43 l0 x32_1).f2)) || (!(((rd_T43 t581 x32_1).f3) == ((rd_T43 l0 x32_1).f3)) || (!(((rd_T43 t581 x32_1).f4) == ((rd_T43 l0 x32_1).f4))))))) = true then (if x32_1 = 0 then (some false) else (if 0 ≤ (wrap64 (x32_1 - 1)) then (if (wrap64 (x32_1 - 1)) < (l0.length : Int) then (if ((rd_T43 l0 (wrap64 (x32_1 - 1))).f0) = 24 then (if ((rd_T43 l0 (wrap64 (x32_1 - 1))).f2) = 1 then (posternlaw19_FixStays.l0 kj18 l0 t581 (t581.length : Int) (wrap64 (x32_1 + 1))) else (some false)) else (some false)) else (none)) else (none))) else (posternlaw19_FixStays.l0 kj18 l0 t581 (t581.length : Int) (wrap64 (x32_1 + 1)))) else (none)) else (none)) = some r := by rw [if_neg (show ¬ (false = true) by decide)] at H; exact H
              clear H
              have H := H1
              clear H1
              by_cases c41 : 0 ≤ x32_1
              ·
               rw [if_pos c41] at H
               have c41b0 : decide (0 ≤ x32_1) = true := decide_eq_true c41
               clear c41
               by_cases c42 : x32_1 < (t581.length : Int)
               ·
                rw [if_pos c42] at H
                have c42b0 : decide (x32_1 < (t581.length : Int)) = true := decide_eq_true c42
                clear c42
                by_cases c43 : (!(((rd_T43 t581 x32_1).f0) == ((rd_T43 l0 x32_1).f0)) || (!(((rd_T43 t581 x32_1).f1) == ((rd_T43 l0 x32_1).f1)) || (!(((rd_T43 t581 x32_1).f2) == ((rd_T43 l0 x32_1).f2)) || (!(((rd_T43 t581 x32_1).f3) == ((rd_T43 l0 x32_1).f3)) || (!(((rd_T43 t581 x32_1).f4) == ((rd_T43 l0 x32_1).f4))))))) = true
                ·
                 rw [if_pos c43] at H
                 have c43b0 : (!(((rd_T43 t581 x32_1).f0) == ((rd_T43 l0 x32_1).f0)) || (!(((rd_T43 t581 x32_1).f1) == ((rd_T43 l0 x32_1).f1)) || (!(((rd_T43 t581 x32_1).f2) == ((rd_T43 l0 x32_1).f2)) || (!(((rd_T43 t581 x32_1).f3) == ((rd_T43 l0 x32_1).f3)) || (!(((rd_T43 t581 x32_1).f4) == ((rd_T43 l0 x32_1).f4))))))) = true := c43
                 clear c43
                 by_cases c44 : x32_1 = 0
                 ·
                  rw [if_pos c44] at H
                  have c44b0 : (x32_1 == 0) = true := beq_iff_eq.mpr c44
                  have c44b1 : (x32_1 != 0) = false := bne_eq_false_iff_eq.mpr c44
                  clear c44
                  obtain rfl := Option.some.inj H
                  have p593 : 0 ≤ (x32_1 : Int) := of_decide_eq_true (by first | (with_reducible assumption) | assumption)
                  have q593 : x32_1 < (t581.length : Int) := of_decide_eq_true (by first | (with_reducible assumption) | assumption)
                  obtain ⟨ad593, e593, hx593_0, hx593_1, hx593_2, hx593_3, hx593_4⟩ := at_T43 (Kd.R_reads' HO_5.out).2.2 x32_1 p593 q593
                  cases e593
                  replace p593 := eq_true p593
                  replace q593 := eq_true q593
                  have hcz45_0 : wc.cell? ⟨gb586, 0, none⟩ = some (.int .u8 ((rd_T43 l0 x32_1).f0)) := (blk_cell BK586.out 0).trans rfl
                  have hcz45_1 : wc.cell? ⟨gb586, 1, none⟩ = some (.int .u8 ((rd_T43 l0 x32_1).f1)) := (blk_cell BK586.out 1).trans rfl
                  have hcz45_2 : wc.cell? ⟨gb586, 2, none⟩ = some (.int .u8 ((rd_T43 l0 x32_1).f2)) := (blk_cell BK586.out 2).trans rfl
                  have hcz45_3 : wc.cell? ⟨gb586, 3, none⟩ = some (.int .i16 ((rd_T43 l0 x32_1).f3)) := (blk_cell BK586.out 3).trans rfl
                  have hcz45_4 : wc.cell? ⟨gb586, 4, none⟩ = some (.int .i32 ((rd_T43 l0 x32_1).f4)) := (blk_cell BK586.out 4).trans rfl
                  have hfz45_0 := blk_frozen BK586.out 0
                  have hfz45_1 := blk_frozen BK586.out 1
                  have hfz45_2 := blk_frozen BK586.out 2
                  have hfz45_3 := blk_frozen BK586.out 3
                  have hfz45_4 := blk_frozen BK586.out 4
                  go_wp2
                  repeat (go_quiet (fail); try go_wp2)
                  go_ret
                  exact ⟨by first | rfl | (simp [errW_none, errW_some] <;> rfl) | (simp [*, errW_none, errW_some] <;> rfl), by repeat (first | (with_reducible first | exact HB.out | apply below_alloc | apply pw_below_drewN | apply below_drew1 | refine below_set ?_ GE586.out) | exact HB.out)⟩
                 ·
                  rw [if_neg c44] at H
                  have c44b0 : (x32_1 == 0) = false := beq_eq_false_iff_ne.mpr c44
                  have c44b1 : (x32_1 != 0) = true := bne_iff_ne.mpr c44
                  obtain ⟨ji46, hji46⟩ : ∃ j_ : Int, (wrap64 (x32_1 - 1)) = j_ := ⟨_, rfl⟩
                  replace H : (if 0 ≤ (ji46) then (if (ji46) < (l0.length : Int) then (if ((rd_T43 l0 (ji46)).f0) = 24 then (if ((rd_T43 l0 (ji46)).f2) = 1 then (posternlaw19_FixStays.l0 kj18 l0 t581 (t581.length : Int) (wrap64 (x32_1 + 1))) else (some false)) else (some false)) else (none)) else (none)) = some r := by first | (rw [hji46] at H; exact H) | (simp only [hji46] at H ⊢; exact H)
                  have hji46w : (IntKind.i64.wrap (x32_1 - 1)) = ji46 := (i64_w _).trans hji46
                  by_cases c47 : 0 ≤ (ji46)
                  ·
                   rw [if_pos c47] at H
                   have c47b0 : decide (0 ≤ (ji46)) = true := decide_eq_true c47
                   clear c47
                   by_cases c48 : (ji46) < (l0.length : Int)
                   ·
                    rw [if_pos c48] at H
                    have c48b0 : decide ((ji46) < (l0.length : Int)) = true := decide_eq_true c48
                    clear c48
                    by_cases c49 : ((rd_T43 l0 (ji46)).f0) = 24
                    ·
                     rw [if_pos c49] at H
                     have c49b0 : (((rd_T43 l0 (ji46)).f0) == 24) = true := beq_iff_eq.mpr c49
                     have c49b1 : (((rd_T43 l0 (ji46)).f0) != 24) = false := bne_eq_false_iff_eq.mpr c49
                     clear c49
                     by_cases c50 : ((rd_T43 l0 (ji46)).f2) = 1
                     ·
                      rw [if_pos c50] at H
                      have c50b0 : (((rd_T43 l0 (ji46)).f2) == 1) = true := beq_iff_eq.mpr c50
                      have c50b1 : (((rd_T43 l0 (ji46)).f2) != 1) = false := bne_eq_false_iff_eq.mpr c50
                      clear c50
                      have H' := Aside0.mk H
                      clear H
                      have p593 : 0 ≤ (x32_1 : Int) := of_decide_eq_true (by first | (with_reducible assumption) | assumption)
                      have q593 : x32_1 < (t581.length : Int) := of_decide_eq_true (by first | (with_reducible assumption) | assumption)
                      obtain ⟨ad593, e593, hx593_0, hx593_1, hx593_2, hx593_3, hx593_4⟩ := at_T43 (Kd.R_reads' HO_5.out).2.2 x32_1 p593 q593
                      cases e593
                      replace p593 := eq_true p593
                      replace q593 := eq_true q593
                      have hcz51_0 : wc.cell? ⟨gb586, 0, none⟩ = some (.int .u8 ((rd_T43 l0 x32_1).f0)) := (blk_cell BK586.out 0).trans rfl
                      have hcz51_1 : wc.cell? ⟨gb586, 1, none⟩ = some (.int .u8 ((rd_T43 l0 x32_1).f1)) := (blk_cell BK586.out 1).trans rfl
                      have hcz51_2 : wc.cell? ⟨gb586, 2, none⟩ = some (.int .u8 ((rd_T43 l0 x32_1).f2)) := (blk_cell BK586.out 2).trans rfl
                      have hcz51_3 : wc.cell? ⟨gb586, 3, none⟩ = some (.int .i16 ((rd_T43 l0 x32_1).f3)) := (blk_cell BK586.out 3).trans rfl
                      have hcz51_4 : wc.cell? ⟨gb586, 4, none⟩ = some (.int .i32 ((rd_T43 l0 x32_1).f4)) := (blk_cell BK586.out 4).trans rfl
                      have hfz51_0 := blk_frozen BK586.out 0
                      have hfz51_1 := blk_frozen BK586.out 1
                      have hfz51_2 := blk_frozen BK586.out 2
                      have hfz51_3 := blk_frozen BK586.out 3
                      have hfz51_4 := blk_frozen BK586.out 4
                      have p594 : 0 ≤ ((ji46) : Int) := of_decide_eq_true (by first | (with_reducible assumption) | assumption)
                      have q594 : (ji46) < (l0.length : Int) := of_decide_eq_true (by first | (with_reducible assumption) | assumption)
                      obtain ⟨ad594, e594, hx594_0, hx594_1, hx594_2, hx594_3, hx594_4⟩ := at_T43 HR0.out (ji46) p594 q594
                      obtain rfl : ad585 = ad594 := (by injection e594)
                      replace hx594_0 := (HB.out.cell (World.block_lt_of_cell? w _ hx594_0)).trans hx594_0
                      replace hx594_1 := (HB.out.cell (World.block_lt_of_cell? w _ hx594_1)).trans hx594_1
                      replace hx594_2 := (HB.out.cell (World.block_lt_of_cell? w _ hx594_2)).trans hx594_2
                      replace hx594_3 := (HB.out.cell (World.block_lt_of_cell? w _ hx594_3)).trans hx594_3
                      replace hx594_4 := (HB.out.cell (World.block_lt_of_cell? w _ hx594_4)).trans hx594_4
                      replace p594 := eq_true p594
                      replace q594 := eq_true q594
                      have p595 : 0 ≤ ((ji46) : Int) := of_decide_eq_true (by first | (with_reducible assumption) | assumption)
                      have q595 : (ji46) < (l0.length : Int) := of_decide_eq_true (by first | (with_reducible assumption) | assumption)
                      obtain ⟨ad595, e595, hx595_0, hx595_1, hx595_2, hx595_3, hx595_4⟩ := at_T43 HR0.out (ji46) p595 q595
                      obtain rfl : ad585 = ad595 := (by injection e595)
                      replace hx595_0 := (HB.out.cell (World.block_lt_of_cell? w _ hx595_0)).trans hx595_0
                      replace hx595_1 := (HB.out.cell (World.block_lt_of_cell? w _ hx595_1)).trans hx595_1
                      replace hx595_2 := (HB.out.cell (World.block_lt_of_cell? w _ hx595_2)).trans hx595_2
                      replace hx595_3 := (HB.out.cell (World.block_lt_of_cell? w _ hx595_3)).trans hx595_3
                      replace hx595_4 := (HB.out.cell (World.block_lt_of_cell? w _ hx595_4)).trans hx595_4
                      replace p595 := eq_true p595
                      replace q595 := eq_true q595
                      go_wp2
                      repeat (go_quiet (fail); try go_wp2)
                      go_roundg kj18
                      case measure => have := HK1.out; have := HJ18.out; omega
                      case rel => exact ⟨(wrap64 (x32_1 + 1)), (by first | rfl | (simp; done) | (simp [*]; done)), H', ⟨by have := HK1.out; have := HJ18.out; omega⟩, ⟨by (with_reducible repeat (first | apply Kd.R_alloc | apply Kd.R_drewN | apply Kd.R_drew)); exact Kd.R_mono HO_5.out (fun _ hk => trivial)⟩, ⟨by repeat (first | (with_reducible first | exact HB.out | apply below_alloc | apply pw_below_drewN | apply below_drew1 | refine below_set ?_ GE586.out) | exact HB.out)⟩⟩
                     ·
                      rw [if_neg c50] at H
                      have c50b0 : (((rd_T43 l0 (ji46)).f2) == 1) = false := beq_eq_false_iff_ne.mpr c50
                      have c50b1 : (((rd_T43 l0 (ji46)).f2) != 1) = true := bne_iff_ne.mpr c50
                      obtain rfl := Option.some.inj H
                      have p593 : 0 ≤ (x32_1 : Int) := of_decide_eq_true (by first | (with_reducible assumption) | assumption)
                      have q593 : x32_1 < (t581.length : Int) := of_decide_eq_true (by first | (with_reducible assumption) | assumption)
                      obtain ⟨ad593, e593, hx593_0, hx593_1, hx593_2, hx593_3, hx593_4⟩ := at_T43 (Kd.R_reads' HO_5.out).2.2 x32_1 p593 q593
                      cases e593
                      replace p593 := eq_true p593
                      replace q593 := eq_true q593
                      have hcz52_0 : wc.cell? ⟨gb586, 0, none⟩ = some (.int .u8 ((rd_T43 l0 x32_1).f0)) := (blk_cell BK586.out 0).trans rfl
                      have hcz52_1 : wc.cell? ⟨gb586, 1, none⟩ = some (.int .u8 ((rd_T43 l0 x32_1).f1)) := (blk_cell BK586.out 1).trans rfl
                      have hcz52_2 : wc.cell? ⟨gb586, 2, none⟩ = some (.int .u8 ((rd_T43 l0 x32_1).f2)) := (blk_cell BK586.out 2).trans rfl
                      have hcz52_3 : wc.cell? ⟨gb586, 3, none⟩ = some (.int .i16 ((rd_T43 l0 x32_1).f3)) := (blk_cell BK586.out 3).trans rfl
                      have hcz52_4 : wc.cell? ⟨gb586, 4, none⟩ = some (.int .i32 ((rd_T43 l0 x32_1).f4)) := (blk_cell BK586.out 4).trans rfl
                      have hfz52_0 := blk_frozen BK586.out 0
                      have hfz52_1 := blk_frozen BK586.out 1
                      have hfz52_2 := blk_frozen BK586.out 2
                      have hfz52_3 := blk_frozen BK586.out 3
                      have hfz52_4 := blk_frozen BK586.out 4
                      have p594 : 0 ≤ ((ji46) : Int) := of_decide_eq_true (by first | (with_reducible assumption) | assumption)
                      have q594 : (ji46) < (l0.length : Int) := of_decide_eq_true (by first | (with_reducible assumption) | assumption)
                      obtain ⟨ad594, e594, hx594_0, hx594_1, hx594_2, hx594_3, hx594_4⟩ := at_T43 HR0.out (ji46) p594 q594
                      obtain rfl : ad585 = ad594 := (by injection e594)
                      replace hx594_0 := (HB.out.cell (World.block_lt_of_cell? w _ hx594_0)).trans hx594_0
                      replace hx594_1 := (HB.out.cell (World.block_lt_of_cell? w _ hx594_1)).trans hx594_1
                      replace hx594_2 := (HB.out.cell (World.block_lt_of_cell? w _ hx594_2)).trans hx594_2
                      replace hx594_3 := (HB.out.cell (World.block_lt_of_cell? w _ hx594_3)).trans hx594_3
                      replace hx594_4 := (HB.out.cell (World.block_lt_of_cell? w _ hx594_4)).trans hx594_4
                      replace p594 := eq_true p594
                      replace q594 := eq_true q594
                      have p595 : 0 ≤ ((ji46) : Int) := of_decide_eq_true (by first | (with_reducible assumption) | assumption)
                      have q595 : (ji46) < (l0.length : Int) := of_decide_eq_true (by first | (with_reducible assumption) | assumption)
                      obtain ⟨ad595, e595, hx595_0, hx595_1, hx595_2, hx595_3, hx595_4⟩ := at_T43 HR0.out (ji46) p595 q595
                      obtain rfl : ad585 = ad595 := (by injection e595)
                      replace hx595_0 := (HB.out.cell (World.block_lt_of_cell? w _ hx595_0)).trans hx595_0
                      replace hx595_1 := (HB.out.cell (World.block_lt_of_cell? w _ hx595_1)).trans hx595_1
                      replace hx595_2 := (HB.out.cell (World.block_lt_of_cell? w _ hx595_2)).trans hx595_2
                      replace hx595_3 := (HB.out.cell (World.block_lt_of_cell? w _ hx595_3)).trans hx595_3
                      replace hx595_4 := (HB.out.cell (World.block_lt_of_cell? w _ hx595_4)).trans hx595_4
                      replace p595 := eq_true p595
                      replace q595 := eq_true q595
                      go_wp2
                      repeat (go_quiet (fail); try go_wp2)
                      go_ret
                      exact ⟨by first | rfl | (simp [errW_none, errW_some] <;> rfl) | (simp only [← hji46]; first | rfl | (simp [errW_none, errW_some] <;> rfl)) | (simp [*, errW_none, errW_some] <;> rfl), by repeat (first | (with_reducible first | exact HB.out | apply below_alloc | apply pw_below_drewN | apply below_drew1 | refine below_set ?_ GE586.out) | exact HB.out)⟩
                    ·
                     rw [if_neg c49] at H
                     have c49b0 : (((rd_T43 l0 (ji46)).f0) == 24) = false := beq_eq_false_iff_ne.mpr c49
                     have c49b1 : (((rd_T43 l0 (ji46)).f0) != 24) = true := bne_iff_ne.mpr c49
                     obtain rfl := Option.some.inj H
                     have p593 : 0 ≤ (x32_1 : Int) := of_decide_eq_true (by first | (with_reducible assumption) | assumption)
                     have q593 : x32_1 < (t581.length : Int) := of_decide_eq_true (by first | (with_reducible assumption) | assumption)
                     obtain ⟨ad593, e593, hx593_0, hx593_1, hx593_2, hx593_3, hx593_4⟩ := at_T43 (Kd.R_reads' HO_5.out).2.2 x32_1 p593 q593
                     cases e593
                     replace p593 := eq_true p593
                     replace q593 := eq_true q593
                     have hcz53_0 : wc.cell? ⟨gb586, 0, none⟩ = some (.int .u8 ((rd_T43 l0 x32_1).f0)) := (blk_cell BK586.out 0).trans rfl
                     have hcz53_1 : wc.cell? ⟨gb586, 1, none⟩ = some (.int .u8 ((rd_T43 l0 x32_1).f1)) := (blk_cell BK586.out 1).trans rfl
                     have hcz53_2 : wc.cell? ⟨gb586, 2, none⟩ = some (.int .u8 ((rd_T43 l0 x32_1).f2)) := (blk_cell BK586.out 2).trans rfl
                     have hcz53_3 : wc.cell? ⟨gb586, 3, none⟩ = some (.int .i16 ((rd_T43 l0 x32_1).f3)) := (blk_cell BK586.out 3).trans rfl
                     have hcz53_4 : wc.cell? ⟨gb586, 4, none⟩ = some (.int .i32 ((rd_T43 l0 x32_1).f4)) := (blk_cell BK586.out 4).trans rfl
                     have hfz53_0 := blk_frozen BK586.out 0
                     have hfz53_1 := blk_frozen BK586.out 1
                     have hfz53_2 := blk_frozen BK586.out 2
                     have hfz53_3 := blk_frozen BK586.out 3
                     have hfz53_4 := blk_frozen BK586.out 4
                     have p594 : 0 ≤ ((ji46) : Int) := of_decide_eq_true (by first | (with_reducible assumption) | assumption)
                     have q594 : (ji46) < (l0.length : Int) := of_decide_eq_true (by first | (with_reducible assumption) | assumption)
                     obtain ⟨ad594, e594, hx594_0, hx594_1, hx594_2, hx594_3, hx594_4⟩ := at_T43 HR0.out (ji46) p594 q594
                     obtain rfl : ad585 = ad594 := (by injection e594)
                     replace hx594_0 := (HB.out.cell (World.block_lt_of_cell? w _ hx594_0)).trans hx594_0
                     replace hx594_1 := (HB.out.cell (World.block_lt_of_cell? w _ hx594_1)).trans hx594_1
                     replace hx594_2 := (HB.out.cell (World.block_lt_of_cell? w _ hx594_2)).trans hx594_2
                     replace hx594_3 := (HB.out.cell (World.block_lt_of_cell? w _ hx594_3)).trans hx594_3
                     replace hx594_4 := (HB.out.cell (World.block_lt_of_cell? w _ hx594_4)).trans hx594_4
                     replace p594 := eq_true p594
                     replace q594 := eq_true q594
                     go_wp2
                     repeat (go_quiet (fail); try go_wp2)
                     go_ret
                     exact ⟨by first | rfl | (simp [errW_none, errW_some] <;> rfl) | (simp only [← hji46]; first | rfl | (simp [errW_none, errW_some] <;> rfl)) | (simp [*, errW_none, errW_some] <;> rfl), by repeat (first | (with_reducible first | exact HB.out | apply below_alloc | apply pw_below_drewN | apply below_drew1 | refine below_set ?_ GE586.out) | exact HB.out)⟩
                   ·
                    rw [if_neg c48] at H
                    exact absurd H (by simp)
                  ·
                   rw [if_neg c47] at H
                   exact absurd H (by simp)
                ·
                 rw [if_neg c43] at H
                 have c43b0 : (!(((rd_T43 t581 x32_1).f0) == ((rd_T43 l0 x32_1).f0)) || (!(((rd_T43 t581 x32_1).f1) == ((rd_T43 l0 x32_1).f1)) || (!(((rd_T43 t581 x32_1).f2) == ((rd_T43 l0 x32_1).f2)) || (!(((rd_T43 t581 x32_1).f3) == ((rd_T43 l0 x32_1).f3)) || (!(((rd_T43 t581 x32_1).f4) == ((rd_T43 l0 x32_1).f4))))))) = false := by simpa using c43
                 clear c43
                 have H' := Aside0.mk H
                 clear H
                 have p593 : 0 ≤ (x32_1 : Int) := of_decide_eq_true (by first | (with_reducible assumption) | assumption)
                 have q593 : x32_1 < (t581.length : Int) := of_decide_eq_true (by first | (with_reducible assumption) | assumption)
                 obtain ⟨ad593, e593, hx593_0, hx593_1, hx593_2, hx593_3, hx593_4⟩ := at_T43 (Kd.R_reads' HO_5.out).2.2 x32_1 p593 q593
                 cases e593
                 replace p593 := eq_true p593
                 replace q593 := eq_true q593
                 have hcz54_0 : wc.cell? ⟨gb586, 0, none⟩ = some (.int .u8 ((rd_T43 l0 x32_1).f0)) := (blk_cell BK586.out 0).trans rfl
                 have hcz54_1 : wc.cell? ⟨gb586, 1, none⟩ = some (.int .u8 ((rd_T43 l0 x32_1).f1)) := (blk_cell BK586.out 1).trans rfl
                 have hcz54_2 : wc.cell? ⟨gb586, 2, none⟩ = some (.int .u8 ((rd_T43 l0 x32_1).f2)) := (blk_cell BK586.out 2).trans rfl
                 have hcz54_3 : wc.cell? ⟨gb586, 3, none⟩ = some (.int .i16 ((rd_T43 l0 x32_1).f3)) := (blk_cell BK586.out 3).trans rfl
                 have hcz54_4 : wc.cell? ⟨gb586, 4, none⟩ = some (.int .i32 ((rd_T43 l0 x32_1).f4)) := (blk_cell BK586.out 4).trans rfl
                 have hfz54_0 := blk_frozen BK586.out 0
                 have hfz54_1 := blk_frozen BK586.out 1
                 have hfz54_2 := blk_frozen BK586.out 2
                 have hfz54_3 := blk_frozen BK586.out 3
                 have hfz54_4 := blk_frozen BK586.out 4
                 go_wp2
                 repeat (go_quiet (fail); try go_wp2)
                 go_roundg kj18
                 case measure => have := HK1.out; have := HJ18.out; omega
                 case rel => exact ⟨(wrap64 (x32_1 + 1)), (by first | rfl | (simp; done) | (simp [*]; done)), H', ⟨by have := HK1.out; have := HJ18.out; omega⟩, ⟨by (with_reducible repeat (first | apply Kd.R_alloc | apply Kd.R_drewN | apply Kd.R_drew)); exact Kd.R_mono HO_5.out (fun _ hk => trivial)⟩, ⟨by repeat (first | (with_reducible first | exact HB.out | apply below_alloc | apply pw_below_drewN | apply below_drew1 | refine below_set ?_ GE586.out) | exact HB.out)⟩⟩
               ·
                rw [if_neg c42] at H
                exact absurd H (by simp)
              ·
               rw [if_neg c41] at H
               exact absurd H (by simp)
          ·
           rw [if_neg c18] at H
           exact absurd H (by simp)
         ·
          rw [if_neg c17] at H
          exact absurd H (by simp)
        ·
         rw [if_neg c16] at H
         have c16b0 : decide (x32_1 < (t581.length : Int)) = false := decide_eq_false c16
         clear c16
         obtain rfl := Option.some.inj H
         go_wp2
         repeat (go_quiet (fail); try go_wp2)
         go_ret
         exact ⟨by first | rfl | (simp [errW_none, errW_some] <;> rfl) | (simp [*, errW_none, errW_some] <;> rfl), by repeat (first | (with_reducible first | exact HB.out | apply below_alloc | apply pw_below_drewN | apply below_drew1) | exact HB.out)⟩
     ·
      rw [if_neg c9] at H
      have c9b0 : ((t581.length : Int) == (l0.length : Int)) = false := beq_eq_false_iff_ne.mpr c9
      have c9b1 : ((t581.length : Int) != (l0.length : Int)) = true := bne_iff_ne.mpr c9
      have c9b2 : (t581.length == l0.length) = false := by first | simpa using c9 | (simp at c9 ⊢; omega)
      obtain rfl := Option.some.inj H
      go_enter Try.func6, Try.ntmps6
      go_wp2_with (first | (go_at_call 12; (with_reducible refine (posternlaw19_first.calls k  true _ A3.out).mono ?_); rintro e w55 ⟨rfl, hb⟩; have n0_ := Aside0.mk (below_step (by repeat (first | (with_reducible first | exact HB.out | apply below_alloc | apply pw_below_drewN | apply below_drew1) | exact HB.out)) hb); clear HB; have HB := n0_; clear n0_; (try clear hb); (try clear hb2); (try clear hk); (try clear hi)) | ((with_reducible refine gate_dst (N := 15) rfl ?_); refine Kd.R_make k34 _ 34 rfl (N := 15) rfl 23 _ _ rfl (l0.length : Int) rfl rfl Try.underlying23 (.agg #[(.bool false), (.bool false), (.int .i64 0)]) 16 info34 rfl (by decide) (by omega) z34 (ok := fun _ => True) (okp := fun _ => True) (k34_mkM _ _ _ z34 ) (fun _ hk => hk) trivial (of_decide_eq_true (by first | (with_reducible assumption) | assumption)) (Nat.le_trans (Nat.mul_le_mul_right _ (of_decide_eq_true (by first | (with_reducible assumption) | assumption) : (l0.length : Int).toNat ≤ 17592186044416)) (by omega)) (Below.refl _ _) (Nat.le_refl _) ?_; intro v579 w56 ho57 hb hg_ hnew_; clear hg_ hnew_; (first | rw [← Ny578.out] at ho57 | (simp only [Int.reduceToNat] at ho57; rw [← Ny578.out] at ho57)); have n0_ := Aside0.mk (Kd.R_lower ho57 (below_size (by repeat (first | (with_reducible first | exact HB.out | apply below_alloc | apply pw_below_drewN | apply below_drew1) | exact HB.out)))); have n1_ := Aside0.mk (below_step (by repeat (first | (with_reducible first | exact HB.out | apply below_alloc | apply pw_below_drewN | apply below_drew1) | exact HB.out)) hb); clear HB; have HO580 := n0_; have HB := n1_; clear n0_ n1_; clear hb ho57; obtain ⟨Ao58, co58, eo58⟩ := Kd.R_slice HO580.out; subst eo58) | (go_at_call 13; (with_reducible refine (fix_Fix.calls k _ _ l0 _ _ y578 _ _ l1 t581 t582 _ ?side1 ?side2 ?side3 ?side4 ?side5 ?side6 A7.out).mono ?_); (case side1 => repeat (first | exact (Kd.C_below HR0.out HB.out) | (with_reducible refine Kd.C_alloc ?_ _) | (with_reducible refine Kd.C_drewN ?_ _) | (with_reducible refine Kd.C_drew ?_))); (case side2 => exact HC0.out); (case side3 => repeat (first | exact (Kd.R_reads' HO580.out).2.2 | (with_reducible refine Kd.C_alloc ?_ _) | (with_reducible refine Kd.C_drewN ?_ _) | (with_reducible refine Kd.C_drew ?_))); (case side4 => exact (Kd.R_reads' HO580.out).2.1); (case side5 => repeat (first | exact (Kd.C_below HR1.out HB.out) | (with_reducible refine Kd.C_alloc ?_ _) | (with_reducible refine Kd.C_drewN ?_ _) | (with_reducible refine Kd.C_drew ?_))); (case side6 => exact HC1.out); rintro e w59 ⟨v583, rfl, ho0, hb⟩; have n0_ := Aside0.mk (Kd.R_below (by (with_reducible repeat (first | apply Kd.R_alloc | apply Kd.R_drewN | apply Kd.R_drew)); exact HO580.out) hb); have n1_ := Aside0.mk (Kd.R_lower ho0 (below_size (by repeat (first | (with_reducible first | exact HB.out | apply below_alloc | apply pw_below_drewN | apply below_drew1) | exact HB.out)))); have n2_ := Aside0.mk (below_step (by repeat (first | (with_reducible first | exact HB.out | apply below_alloc | apply pw_below_drewN | apply below_drew1) | exact HB.out)) hb); clear HO580; clear HB; have HO580 := n0_; have HO584 := n1_; have HB := n2_; clear n0_ n1_ n2_; (try clear hb); (try clear hb2); (try clear hk); (try clear hi); (try clear ho0); obtain ⟨Ao60, co60, eo60⟩ := Kd.R_slice HO584.out; subst eo60))
      repeat (go_quiet (first | (go_at_call 12; (with_reducible refine (posternlaw19_first.calls k  true _ A3.out).mono ?_); rintro e w55 ⟨rfl, hb⟩; have n0_ := Aside0.mk (below_step (by repeat (first | (with_reducible first | exact HB.out | apply below_alloc | apply pw_below_drewN | apply below_drew1) | exact HB.out)) hb); clear HB; have HB := n0_; clear n0_; (try clear hb); (try clear hb2); (try clear hk); (try clear hi)) | ((with_reducible refine gate_dst (N := 15) rfl ?_); refine Kd.R_make k34 _ 34 rfl (N := 15) rfl 23 _ _ rfl (l0.length : Int) rfl rfl Try.underlying23 (.agg #[(.bool false), (.bool false), (.int .i64 0)]) 16 info34 rfl (by decide) (by omega) z34 (ok := fun _ => True) (okp := fun _ => True) (k34_mkM _ _ _ z34 ) (fun _ hk => hk) trivial (of_decide_eq_true (by first | (with_reducible assumption) | assumption)) (Nat.le_trans (Nat.mul_le_mul_right _ (of_decide_eq_true (by first | (with_reducible assumption) | assumption) : (l0.length : Int).toNat ≤ 17592186044416)) (by omega)) (Below.refl _ _) (Nat.le_refl _) ?_; intro v579 w56 ho57 hb hg_ hnew_; clear hg_ hnew_; (first | rw [← Ny578.out] at ho57 | (simp only [Int.reduceToNat] at ho57; rw [← Ny578.out] at ho57)); have n0_ := Aside0.mk (Kd.R_lower ho57 (below_size (by repeat (first | (with_reducible first | exact HB.out | apply below_alloc | apply pw_below_drewN | apply below_drew1) | exact HB.out)))); have n1_ := Aside0.mk (below_step (by repeat (first | (with_reducible first | exact HB.out | apply below_alloc | apply pw_below_drewN | apply below_drew1) | exact HB.out)) hb); clear HB; have HO580 := n0_; have HB := n1_; clear n0_ n1_; clear hb ho57; obtain ⟨Ao58, co58, eo58⟩ := Kd.R_slice HO580.out; subst eo58) | (go_at_call 13; (with_reducible refine (fix_Fix.calls k _ _ l0 _ _ y578 _ _ l1 t581 t582 _ ?side1 ?side2 ?side3 ?side4 ?side5 ?side6 A7.out).mono ?_); (case side1 => repeat (first | exact (Kd.C_below HR0.out HB.out) | (with_reducible refine Kd.C_alloc ?_ _) | (with_reducible refine Kd.C_drewN ?_ _) | (with_reducible refine Kd.C_drew ?_))); (case side2 => exact HC0.out); (case side3 => repeat (first | exact (Kd.R_reads' HO580.out).2.2 | (with_reducible refine Kd.C_alloc ?_ _) | (with_reducible refine Kd.C_drewN ?_ _) | (with_reducible refine Kd.C_drew ?_))); (case side4 => exact (Kd.R_reads' HO580.out).2.1); (case side5 => repeat (first | exact (Kd.C_below HR1.out HB.out) | (with_reducible refine Kd.C_alloc ?_ _) | (with_reducible refine Kd.C_drewN ?_ _) | (with_reducible refine Kd.C_drew ?_))); (case side6 => exact HC1.out); rintro e w59 ⟨v583, rfl, ho0, hb⟩; have n0_ := Aside0.mk (Kd.R_below (by (with_reducible repeat (first | apply Kd.R_alloc | apply Kd.R_drewN | apply Kd.R_drew)); exact HO580.out) hb); have n1_ := Aside0.mk (Kd.R_lower ho0 (below_size (by repeat (first | (with_reducible first | exact HB.out | apply below_alloc | apply pw_below_drewN | apply below_drew1) | exact HB.out)))); have n2_ := Aside0.mk (below_step (by repeat (first | (with_reducible first | exact HB.out | apply below_alloc | apply pw_below_drewN | apply below_drew1) | exact HB.out)) hb); clear HO580; clear HB; have HO580 := n0_; have HO584 := n1_; have HB := n2_; clear n0_ n1_ n2_; (try clear hb); (try clear hb2); (try clear hk); (try clear hi); (try clear ho0); obtain ⟨Ao60, co60, eo60⟩ := Kd.R_slice HO584.out; subst eo60)); try go_wp2_with (first | (go_at_call 12; (with_reducible refine (posternlaw19_first.calls k  true _ A3.out).mono ?_); rintro e w55 ⟨rfl, hb⟩; have n0_ := Aside0.mk (below_step (by repeat (first | (with_reducible first | exact HB.out | apply below_alloc | apply pw_below_drewN | apply below_drew1) | exact HB.out)) hb); clear HB; have HB := n0_; clear n0_; (try clear hb); (try clear hb2); (try clear hk); (try clear hi)) | ((with_reducible refine gate_dst (N := 15) rfl ?_); refine Kd.R_make k34 _ 34 rfl (N := 15) rfl 23 _ _ rfl (l0.length : Int) rfl rfl Try.underlying23 (.agg #[(.bool false), (.bool false), (.int .i64 0)]) 16 info34 rfl (by decide) (by omega) z34 (ok := fun _ => True) (okp := fun _ => True) (k34_mkM _ _ _ z34 ) (fun _ hk => hk) trivial (of_decide_eq_true (by first | (with_reducible assumption) | assumption)) (Nat.le_trans (Nat.mul_le_mul_right _ (of_decide_eq_true (by first | (with_reducible assumption) | assumption) : (l0.length : Int).toNat ≤ 17592186044416)) (by omega)) (Below.refl _ _) (Nat.le_refl _) ?_; intro v579 w56 ho57 hb hg_ hnew_; clear hg_ hnew_; (first | rw [← Ny578.out] at ho57 | (simp only [Int.reduceToNat] at ho57; rw [← Ny578.out] at ho57)); have n0_ := Aside0.mk (Kd.R_lower ho57 (below_size (by repeat (first | (with_reducible first | exact HB.out | apply below_alloc | apply pw_below_drewN | apply below_drew1) | exact HB.out)))); have n1_ := Aside0.mk (below_step (by repeat (first | (with_reducible first | exact HB.out | apply below_alloc | apply pw_below_drewN | apply below_drew1) | exact HB.out)) hb); clear HB; have HO580 := n0_; have HB := n1_; clear n0_ n1_; clear hb ho57; obtain ⟨Ao58, co58, eo58⟩ := Kd.R_slice HO580.out; subst eo58) | (go_at_call 13; (with_reducible refine (fix_Fix.calls k _ _ l0 _ _ y578 _ _ l1 t581 t582 _ ?side1 ?side2 ?side3 ?side4 ?side5 ?side6 A7.out).mono ?_); (case side1 => repeat (first | exact (Kd.C_below HR0.out HB.out) | (with_reducible refine Kd.C_alloc ?_ _) | (with_reducible refine Kd.C_drewN ?_ _) | (with_reducible refine Kd.C_drew ?_))); (case side2 => exact HC0.out); (case side3 => repeat (first | exact (Kd.R_reads' HO580.out).2.2 | (with_reducible refine Kd.C_alloc ?_ _) | (with_reducible refine Kd.C_drewN ?_ _) | (with_reducible refine Kd.C_drew ?_))); (case side4 => exact (Kd.R_reads' HO580.out).2.1); (case side5 => repeat (first | exact (Kd.C_below HR1.out HB.out) | (with_reducible refine Kd.C_alloc ?_ _) | (with_reducible refine Kd.C_drewN ?_ _) | (with_reducible refine Kd.C_drew ?_))); (case side6 => exact HC1.out); rintro e w59 ⟨v583, rfl, ho0, hb⟩; have n0_ := Aside0.mk (Kd.R_below (by (with_reducible repeat (first | apply Kd.R_alloc | apply Kd.R_drewN | apply Kd.R_drew)); exact HO580.out) hb); have n1_ := Aside0.mk (Kd.R_lower ho0 (below_size (by repeat (first | (with_reducible first | exact HB.out | apply below_alloc | apply pw_below_drewN | apply below_drew1) | exact HB.out)))); have n2_ := Aside0.mk (below_step (by repeat (first | (with_reducible first | exact HB.out | apply below_alloc | apply pw_below_drewN | apply below_drew1) | exact HB.out)) hb); clear HO580; clear HB; have HO580 := n0_; have HO584 := n1_; have HB := n2_; clear n0_ n1_ n2_; (try clear hb); (try clear hb2); (try clear hk); (try clear hi); (try clear ho0); obtain ⟨Ao60, co60, eo60⟩ := Kd.R_slice HO584.out; subst eo60)))
      go_ret
      exact ⟨by first | rfl | (simp [errW_none, errW_some] <;> rfl) | (simp [*, errW_none, errW_some] <;> rfl), by repeat (first | (with_reducible first | exact HB.out | apply below_alloc | apply pw_below_drewN | apply below_drew1) | exact HB.out)⟩
    ·
     rw [if_neg c8] at H
     have c8b0 : (t582 == 0) = false := beq_eq_false_iff_ne.mpr c8
     have c8b1 : (t582 != 0) = true := bne_iff_ne.mpr c8
     obtain rfl := Option.some.inj H
     go_enter Try.func6, Try.ntmps6
     go_wp2_with (first | (go_at_call 12; (with_reducible refine (posternlaw19_first.calls k  true _ A3.out).mono ?_); rintro e w61 ⟨rfl, hb⟩; have n0_ := Aside0.mk (below_step (by repeat (first | (with_reducible first | exact HB.out | apply below_alloc | apply pw_below_drewN | apply below_drew1) | exact HB.out)) hb); clear HB; have HB := n0_; clear n0_; (try clear hb); (try clear hb2); (try clear hk); (try clear hi)) | ((with_reducible refine gate_dst (N := 15) rfl ?_); refine Kd.R_make k34 _ 34 rfl (N := 15) rfl 23 _ _ rfl (l0.length : Int) rfl rfl Try.underlying23 (.agg #[(.bool false), (.bool false), (.int .i64 0)]) 16 info34 rfl (by decide) (by omega) z34 (ok := fun _ => True) (okp := fun _ => True) (k34_mkM _ _ _ z34 ) (fun _ hk => hk) trivial (of_decide_eq_true (by first | (with_reducible assumption) | assumption)) (Nat.le_trans (Nat.mul_le_mul_right _ (of_decide_eq_true (by first | (with_reducible assumption) | assumption) : (l0.length : Int).toNat ≤ 17592186044416)) (by omega)) (Below.refl _ _) (Nat.le_refl _) ?_; intro v579 w62 ho63 hb hg_ hnew_; clear hg_ hnew_; (first | rw [← Ny578.out] at ho63 | (simp only [Int.reduceToNat] at ho63; rw [← Ny578.out] at ho63)); have n0_ := Aside0.mk (Kd.R_lower ho63 (below_size (by repeat (first | (with_reducible first | exact HB.out | apply below_alloc | apply pw_below_drewN | apply below_drew1) | exact HB.out)))); have n1_ := Aside0.mk (below_step (by repeat (first | (with_reducible first | exact HB.out | apply below_alloc | apply pw_below_drewN | apply below_drew1) | exact HB.out)) hb); clear HB; have HO580 := n0_; have HB := n1_; clear n0_ n1_; clear hb ho63; obtain ⟨Ao64, co64, eo64⟩ := Kd.R_slice HO580.out; subst eo64) | (go_at_call 13; (with_reducible refine (fix_Fix.calls k _ _ l0 _ _ y578 _ _ l1 t581 t582 _ ?side1 ?side2 ?side3 ?side4 ?side5 ?side6 A7.out).mono ?_); (case side1 => repeat (first | exact (Kd.C_below HR0.out HB.out) | (with_reducible refine Kd.C_alloc ?_ _) | (with_reducible refine Kd.C_drewN ?_ _) | (with_reducible refine Kd.C_drew ?_))); (case side2 => exact HC0.out); (case side3 => repeat (first | exact (Kd.R_reads' HO580.out).2.2 | (with_reducible refine Kd.C_alloc ?_ _) | (with_reducible refine Kd.C_drewN ?_ _) | (with_reducible refine Kd.C_drew ?_))); (case side4 => exact (Kd.R_reads' HO580.out).2.1); (case side5 => repeat (first | exact (Kd.C_below HR1.out HB.out) | (with_reducible refine Kd.C_alloc ?_ _) | (with_reducible refine Kd.C_drewN ?_ _) | (with_reducible refine Kd.C_drew ?_))); (case side6 => exact HC1.out); rintro e w65 ⟨v583, rfl, ho0, hb⟩; have n0_ := Aside0.mk (Kd.R_below (by (with_reducible repeat (first | apply Kd.R_alloc | apply Kd.R_drewN | apply Kd.R_drew)); exact HO580.out) hb); have n1_ := Aside0.mk (Kd.R_lower ho0 (below_size (by repeat (first | (with_reducible first | exact HB.out | apply below_alloc | apply pw_below_drewN | apply below_drew1) | exact HB.out)))); have n2_ := Aside0.mk (below_step (by repeat (first | (with_reducible first | exact HB.out | apply below_alloc | apply pw_below_drewN | apply below_drew1) | exact HB.out)) hb); clear HO580; clear HB; have HO580 := n0_; have HO584 := n1_; have HB := n2_; clear n0_ n1_ n2_; (try clear hb); (try clear hb2); (try clear hk); (try clear hi); (try clear ho0); obtain ⟨Ao66, co66, eo66⟩ := Kd.R_slice HO584.out; subst eo66))
     repeat (go_quiet (first | (go_at_call 12; (with_reducible refine (posternlaw19_first.calls k  true _ A3.out).mono ?_); rintro e w61 ⟨rfl, hb⟩; have n0_ := Aside0.mk (below_step (by repeat (first | (with_reducible first | exact HB.out | apply below_alloc | apply pw_below_drewN | apply below_drew1) | exact HB.out)) hb); clear HB; have HB := n0_; clear n0_; (try clear hb); (try clear hb2); (try clear hk); (try clear hi)) | ((with_reducible refine gate_dst (N := 15) rfl ?_); refine Kd.R_make k34 _ 34 rfl (N := 15) rfl 23 _ _ rfl (l0.length : Int) rfl rfl Try.underlying23 (.agg #[(.bool false), (.bool false), (.int .i64 0)]) 16 info34 rfl (by decide) (by omega) z34 (ok := fun _ => True) (okp := fun _ => True) (k34_mkM _ _ _ z34 ) (fun _ hk => hk) trivial (of_decide_eq_true (by first | (with_reducible assumption) | assumption)) (Nat.le_trans (Nat.mul_le_mul_right _ (of_decide_eq_true (by first | (with_reducible assumption) | assumption) : (l0.length : Int).toNat ≤ 17592186044416)) (by omega)) (Below.refl _ _) (Nat.le_refl _) ?_; intro v579 w62 ho63 hb hg_ hnew_; clear hg_ hnew_; (first | rw [← Ny578.out] at ho63 | (simp only [Int.reduceToNat] at ho63; rw [← Ny578.out] at ho63)); have n0_ := Aside0.mk (Kd.R_lower ho63 (below_size (by repeat (first | (with_reducible first | exact HB.out | apply below_alloc | apply pw_below_drewN | apply below_drew1) | exact HB.out)))); have n1_ := Aside0.mk (below_step (by repeat (first | (with_reducible first | exact HB.out | apply below_alloc | apply pw_below_drewN | apply below_drew1) | exact HB.out)) hb); clear HB; have HO580 := n0_; have HB := n1_; clear n0_ n1_; clear hb ho63; obtain ⟨Ao64, co64, eo64⟩ := Kd.R_slice HO580.out; subst eo64) | (go_at_call 13; (with_reducible refine (fix_Fix.calls k _ _ l0 _ _ y578 _ _ l1 t581 t582 _ ?side1 ?side2 ?side3 ?side4 ?side5 ?side6 A7.out).mono ?_); (case side1 => repeat (first | exact (Kd.C_below HR0.out HB.out) | (with_reducible refine Kd.C_alloc ?_ _) | (with_reducible refine Kd.C_drewN ?_ _) | (with_reducible refine Kd.C_drew ?_))); (case side2 => exact HC0.out); (case side3 => repeat (first | exact (Kd.R_reads' HO580.out).2.2 | (with_reducible refine Kd.C_alloc ?_ _) | (with_reducible refine Kd.C_drewN ?_ _) | (with_reducible refine Kd.C_drew ?_))); (case side4 => exact (Kd.R_reads' HO580.out).2.1); (case side5 => repeat (first | exact (Kd.C_below HR1.out HB.out) | (with_reducible refine Kd.C_alloc ?_ _) | (with_reducible refine Kd.C_drewN ?_ _) | (with_reducible refine Kd.C_drew ?_))); (case side6 => exact HC1.out); rintro e w65 ⟨v583, rfl, ho0, hb⟩; have n0_ := Aside0.mk (Kd.R_below (by (with_reducible repeat (first | apply Kd.R_alloc | apply Kd.R_drewN | apply Kd.R_drew)); exact HO580.out) hb); have n1_ := Aside0.mk (Kd.R_lower ho0 (below_size (by repeat (first | (with_reducible first | exact HB.out | apply below_alloc | apply pw_below_drewN | apply below_drew1) | exact HB.out)))); have n2_ := Aside0.mk (below_step (by repeat (first | (with_reducible first | exact HB.out | apply below_alloc | apply pw_below_drewN | apply below_drew1) | exact HB.out)) hb); clear HO580; clear HB; have HO580 := n0_; have HO584 := n1_; have HB := n2_; clear n0_ n1_ n2_; (try clear hb); (try clear hb2); (try clear hk); (try clear hi); (try clear ho0); obtain ⟨Ao66, co66, eo66⟩ := Kd.R_slice HO584.out; subst eo66)); try go_wp2_with (first | (go_at_call 12; (with_reducible refine (posternlaw19_first.calls k  true _ A3.out).mono ?_); rintro e w61 ⟨rfl, hb⟩; have n0_ := Aside0.mk (below_step (by repeat (first | (with_reducible first | exact HB.out | apply below_alloc | apply pw_below_drewN | apply below_drew1) | exact HB.out)) hb); clear HB; have HB := n0_; clear n0_; (try clear hb); (try clear hb2); (try clear hk); (try clear hi)) | ((with_reducible refine gate_dst (N := 15) rfl ?_); refine Kd.R_make k34 _ 34 rfl (N := 15) rfl 23 _ _ rfl (l0.length : Int) rfl rfl Try.underlying23 (.agg #[(.bool false), (.bool false), (.int .i64 0)]) 16 info34 rfl (by decide) (by omega) z34 (ok := fun _ => True) (okp := fun _ => True) (k34_mkM _ _ _ z34 ) (fun _ hk => hk) trivial (of_decide_eq_true (by first | (with_reducible assumption) | assumption)) (Nat.le_trans (Nat.mul_le_mul_right _ (of_decide_eq_true (by first | (with_reducible assumption) | assumption) : (l0.length : Int).toNat ≤ 17592186044416)) (by omega)) (Below.refl _ _) (Nat.le_refl _) ?_; intro v579 w62 ho63 hb hg_ hnew_; clear hg_ hnew_; (first | rw [← Ny578.out] at ho63 | (simp only [Int.reduceToNat] at ho63; rw [← Ny578.out] at ho63)); have n0_ := Aside0.mk (Kd.R_lower ho63 (below_size (by repeat (first | (with_reducible first | exact HB.out | apply below_alloc | apply pw_below_drewN | apply below_drew1) | exact HB.out)))); have n1_ := Aside0.mk (below_step (by repeat (first | (with_reducible first | exact HB.out | apply below_alloc | apply pw_below_drewN | apply below_drew1) | exact HB.out)) hb); clear HB; have HO580 := n0_; have HB := n1_; clear n0_ n1_; clear hb ho63; obtain ⟨Ao64, co64, eo64⟩ := Kd.R_slice HO580.out; subst eo64) | (go_at_call 13; (with_reducible refine (fix_Fix.calls k _ _ l0 _ _ y578 _ _ l1 t581 t582 _ ?side1 ?side2 ?side3 ?side4 ?side5 ?side6 A7.out).mono ?_); (case side1 => repeat (first | exact (Kd.C_below HR0.out HB.out) | (with_reducible refine Kd.C_alloc ?_ _) | (with_reducible refine Kd.C_drewN ?_ _) | (with_reducible refine Kd.C_drew ?_))); (case side2 => exact HC0.out); (case side3 => repeat (first | exact (Kd.R_reads' HO580.out).2.2 | (with_reducible refine Kd.C_alloc ?_ _) | (with_reducible refine Kd.C_drewN ?_ _) | (with_reducible refine Kd.C_drew ?_))); (case side4 => exact (Kd.R_reads' HO580.out).2.1); (case side5 => repeat (first | exact (Kd.C_below HR1.out HB.out) | (with_reducible refine Kd.C_alloc ?_ _) | (with_reducible refine Kd.C_drewN ?_ _) | (with_reducible refine Kd.C_drew ?_))); (case side6 => exact HC1.out); rintro e w65 ⟨v583, rfl, ho0, hb⟩; have n0_ := Aside0.mk (Kd.R_below (by (with_reducible repeat (first | apply Kd.R_alloc | apply Kd.R_drewN | apply Kd.R_drew)); exact HO580.out) hb); have n1_ := Aside0.mk (Kd.R_lower ho0 (below_size (by repeat (first | (with_reducible first | exact HB.out | apply below_alloc | apply pw_below_drewN | apply below_drew1) | exact HB.out)))); have n2_ := Aside0.mk (below_step (by repeat (first | (with_reducible first | exact HB.out | apply below_alloc | apply pw_below_drewN | apply below_drew1) | exact HB.out)) hb); clear HO580; clear HB; have HO580 := n0_; have HO584 := n1_; have HB := n2_; clear n0_ n1_ n2_; (try clear hb); (try clear hb2); (try clear hk); (try clear hi); (try clear ho0); obtain ⟨Ao66, co66, eo66⟩ := Kd.R_slice HO584.out; subst eo66)))
     go_ret
     exact ⟨by first | rfl | (simp [errW_none, errW_some] <;> rfl) | (simp [*, errW_none, errW_some] <;> rfl), by repeat (first | (with_reducible first | exact HB.out | apply below_alloc | apply pw_below_drewN | apply below_drew1) | exact HB.out)⟩
   ·
    rw [if_neg c6] at H
    exact absurd H (by simp)
  ·
   rw [if_neg c5] at H
   exact absurd H (by simp)
 ·
  replace c4 := Bool.eq_false_iff.mpr c4
  subst c4
  have H1 : (some false) = some r := by rw [if_neg (show ¬ (false = true) by decide)] at H; exact H
  clear H
  have H := H1
  clear H1
  obtain rfl := Option.some.inj H
  go_enter Try.func6, Try.ntmps6
  go_wp2_with (first | (go_at_call 12; (with_reducible refine (posternlaw19_first.calls k  false _ A3.out).mono ?_); rintro e w67 ⟨rfl, hb⟩; have n0_ := Aside0.mk (below_step (by repeat (first | (with_reducible first | exact HB.out | apply below_alloc | apply pw_below_drewN | apply below_drew1) | exact HB.out)) hb); clear HB; have HB := n0_; clear n0_; (try clear hb); (try clear hb2); (try clear hk); (try clear hi)))
  repeat (go_quiet (first | (go_at_call 12; (with_reducible refine (posternlaw19_first.calls k  false _ A3.out).mono ?_); rintro e w67 ⟨rfl, hb⟩; have n0_ := Aside0.mk (below_step (by repeat (first | (with_reducible first | exact HB.out | apply below_alloc | apply pw_below_drewN | apply below_drew1) | exact HB.out)) hb); clear HB; have HB := n0_; clear n0_; (try clear hb); (try clear hb2); (try clear hk); (try clear hi))); try go_wp2_with (first | (go_at_call 12; (with_reducible refine (posternlaw19_first.calls k  false _ A3.out).mono ?_); rintro e w67 ⟨rfl, hb⟩; have n0_ := Aside0.mk (below_step (by repeat (first | (with_reducible first | exact HB.out | apply below_alloc | apply pw_below_drewN | apply below_drew1) | exact HB.out)) hb); clear HB; have HB := n0_; clear n0_; (try clear hb); (try clear hb2); (try clear hk); (try clear hi))))
  go_ret
  exact ⟨by first | rfl | (simp [errW_none, errW_some] <;> rfl) | (simp [*, errW_none, errW_some] <;> rfl), by repeat (first | (with_reducible first | exact HB.out | apply below_alloc | apply pw_below_drewN | apply below_drew1) | exact HB.out)⟩

end Go.Proofs.Ytmijlibnembkaaa.PA
