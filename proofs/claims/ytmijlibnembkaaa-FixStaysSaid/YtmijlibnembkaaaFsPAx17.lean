-- Printed by wip/tools/extprint.py over the kit's printer, with contracts of this session's own. Lean checks it.
import Derived.Test.YtmijlibnembkaaaFsPAx0
import Derived.Test.YtmijlibnembkaaaFsPAx1
import Derived.Test.YtmijlibnembkaaaFsPAx2
import Derived.Test.YtmijlibnembkaaaFsPAx3
namespace Go.Proofs.Ytmijlibnembkaaa.PA
open Go.RowKit Go.Proofs.YtmijlibnembkaaaW.PrintWords Go.Proofs.YtmijlibnembkaaaW.PrintLast Go.Proofs.YtmijlibnembkaaaW.PrintMore
attribute [local go_sem] max2_int min2_int max_two min_two max_three min_three max_four min_four   -- for this text's walks alone
set_option linter.unusedVariables false
set_option linter.unusedSimpArgs false

attribute [local go_sem high] eqA34 eqA43
-- NOT PRINTED: function 9 (posternref18_Prune)

/-! ### fix_context: function 38 -/
def fix_context.f (a0 : Int) : Option (Int × Bool) := if a0 = 0 then (some (8, true)) else (if a0 = 8 then (some (16, true)) else (if a0 = 16 then (some (0, true)) else (if a0 = 20 then (some (4, true)) else (some (0, false)))))
set_option maxHeartbeats 8000000 in
set_option maxRecDepth 100000 in
theorem fix_context.calls (a0 : Int) (r1 : Int) (r2 : Bool) (w : World) (h : fix_context.f a0 = some (r1, r2)) :
  Calls Try.prog 38 #[.int .i16 a0] w fun e w' => e = .returned (.tuple #[.int .i16 r1, .bool r2]) ∧ Drawn0 w w' := by
 have H : (if a0 = 0 then (some (8, true)) else (if a0 = 8 then (some (16, true)) else (if a0 = 16 then (some (0, true)) else (if a0 = 20 then (some (4, true)) else (some (0, false)))))) = some (r1, r2) := h
 clear h
 by_cases c2 : a0 = 0
 ·
  rw [if_pos c2] at H
  have c2b0 : (a0 == 0) = true := beq_iff_eq.mpr c2
  have c2b1 : (a0 != 0) = false := bne_eq_false_iff_eq.mpr c2
  clear c2
  simp only [Option.some.injEq, Prod.mk.injEq] at H
  obtain ⟨rfl, rfl⟩ := H
  go_enter Try.func38, Try.ntmps38
  go_wp2
  go_ret2
  exact ⟨by first | rfl | (simp; done) | (simp [*]; done), by repeat (first | exact Drawn0.refl _ | apply Drawn0.step)⟩
 ·
  rw [if_neg c2] at H
  have c2b0 : (a0 == 0) = false := beq_eq_false_iff_ne.mpr c2
  have c2b1 : (a0 != 0) = true := bne_iff_ne.mpr c2
  by_cases c3 : a0 = 8
  ·
   rw [if_pos c3] at H
   have c3b0 : (a0 == 8) = true := beq_iff_eq.mpr c3
   have c3b1 : (a0 != 8) = false := bne_eq_false_iff_eq.mpr c3
   clear c3
   simp only [Option.some.injEq, Prod.mk.injEq] at H
   obtain ⟨rfl, rfl⟩ := H
   go_enter Try.func38, Try.ntmps38
   go_wp2
   go_ret2
   exact ⟨by first | rfl | (simp; done) | (simp [*]; done), by repeat (first | exact Drawn0.refl _ | apply Drawn0.step)⟩
  ·
   rw [if_neg c3] at H
   have c3b0 : (a0 == 8) = false := beq_eq_false_iff_ne.mpr c3
   have c3b1 : (a0 != 8) = true := bne_iff_ne.mpr c3
   by_cases c4 : a0 = 16
   ·
    rw [if_pos c4] at H
    have c4b0 : (a0 == 16) = true := beq_iff_eq.mpr c4
    have c4b1 : (a0 != 16) = false := bne_eq_false_iff_eq.mpr c4
    clear c4
    simp only [Option.some.injEq, Prod.mk.injEq] at H
    obtain ⟨rfl, rfl⟩ := H
    go_enter Try.func38, Try.ntmps38
    go_wp2
    go_ret2
    exact ⟨by first | rfl | (simp; done) | (simp [*]; done), by repeat (first | exact Drawn0.refl _ | apply Drawn0.step)⟩
   ·
    rw [if_neg c4] at H
    have c4b0 : (a0 == 16) = false := beq_eq_false_iff_ne.mpr c4
    have c4b1 : (a0 != 16) = true := bne_iff_ne.mpr c4
    by_cases c5 : a0 = 20
    ·
     rw [if_pos c5] at H
     have c5b0 : (a0 == 20) = true := beq_iff_eq.mpr c5
     have c5b1 : (a0 != 20) = false := bne_eq_false_iff_eq.mpr c5
     clear c5
     simp only [Option.some.injEq, Prod.mk.injEq] at H
     obtain ⟨rfl, rfl⟩ := H
     go_enter Try.func38, Try.ntmps38
     go_wp2
     go_ret2
     exact ⟨by first | rfl | (simp; done) | (simp [*]; done), by repeat (first | exact Drawn0.refl _ | apply Drawn0.step)⟩
    ·
     rw [if_neg c5] at H
     have c5b0 : (a0 == 20) = false := beq_eq_false_iff_ne.mpr c5
     have c5b1 : (a0 != 20) = true := bne_iff_ne.mpr c5
     simp only [Option.some.injEq, Prod.mk.injEq] at H
     obtain ⟨rfl, rfl⟩ := H
     go_enter Try.func38, Try.ntmps38
     go_wp2
     go_ret2
     exact ⟨by first | rfl | (simp; done) | (simp [*]; done), by repeat (first | exact Drawn0.refl _ | apply Drawn0.step)⟩

/-! ### insn_Size: function 39 -/
def insn_Size.tab (v : Int) : Option Int := if v = 0 then some 4 else if v = 1 then some 2 else if v = 2 then some 1 else if v = 3 then some 8 else none
def insn_Size.f (k : Nat) (a0 : Int) : Option (Int) := (insn_Class.f a0).bind fun c => if c < 1 then some 0 else if c > 3 then some 0 else (insn_Known.f k a0).bind fun b => if b = true then insn_Size.tab (Go.bits .and .u8 (a0 / 8) 3) else some 0
theorem insn_Size.mono : ∀ a0 k, LeO (insn_Size.f k a0) (insn_Size.f (k + 1) a0) := by
 intro a0 k
 unfold insn_Size.f
 repeat' first
   | (with_reducible exact LeO.refl _)
   | (with_reducible exact insn_Known.mono _ _)
   | (with_reducible refine LeO.ite ?_ ?_)
   | (with_reducible refine LeO.bind ?_ (fun _ => ?_))
set_option maxHeartbeats 1000000 in
theorem insn_Size.there (k : Nat) (a0 c v r : Int) (w : World) (hc : insn_Class.f a0 = some c) (c1 : ¬ c < 1) (c2 : ¬ c > 3) (hb : insn_Known.f k a0 = some true) (hv : Go.bits .and .u8 (a0 / 8) 3 = v)
  (hrun : ∀ W, (Instr.index 96 (.agg #[.int .i64 4, .int .i64 2, .int .i64 1, .int .i64 8]) (.int .u8 v)).run Try.prog W = .ok (.int .i64 r) W) :
  Calls Try.prog 39 #[.int .u8 a0] w fun e w' => e = .returned (.int .i64 r) ∧ Below w.heap.size w w' := by
 have HC := Aside0.mk hc
 have HK := Aside0.mk hb
 have c1b : decide (c < 1) = false := decide_eq_false c1
 have c2b : decide (3 < c) = false := decide_eq_false c2
 clear hc hb c1 c2
 go_enter Try.func39, Try.ntmps39
 go_wp2_with (first | (go_at_call 48; (with_reducible refine (insn_Class.calls a0 c _ HC.out).mono ?_); rintro e w' ⟨rfl, ⟨q, rfl⟩⟩) | (go_at_call 46; (with_reducible refine (insn_Known.calls k a0 true _ HK.out).mono ?_); rintro e w' ⟨rfl, ⟨q, rfl⟩⟩))
 go_ret
 exact ⟨rfl, by repeat (first | exact Below.refl _ _ | apply below_alloc | apply pw_below_drewN | apply below_drew1)⟩
set_option maxHeartbeats 1000000 in
theorem insn_Size.calls (k : Nat) (a0 : Int) (r : Int) (w : World) (h : insn_Size.f k a0 = some r) :
  Calls Try.prog 39 #[.int .u8 a0] w fun e w' => e = .returned (.int .i64 r) ∧ Below w.heap.size w w' := by
 simp only [insn_Size.f] at h
 obtain ⟨c, hc, h⟩ := Option.bind_eq_some_iff.mp h
 by_cases c1 : c < 1
 ·
  rw [if_pos c1] at h
  obtain rfl := Option.some.inj h
  have HC := Aside0.mk hc
  have c1b : decide (c < 1) = true := decide_eq_true c1
  clear hc c1 h
  go_enter Try.func39, Try.ntmps39
  go_wp2_with (go_at_call 48; (with_reducible refine (insn_Class.calls a0 c _ HC.out).mono ?_); rintro e w' ⟨rfl, ⟨q, rfl⟩⟩)
  go_ret
  exact ⟨rfl, by repeat (first | exact Below.refl _ _ | apply below_alloc | apply pw_below_drewN | apply below_drew1)⟩
 rw [if_neg c1] at h
 by_cases c2 : c > 3
 ·
  rw [if_pos c2] at h
  obtain rfl := Option.some.inj h
  have HC := Aside0.mk hc
  have c1b : decide (c < 1) = false := decide_eq_false c1
  have c2b : decide (3 < c) = true := decide_eq_true c2
  clear hc c1 c2 h
  go_enter Try.func39, Try.ntmps39
  go_wp2_with (go_at_call 48; (with_reducible refine (insn_Class.calls a0 c _ HC.out).mono ?_); rintro e w' ⟨rfl, ⟨q, rfl⟩⟩)
  go_ret
  exact ⟨rfl, by repeat (first | exact Below.refl _ _ | apply below_alloc | apply pw_below_drewN | apply below_drew1)⟩
 rw [if_neg c2] at h
 obtain ⟨b, hb, h⟩ := Option.bind_eq_some_iff.mp h
 cases b with
 | false =>
  rw [if_neg (by decide)] at h
  obtain rfl := Option.some.inj h
  have HC := Aside0.mk hc
  have HK := Aside0.mk hb
  have c1b : decide (c < 1) = false := decide_eq_false c1
  have c2b : decide (3 < c) = false := decide_eq_false c2
  clear hc hb c1 c2 h
  go_enter Try.func39, Try.ntmps39
  go_wp2_with (first | (go_at_call 48; (with_reducible refine (insn_Class.calls a0 c _ HC.out).mono ?_); rintro e w' ⟨rfl, ⟨q, rfl⟩⟩) | (go_at_call 46; (with_reducible refine (insn_Known.calls k a0 false _ HK.out).mono ?_); rintro e w' ⟨rfl, ⟨q, rfl⟩⟩))
  go_ret
  exact ⟨rfl, by repeat (first | exact Below.refl _ _ | apply below_alloc | apply pw_below_drewN | apply below_drew1)⟩
 | true =>
  rw [if_pos rfl] at h
  unfold insn_Size.tab at h
  by_cases v0 : Go.bits .and .u8 (a0 / 8) 3 = 0
  ·
   rw [if_pos v0] at h; obtain rfl := Option.some.inj h; exact insn_Size.there k a0 c 0 4 w hc c1 c2 hb v0 (fun W => by kernel_rfl)
  rw [if_neg v0] at h
  by_cases v1 : Go.bits .and .u8 (a0 / 8) 3 = 1
  ·
   rw [if_pos v1] at h; obtain rfl := Option.some.inj h; exact insn_Size.there k a0 c 1 2 w hc c1 c2 hb v1 (fun W => by kernel_rfl)
  rw [if_neg v1] at h
  by_cases v2 : Go.bits .and .u8 (a0 / 8) 3 = 2
  ·
   rw [if_pos v2] at h; obtain rfl := Option.some.inj h; exact insn_Size.there k a0 c 2 1 w hc c1 c2 hb v2 (fun W => by kernel_rfl)
  rw [if_neg v2] at h
  by_cases v3 : Go.bits .and .u8 (a0 / 8) 3 = 3
  ·
   rw [if_pos v3] at h; obtain rfl := Option.some.inj h; exact insn_Size.there k a0 c 3 8 w hc c1 c2 hb v3 (fun W => by kernel_rfl)
  rw [if_neg v3] at h
  cases h

/-! ### insn_Split: function 42 -/
def insn_Split.f (a0 : Int) (a1 : Int) (a2 : Int) : Option ((List (S43))) := some (([(⟨24, a0, a1, 0, wrap32 ((a2) % 4294967296)⟩ : S43), (⟨0, 0, 0, 0, wrap32 ((a2 / 4294967296) % 4294967296)⟩ : S43)] : List (S43)))
set_option maxHeartbeats 8000000 in
set_option maxRecDepth 100000 in
theorem insn_Split.calls (a0 : Int) (a1 : Int) (a2 : Int) (r : List (S43)) (w : World) (h : insn_Split.f a0 a1 a2 = some r) :
  Calls Try.prog 42 #[.int .u8 a0, .int .u8 a1, .int .u64 a2] w fun e w' => ∃ v0_ : Value, e = .returned (v0_) ∧ Kd.R k43 43 w' w.heap.size (fun _ => True) v0_ r ∧ Below w.heap.size w w' := by
 have hu43 := Try.underlying43
 have HB := Aside0.mk (Below.refl w.heap.size w)
 have H : (some (([(⟨24, a0, a1, 0, wrap32 ((a2) % 4294967296)⟩ : S43), (⟨0, 0, 0, 0, wrap32 ((a2 / 4294967296) % 4294967296)⟩ : S43)] : List (S43)))) = some r := h
 clear h
 obtain ⟨y400, hy400⟩ : ∃ y_ : List (S43), y_ = (([(⟨24, a0, a1, 0, wrap32 ((a2) % 4294967296)⟩ : S43), (⟨0, 0, 0, 0, wrap32 ((a2 / 4294967296) % 4294967296)⟩ : S43)] : List (S43))) := ⟨_, rfl⟩
 replace H : (some y400) = some r := by first | (rw [hy400]; with_reducible exact H) | (have H2_ := (Option.bind_some _ _).symm.trans H; rw [hy400]; with_reducible exact H2_) | (have H2_ := (Option.bind_some _ _).symm.trans H; with_reducible exact H2_) | with_reducible exact H | (rw [hy400]; exact H) | exact H
 have Ny400 := Aside0.mk hy400
 clear hy400
 obtain rfl := Option.some.inj H
 go_enter Try.func42, Try.ntmps42
 go_wp2_with (first | ((with_reducible refine gate_dst (N := 18) rfl ?_); refine Kd.R_lit k43 _ 43 ?hg (N := 18) ?hd (xs := ([(⟨24, a0, a1, 0, wrap32 ((a2) % 4294967296)⟩ : S43), (⟨0, 0, 0, 0, wrap32 ((a2 / 4294967296) % 4294967296)⟩ : S43)] : List (S43))) (inner := [.int .u8 24, .int .u8 a0, .int .u8 a1, .int .i16 0, .int .i32 (wrap32 ((a2) % 4294967296)), .int .u8 0, .int .u8 0, .int .u8 0, .int .i16 0, .int .i32 (wrap32 ((a2 / 4294967296) % 4294967296))]) (ok := fun _ => True) (okp := fun _ => True) ?hr ?hp (fun _ hk => hk) trivial (Below.refl _ _) (Nat.le_refl _) (by simp) ?_; (case hd => rfl); (case hg => rfl); (case hr => first | (go_simp; done) | (go_simp; rfl)); (case hp => exact (Reps.c5 (show Kd.M k43 _ _ _ (⟨24, a0, a1, 0, wrap32 ((a2) % 4294967296)⟩ : S43) [.int .u8 24, .int .u8 a0, .int .u8 a1, .int .i16 0, .int .i32 (wrap32 ((a2) % 4294967296))] from (k43_mkM _ _ _ (⟨24, a0, a1, 0, wrap32 ((a2) % 4294967296)⟩ : S43) )) (Reps.c5 (show Kd.M k43 _ _ _ (⟨0, 0, 0, 0, wrap32 ((a2 / 4294967296) % 4294967296)⟩ : S43) [.int .u8 0, .int .u8 0, .int .u8 0, .int .i16 0, .int .i32 (wrap32 ((a2 / 4294967296) % 4294967296))] from (k43_mkM _ _ _ (⟨0, 0, 0, 0, wrap32 ((a2 / 4294967296) % 4294967296)⟩ : S43) )) (Reps.none _ _)))); intro v401 w4 ho5 hb hg_ hnew_; clear hg_ hnew_; (first | rw [← Ny400.out] at ho5 | (simp only [Int.reduceToNat] at ho5; rw [← Ny400.out] at ho5)); have n0_ := Aside0.mk (Kd.R_lower ho5 (below_size (by repeat (first | (with_reducible first | exact HB.out | apply below_alloc | apply pw_below_drewN | apply below_drew1) | exact HB.out)))); have n1_ := Aside0.mk (below_step (by repeat (first | (with_reducible first | exact HB.out | apply below_alloc | apply pw_below_drewN | apply below_drew1) | exact HB.out)) hb); clear HB; have HO402 := n0_; have HB := n1_; clear n0_ n1_; clear hb ho5))
 go_ret
 exact ⟨_, by first | rfl | (simp [errW_none, errW_some] <;> rfl) | (simp [*, errW_none, errW_some] <;> rfl), by (with_reducible repeat (first | apply Kd.R_alloc | apply Kd.R_drewN | apply Kd.R_drew)); exact HO402.out, by repeat (first | (with_reducible first | exact HB.out | apply below_alloc | apply pw_below_drewN | apply below_drew1) | exact HB.out)⟩

/-! ### fix_lookup: function 40 -/
def fix_lookup.f (a0 : Int) (a1_0 : Int) (a1_1 : Int) (a1_2 : Int) (a1_3 : Int) : Option ((List (S43))) := (some (([(⟨97, 0, 2, 0, 0⟩ : S43), (⟨53, 0, 0, 5, wrap32 (a1_3)⟩ : S43), (⟨103, 0, 0, 0, 12⟩ : S43)] : List (S43)) : List (S43))).bind fun y404 => ((insn_Split.f 1 0 (IntKind.u64.wrap (137438953472 + (IntKind.u64.wrap ((IntKind.u64.wrap (a0)) * 4294967296))))).bind fun t407 => (if y404.length + t407.length < 11728124029610 then ((some (y404 ++ t407 : List (S43))).bind fun y410 => ((some (([(⟨15, 0, 1, 0, 0⟩ : S43), (⟨5, 0, 0, 1, 0⟩ : S43), (⟨183, 0, 0, 0, 0⟩ : S43)] : List (S43)) : List (S43))).bind fun y413 => (if y410.length + y413.length < 11728124029610 then (some (y410 ++ y413)) else (none)))) else (none)))
set_option maxHeartbeats 8000000 in
set_option maxRecDepth 100000 in
theorem fix_lookup.calls (a0 : Int) (a1_0 : Int) (a1_1 : Int) (a1_2 : Int) (a1_3 : Int) (r : List (S43)) (w : World) (h : fix_lookup.f a0 a1_0 a1_1 a1_2 a1_3 = some r) :
  Calls Try.prog 40 #[.int .i64 a0, .agg #[.int .i64 a1_0, .int .i64 a1_1, .int .i64 a1_2, .int .i64 a1_3]] w fun e w' => ∃ v0_ : Value, e = .returned (v0_) ∧ Kd.R k43 43 w' w.heap.size (fun _ => True) v0_ r ∧ Below w.heap.size w w' := by
 have hu80 := Try.underlying80
 have hu43 := Try.underlying43
 have HB := Aside0.mk (Below.refl w.heap.size w)
 have H : ((some (([(⟨97, 0, 2, 0, 0⟩ : S43), (⟨53, 0, 0, 5, wrap32 (a1_3)⟩ : S43), (⟨103, 0, 0, 0, 12⟩ : S43)] : List (S43)) : List (S43))).bind fun y404 => ((insn_Split.f 1 0 (IntKind.u64.wrap (137438953472 + (IntKind.u64.wrap ((IntKind.u64.wrap (a0)) * 4294967296))))).bind fun t407 => (if y404.length + t407.length < 11728124029610 then ((some (y404 ++ t407 : List (S43))).bind fun y410 => ((some (([(⟨15, 0, 1, 0, 0⟩ : S43), (⟨5, 0, 0, 1, 0⟩ : S43), (⟨183, 0, 0, 0, 0⟩ : S43)] : List (S43)) : List (S43))).bind fun y413 => (if y410.length + y413.length < 11728124029610 then (some (y410 ++ y413)) else (none)))) else (none)))) = some r := h
 clear h
 obtain ⟨y404, hy404⟩ : ∃ y_ : List (S43), y_ = (([(⟨97, 0, 2, 0, 0⟩ : S43), (⟨53, 0, 0, 5, wrap32 (a1_3)⟩ : S43), (⟨103, 0, 0, 0, 12⟩ : S43)] : List (S43))) := ⟨_, rfl⟩
 replace H : ((insn_Split.f 1 0 (IntKind.u64.wrap (137438953472 + (IntKind.u64.wrap ((IntKind.u64.wrap (a0)) * 4294967296))))).bind fun t407 => (if y404.length + t407.length < 11728124029610 then ((some (y404 ++ t407 : List (S43))).bind fun y410 => ((some (([(⟨15, 0, 1, 0, 0⟩ : S43), (⟨5, 0, 0, 1, 0⟩ : S43), (⟨183, 0, 0, 0, 0⟩ : S43)] : List (S43)) : List (S43))).bind fun y413 => (if y410.length + y413.length < 11728124029610 then (some (y410 ++ y413)) else (none)))) else (none))) = some r := by first | (rw [hy404]; with_reducible exact H) | (have H2_ := (Option.bind_some _ _).symm.trans H; rw [hy404]; with_reducible exact H2_) | (have H2_ := (Option.bind_some _ _).symm.trans H; with_reducible exact H2_) | with_reducible exact H | (rw [hy404]; exact H) | exact H
 have Ny404 := Aside0.mk hy404
 clear hy404
 replace H := Option.bind_eq_some_iff.mp H
 obtain ⟨t407, A30, H⟩ := H
 replace H : (if y404.length + t407.length < 11728124029610 then ((some (y404 ++ t407 : List (S43))).bind fun y410 => ((some (([(⟨15, 0, 1, 0, 0⟩ : S43), (⟨5, 0, 0, 1, 0⟩ : S43), (⟨183, 0, 0, 0, 0⟩ : S43)] : List (S43)) : List (S43))).bind fun y413 => (if y410.length + y413.length < 11728124029610 then (some (y410 ++ y413)) else (none)))) else (none)) = some r := H
 have A3 := Aside0.mk A30
 clear A30
 by_cases c4 : y404.length + t407.length < 11728124029610
 ·
  rw [if_pos c4] at H
  have LMc4 := Aside0.mk c4
  clear c4
  obtain ⟨y410, hy410⟩ : ∃ y_ : List (S43), y_ = (y404 ++ t407) := ⟨_, rfl⟩
  replace H : ((some (([(⟨15, 0, 1, 0, 0⟩ : S43), (⟨5, 0, 0, 1, 0⟩ : S43), (⟨183, 0, 0, 0, 0⟩ : S43)] : List (S43)) : List (S43))).bind fun y413 => (if y410.length + y413.length < 11728124029610 then (some (y410 ++ y413)) else (none))) = some r := by first | (rw [hy410]; with_reducible exact H) | (have H2_ := (Option.bind_some _ _).symm.trans H; rw [hy410]; with_reducible exact H2_) | (have H2_ := (Option.bind_some _ _).symm.trans H; with_reducible exact H2_) | with_reducible exact H | (rw [hy410]; exact H) | exact H
  have Ny410 := Aside0.mk hy410
  clear hy410
  obtain ⟨y413, hy413⟩ : ∃ y_ : List (S43), y_ = (([(⟨15, 0, 1, 0, 0⟩ : S43), (⟨5, 0, 0, 1, 0⟩ : S43), (⟨183, 0, 0, 0, 0⟩ : S43)] : List (S43))) := ⟨_, rfl⟩
  replace H : (if y410.length + y413.length < 11728124029610 then (some (y410 ++ y413)) else (none)) = some r := by first | (rw [hy413]; with_reducible exact H) | (have H2_ := (Option.bind_some _ _).symm.trans H; rw [hy413]; with_reducible exact H2_) | (have H2_ := (Option.bind_some _ _).symm.trans H; with_reducible exact H2_) | with_reducible exact H | (rw [hy413]; exact H) | exact H
  have Ny413 := Aside0.mk hy413
  clear hy413
  by_cases c5 : y410.length + y413.length < 11728124029610
  ·
   rw [if_pos c5] at H
   have LMc5 := Aside0.mk c5
   clear c5
   obtain ⟨y416, hy416⟩ : ∃ y_ : List (S43), y_ = (y410 ++ y413) := ⟨_, rfl⟩
   replace H : (some y416) = some r := by first | (rw [hy416]; with_reducible exact H) | (have H2_ := (Option.bind_some _ _).symm.trans H; rw [hy416]; with_reducible exact H2_) | (have H2_ := (Option.bind_some _ _).symm.trans H; with_reducible exact H2_) | with_reducible exact H | (rw [hy416]; exact H) | exact H
   have Ny416 := Aside0.mk hy416
   clear hy416
   obtain rfl := Option.some.inj H
   go_enter Try.func40, Try.ntmps40
   go_wp2_with (first | ((with_reducible refine gate_dst (N := 3) rfl ?_); refine box_event ?hg (N := 3) ?hd (cs := #[.int .i64 a1_0, .int .i64 a1_1, .int .i64 a1_2, .int .i64 a1_3]) (t := 80) ?hr ?_; (case hd => rfl); (case hg => rfl); (case hr => first | (go_simp; done) | (go_simp; rfl)); intro gb403 hg w6 hbox hb; have n0_ := Aside0.mk (below_step (by repeat (first | (with_reducible first | exact HB.out | apply below_alloc | apply pw_below_drewN | apply below_drew1) | exact HB.out)) hb); have n1_ := Aside0.mk (hbox); have n2_ := Aside0.mk ((by rw [hg]; exact (below_size (by repeat (first | (with_reducible first | exact HB.out | apply below_alloc | apply pw_below_drewN | apply below_drew1) | exact HB.out))) : w.heap.size ≤ gb403)); have n3_ := Aside0.mk ((by rw [hg]; exact (below_size (by repeat (first | (with_reducible first | exact HB.out | apply below_alloc | apply pw_below_drewN | apply below_drew1) | exact HB.out))) : w.heap.size ≤ gb403)); clear HB; have HB := n0_; have BK403 := n1_; have GW403 := n2_; have GE403 := n3_; clear n0_ n1_ n2_ n3_; clear hb hbox hg; have hcz7_0 : w6.cell? ⟨gb403, 0, none⟩ = some (.int .i64 a1_0) := (blk_cell BK403.out 0).trans rfl; have hcz7_1 : w6.cell? ⟨gb403, 1, none⟩ = some (.int .i64 a1_1) := (blk_cell BK403.out 1).trans rfl; have hcz7_2 : w6.cell? ⟨gb403, 2, none⟩ = some (.int .i64 a1_2) := (blk_cell BK403.out 2).trans rfl; have hcz7_3 : w6.cell? ⟨gb403, 3, none⟩ = some (.int .i64 a1_3) := (blk_cell BK403.out 3).trans rfl; have hfz7_0 := blk_frozen BK403.out 0; have hfz7_1 := blk_frozen BK403.out 1; have hfz7_2 := blk_frozen BK403.out 2; have hfz7_3 := blk_frozen BK403.out 3) | ((with_reducible refine gate_dst (N := 12) rfl ?_); refine Kd.R_lit k43 _ 43 ?hg (N := 12) ?hd (xs := ([(⟨97, 0, 2, 0, 0⟩ : S43), (⟨53, 0, 0, 5, wrap32 (a1_3)⟩ : S43), (⟨103, 0, 0, 0, 12⟩ : S43)] : List (S43))) (inner := [.int .u8 97, .int .u8 0, .int .u8 2, .int .i16 0, .int .i32 0, .int .u8 53, .int .u8 0, .int .u8 0, .int .i16 5, .int .i32 (wrap32 (a1_3)), .int .u8 103, .int .u8 0, .int .u8 0, .int .i16 0, .int .i32 12]) (ok := fun _ => True) (okp := fun _ => True) ?hr ?hp (fun _ hk => hk) trivial (Below.refl _ _) (Nat.le_refl _) (by simp) ?_; (case hd => rfl); (case hg => rfl); (case hr => first | (go_simp; done) | (go_simp; rfl)); (case hp => exact (Reps.c5 (show Kd.M k43 _ _ _ (⟨97, 0, 2, 0, 0⟩ : S43) [.int .u8 97, .int .u8 0, .int .u8 2, .int .i16 0, .int .i32 0] from (k43_mkM _ _ _ (⟨97, 0, 2, 0, 0⟩ : S43) )) (Reps.c5 (show Kd.M k43 _ _ _ (⟨53, 0, 0, 5, wrap32 (a1_3)⟩ : S43) [.int .u8 53, .int .u8 0, .int .u8 0, .int .i16 5, .int .i32 (wrap32 (a1_3))] from (k43_mkM _ _ _ (⟨53, 0, 0, 5, wrap32 (a1_3)⟩ : S43) )) (Reps.c5 (show Kd.M k43 _ _ _ (⟨103, 0, 0, 0, 12⟩ : S43) [.int .u8 103, .int .u8 0, .int .u8 0, .int .i16 0, .int .i32 12] from (k43_mkM _ _ _ (⟨103, 0, 0, 0, 12⟩ : S43) )) (Reps.none _ _))))); intro v405 w8 ho9 hb hg_ hnew_; clear hg_ hnew_; (first | rw [← Ny404.out] at ho9 | (simp only [Int.reduceToNat] at ho9; rw [← Ny404.out] at ho9)); have n0_ := Aside0.mk (Kd.R_lower ho9 (below_size (by repeat (first | (with_reducible first | exact HB.out | apply below_alloc | apply pw_below_drewN | apply below_drew1 | refine below_set ?_ GE403.out) | exact HB.out)))); have n1_ := Aside0.mk (blk_below (g := gb403) (o := .cells #[.int .i64 a1_0, .int .i64 a1_1, .int .i64 a1_2, .int .i64 a1_3] 80 (0, 0)) (by (with_reducible repeat (first | refine blk_drewN ?_ _ | refine blk_drew ?_ | refine blk_alloc ?_ _)); exact BK403.out) hb); have n2_ := Aside0.mk (below_step (by repeat (first | (with_reducible first | exact HB.out | apply below_alloc | apply pw_below_drewN | apply below_drew1 | refine below_set ?_ GE403.out) | exact HB.out)) hb); clear BK403; clear HB; have HO406 := n0_; have BK403 := n1_; have HB := n2_; clear n0_ n1_ n2_; clear hb ho9) | ((with_reducible refine gate_callee (f := 42) rfl ?_); refine goesL_ (some 18) rfl rfl Try.func42 (by kernel_rfl) rfl #[.int .u8 1, .int .u8 0, .int .u64 (IntKind.u64.wrap (137438953472 + (IntKind.u64.wrap ((IntKind.u64.wrap (a0)) * 4294967296))))] rfl (by (try simp only [List.map_toArray, List.map_cons, List.map_nil]); first | done | rfl | (simp only [List.length_drop, List.length_take]; rfl)) ?_; (with_reducible refine (insn_Split.calls 1 0 (IntKind.u64.wrap (137438953472 + (IntKind.u64.wrap ((IntKind.u64.wrap (a0)) * 4294967296)))) t407 _ A3.out).mono ?_); rintro e w10 ⟨v408, rfl, ho0, hb⟩; refine ⟨_, rfl, ?_⟩; have n0_ := Aside0.mk (Kd.R_elder' (by (with_reducible repeat (first | apply Kd.R_alloc | apply Kd.R_drewN | apply Kd.R_drew)); exact HO406.out) (Kd.R_base ho0) hb); have n1_ := Aside0.mk (Kd.R_lower (Kd.R_new' ho0 (Kd.R_lt (by (with_reducible repeat (first | apply Kd.R_alloc | apply Kd.R_drewN | apply Kd.R_drew)); exact HO406.out))) (below_size (by repeat (first | (with_reducible first | exact HB.out | apply below_alloc | apply pw_below_drewN | apply below_drew1 | refine below_set ?_ GE403.out) | exact HB.out)))); have n2_ := Aside0.mk (blk_below (g := gb403) (o := .cells #[.int .i64 a1_0, .int .i64 a1_1, .int .i64 a1_2, .int .i64 a1_3] 80 (0, 0)) (by (with_reducible repeat (first | refine blk_drewN ?_ _ | refine blk_drew ?_ | refine blk_alloc ?_ _)); exact BK403.out) hb); have n3_ := Aside0.mk (below_step (by repeat (first | (with_reducible first | exact HB.out | apply below_alloc | apply pw_below_drewN | apply below_drew1 | refine below_set ?_ GE403.out) | exact HB.out)) hb); clear HO406; clear BK403; clear HB; have HO406 := n0_; have HO409 := n1_; have BK403 := n2_; have HB := n3_; clear n0_ n1_ n2_ n3_; (try clear hb); (try clear hb2); (try clear hk); (try clear hi); (try clear ho0); obtain ⟨Ao12, co12, eo12⟩ := Kd.R_slice HO409.out; subst eo12) | ((with_reducible refine gate_builtin (b := .append) (xs := #[.tmp 13, .tmp 18]) rfl ?_); at_builtin; refine Kd.R_append_rows k43 (w0 := w) w.heap.size rfl (.tmp 13) (.tmp 18) 22 43 (.agg #[(.int .u8 0), (.int .u8 0), (.int .u8 0), (.int .i16 0), (.int .i32 0)]) 12 rfl Try.underlying22 info43 rfl (by decide) (by omega) v405 y404 t407 _ _ _ (fun k_ => some k_ ≠ (.slice Ao12 t407.length co12 : Value).ownBlock) (fun _ => False) rfl rfl ?aO ?aR (fun _ _ h => h) (fun _ h => h.elim) ?aF ?aB ?aS ?aL ?_; (case aR => repeat (first | exact (Kd.R_reads' HO409.out).2.2 | (with_reducible refine Kd.C_alloc ?_ _) | (with_reducible refine Kd.C_drewN ?_ _) | (with_reducible refine Kd.C_drew ?_))); (case aB => exact (by repeat (first | (with_reducible first | exact HB.out | apply below_alloc | apply pw_below_drewN | apply below_drew1 | refine below_set ?_ GE403.out) | exact HB.out))); (case aF => exact (fun k_ hk => Kd.fresh' (Kd.R_lt (by (with_reducible repeat (first | apply Kd.R_alloc | apply Kd.R_drewN | apply Kd.R_drew)); exact HO409.out)) k_ hk)); (case aO => exact (by (with_reducible repeat (first | apply Kd.R_alloc | apply Kd.R_drewN | apply Kd.R_drew)); exact Kd.R_mono HO406.out (fun _ hk => hk.2))); (case aS => exact (below_size (by repeat (first | (with_reducible first | exact HB.out | apply below_alloc | apply pw_below_drewN | apply below_drew1 | refine below_set ?_ GE403.out) | exact HB.out)))); (case aL => have := LMc4.out; omega); intro v411 w11 ho hb hg hat; rw [← Ny410.out] at ho; have n0_ := Aside0.mk (blk_grown (g := gb403) (o := .cells #[.int .i64 a1_0, .int .i64 a1_1, .int .i64 a1_2, .int .i64 a1_3] 80 (0, 0)) (by (with_reducible repeat (first | refine blk_drewN ?_ _ | refine blk_drew ?_ | refine blk_alloc ?_ _)); exact BK403.out) hg (Kd.R_ne HO406.out BK403.out (by decide))); have n1_ := Aside0.mk (Kd.R_after (ok := (fun _ => True)) (by (with_reducible repeat (first | apply Kd.R_alloc | apply Kd.R_drewN | apply Kd.R_drew)); exact HO409.out) hg hat); have n2_ := Aside0.mk (hb); have n3_ := Aside0.mk (ho); clear BK403; clear HO409; clear HB; clear HO406; have BK403 := n0_; have HO409 := n1_; have HB := n2_; have HO412 := n3_; clear n0_ n1_ n2_ n3_; clear ho hb hg hat) | ((with_reducible refine gate_dst (N := 24) rfl ?_); refine Kd.R_lit k43 _ 43 ?hg (N := 24) ?hd (xs := ([(⟨15, 0, 1, 0, 0⟩ : S43), (⟨5, 0, 0, 1, 0⟩ : S43), (⟨183, 0, 0, 0, 0⟩ : S43)] : List (S43))) (inner := [.int .u8 15, .int .u8 0, .int .u8 1, .int .i16 0, .int .i32 0, .int .u8 5, .int .u8 0, .int .u8 0, .int .i16 1, .int .i32 0, .int .u8 183, .int .u8 0, .int .u8 0, .int .i16 0, .int .i32 0]) (ok := fun _ => True) (okp := fun _ => True) ?hr ?hp (fun _ hk => hk) trivial (Below.refl _ _) (Nat.le_refl _) (by simp) ?_; (case hd => rfl); (case hg => rfl); (case hr => first | (go_simp; done) | (go_simp; rfl)); (case hp => exact (Reps.c5 (show Kd.M k43 _ _ _ (⟨15, 0, 1, 0, 0⟩ : S43) [.int .u8 15, .int .u8 0, .int .u8 1, .int .i16 0, .int .i32 0] from (k43_mkM _ _ _ (⟨15, 0, 1, 0, 0⟩ : S43) )) (Reps.c5 (show Kd.M k43 _ _ _ (⟨5, 0, 0, 1, 0⟩ : S43) [.int .u8 5, .int .u8 0, .int .u8 0, .int .i16 1, .int .i32 0] from (k43_mkM _ _ _ (⟨5, 0, 0, 1, 0⟩ : S43) )) (Reps.c5 (show Kd.M k43 _ _ _ (⟨183, 0, 0, 0, 0⟩ : S43) [.int .u8 183, .int .u8 0, .int .u8 0, .int .i16 0, .int .i32 0] from (k43_mkM _ _ _ (⟨183, 0, 0, 0, 0⟩ : S43) )) (Reps.none _ _))))); intro v414 w13 ho14 hb hg_ hnew_; clear hg_ hnew_; (first | rw [← Ny413.out] at ho14 | (simp only [Int.reduceToNat] at ho14; rw [← Ny413.out] at ho14)); have n0_ := Aside0.mk (Kd.R_elder' (by (with_reducible repeat (first | apply Kd.R_alloc | apply Kd.R_drewN | apply Kd.R_drew)); exact HO409.out) (Kd.R_base ho14) hb); have n1_ := Aside0.mk (Kd.R_elder' (by (with_reducible repeat (first | apply Kd.R_alloc | apply Kd.R_drewN | apply Kd.R_drew)); exact HO412.out) (Kd.R_base ho14) hb); have n2_ := Aside0.mk (Kd.R_lower (Kd.R_new' (Kd.R_new' ho14 (Kd.R_lt (by (with_reducible repeat (first | apply Kd.R_alloc | apply Kd.R_drewN | apply Kd.R_drew)); exact HO409.out))) (Kd.R_lt (by (with_reducible repeat (first | apply Kd.R_alloc | apply Kd.R_drewN | apply Kd.R_drew)); exact HO412.out))) (below_size (by repeat (first | (with_reducible first | exact HB.out | apply below_alloc | apply pw_below_drewN | apply below_drew1 | refine below_set ?_ GE403.out) | exact HB.out)))); have n3_ := Aside0.mk (blk_below (g := gb403) (o := .cells #[.int .i64 a1_0, .int .i64 a1_1, .int .i64 a1_2, .int .i64 a1_3] 80 (0, 0)) (by (with_reducible repeat (first | refine blk_drewN ?_ _ | refine blk_drew ?_ | refine blk_alloc ?_ _)); exact BK403.out) hb); have n4_ := Aside0.mk (below_step (by repeat (first | (with_reducible first | exact HB.out | apply below_alloc | apply pw_below_drewN | apply below_drew1 | refine below_set ?_ GE403.out) | exact HB.out)) hb); clear HO409; clear HO412; clear BK403; clear HB; have HO409 := n0_; have HO412 := n1_; have HO415 := n2_; have BK403 := n3_; have HB := n4_; clear n0_ n1_ n2_ n3_ n4_; clear hb ho14; obtain ⟨Ao16, co16, eo16⟩ := Kd.R_slice HO415.out; subst eo16) | ((with_reducible refine gate_builtin (b := .append) (xs := #[.tmp 20, .tmp 24]) rfl ?_); at_builtin; refine Kd.R_append_rows k43 (w0 := w) w.heap.size rfl (.tmp 20) (.tmp 24) 22 43 (.agg #[(.int .u8 0), (.int .u8 0), (.int .u8 0), (.int .i16 0), (.int .i32 0)]) 12 rfl Try.underlying22 info43 rfl (by decide) (by omega) v411 y410 y413 _ _ _ (fun k_ => some k_ ≠ (.slice Ao12 t407.length co12 : Value).ownBlock ∧ some k_ ≠ (.slice Ao16 y413.length co16 : Value).ownBlock) (fun _ => False) rfl rfl ?aO ?aR (fun _ _ h => h) (fun _ h => h.elim) ?aF ?aB ?aS ?aL ?_; (case aR => repeat (first | exact (Kd.R_reads' HO415.out).2.2 | (with_reducible refine Kd.C_alloc ?_ _) | (with_reducible refine Kd.C_drewN ?_ _) | (with_reducible refine Kd.C_drew ?_))); (case aB => exact (by repeat (first | (with_reducible first | exact HB.out | apply below_alloc | apply pw_below_drewN | apply below_drew1 | refine below_set ?_ GE403.out) | exact HB.out))); (case aF => exact (fun k_ hk => ⟨Kd.fresh' (Kd.R_lt (by (with_reducible repeat (first | apply Kd.R_alloc | apply Kd.R_drewN | apply Kd.R_drew)); exact HO409.out)) k_ hk, Kd.fresh' (Kd.R_lt (by (with_reducible repeat (first | apply Kd.R_alloc | apply Kd.R_drewN | apply Kd.R_drew)); exact HO415.out)) k_ hk⟩)); (case aO => exact (by (with_reducible repeat (first | apply Kd.R_alloc | apply Kd.R_drewN | apply Kd.R_drew)); exact HO412.out)); (case aS => exact (below_size (by repeat (first | (with_reducible first | exact HB.out | apply below_alloc | apply pw_below_drewN | apply below_drew1 | refine below_set ?_ GE403.out) | exact HB.out)))); (case aL => have := LMc5.out; omega); intro v417 w15 ho hb hg hat; rw [← Ny416.out] at ho; have n0_ := Aside0.mk (blk_grown (g := gb403) (o := .cells #[.int .i64 a1_0, .int .i64 a1_1, .int .i64 a1_2, .int .i64 a1_3] 80 (0, 0)) (by (with_reducible repeat (first | refine blk_drewN ?_ _ | refine blk_drew ?_ | refine blk_alloc ?_ _)); exact BK403.out) hg (Kd.R_ne HO412.out BK403.out (by decide))); have n1_ := Aside0.mk (Kd.R_after (ok := (fun k_ => some k_ ≠ (.slice Ao16 y413.length co16 : Value).ownBlock)) (by (with_reducible repeat (first | apply Kd.R_alloc | apply Kd.R_drewN | apply Kd.R_drew)); exact Kd.R_mono HO409.out (fun _ hk => ⟨hk.2, hk.1.2⟩)) hg hat); have n2_ := Aside0.mk (Kd.R_after (ok := (fun k_ => some k_ ≠ (.slice Ao12 t407.length co12 : Value).ownBlock)) (by (with_reducible repeat (first | apply Kd.R_alloc | apply Kd.R_drewN | apply Kd.R_drew)); exact Kd.R_mono HO415.out (fun _ hk => ⟨hk.1.2, hk.2⟩)) hg hat); have n3_ := Aside0.mk (hb); have n4_ := Aside0.mk (ho); clear BK403; clear HO409; clear HO415; clear HB; clear HO412; have BK403 := n0_; have HO409 := n1_; have HO415 := n2_; have HB := n3_; have HO418 := n4_; clear n0_ n1_ n2_ n3_ n4_; clear ho hb hg hat))
   go_ret
   exact ⟨_, by first | rfl | (simp [errW_none, errW_some] <;> rfl) | (simp [*, errW_none, errW_some] <;> rfl), by (with_reducible repeat (first | apply Kd.R_alloc | apply Kd.R_drewN | apply Kd.R_drew)); exact Kd.R_mono HO418.out (fun _ hk => trivial), by repeat (first | (with_reducible first | exact HB.out | apply below_alloc | apply pw_below_drewN | apply below_drew1 | refine below_set ?_ GE403.out) | exact HB.out)⟩
  ·
   rw [if_neg c5] at H
   exact absurd H (by simp)
 ·
  rw [if_neg c4] at H
  exact absurd H (by simp)

/-! ### insn_Long: function 41 -/
def insn_Long.f (a0_0 : Int) (a0_1 : Int) (a0_2 : Int) (a0_3 : Int) (a0_4 : Int) (a1_0 : Int) (a1_1 : Int) (a1_2 : Int) (a1_3 : Int) (a1_4 : Int) : Option (Int) := some (Go.bits .or .u64 ((a0_4) % 4294967296) (((a1_4) % 4294967296) * 4294967296))
set_option maxHeartbeats 8000000 in
set_option maxRecDepth 100000 in
theorem insn_Long.calls (a0_0 : Int) (a0_1 : Int) (a0_2 : Int) (a0_3 : Int) (a0_4 : Int) (a1_0 : Int) (a1_1 : Int) (a1_2 : Int) (a1_3 : Int) (a1_4 : Int) (r : Int) (w : World) (h : insn_Long.f a0_0 a0_1 a0_2 a0_3 a0_4 a1_0 a1_1 a1_2 a1_3 a1_4 = some r) :
  Calls Try.prog 41 #[.agg #[.int .u8 a0_0, .int .u8 a0_1, .int .u8 a0_2, .int .i16 a0_3, .int .i32 a0_4], .agg #[.int .u8 a1_0, .int .u8 a1_1, .int .u8 a1_2, .int .i16 a1_3, .int .i32 a1_4]] w fun e w' => e = .returned (.int .u64 r) ∧ Below w.heap.size w w' := by
 have hu43 := Try.underlying43
 have HB := Aside0.mk (Below.refl w.heap.size w)
 have H : (some (Go.bits .or .u64 ((a0_4) % 4294967296) (((a1_4) % 4294967296) * 4294967296))) = some r := h
 clear h
 obtain rfl := Option.some.inj H
 go_enter Try.func41, Try.ntmps41
 go_wp2_with (first | ((with_reducible refine gate_dst (N := 2) rfl ?_); refine box_event ?hg (N := 2) ?hd (cs := #[.int .u8 a0_0, .int .u8 a0_1, .int .u8 a0_2, .int .i16 a0_3, .int .i32 a0_4]) (t := 43) ?hr ?_; (case hd => rfl); (case hg => rfl); (case hr => first | (go_simp; done) | (go_simp; rfl)); intro gb419 hg w3 hbox hb; have n0_ := Aside0.mk (below_step (by repeat (first | (with_reducible first | exact HB.out | apply below_alloc | apply pw_below_drewN | apply below_drew1) | exact HB.out)) hb); have n1_ := Aside0.mk (hbox); have n2_ := Aside0.mk ((by rw [hg]; exact (below_size (by repeat (first | (with_reducible first | exact HB.out | apply below_alloc | apply pw_below_drewN | apply below_drew1) | exact HB.out))) : w.heap.size ≤ gb419)); have n3_ := Aside0.mk ((by rw [hg]; exact (below_size (by repeat (first | (with_reducible first | exact HB.out | apply below_alloc | apply pw_below_drewN | apply below_drew1) | exact HB.out))) : w.heap.size ≤ gb419)); clear HB; have HB := n0_; have BK419 := n1_; have GW419 := n2_; have GE419 := n3_; clear n0_ n1_ n2_ n3_; clear hb hbox hg) | ((with_reducible refine gate_dst (N := 3) rfl ?_); refine box_event ?hg (N := 3) ?hd (cs := #[.int .u8 a1_0, .int .u8 a1_1, .int .u8 a1_2, .int .i16 a1_3, .int .i32 a1_4]) (t := 43) ?hr ?_; (case hd => rfl); (case hg => rfl); (case hr => first | (go_simp; done) | (go_simp; rfl)); intro gb420 hg w4 hbox hb; have n0_ := Aside0.mk (blk_below (g := gb419) (o := .cells #[.int .u8 a0_0, .int .u8 a0_1, .int .u8 a0_2, .int .i16 a0_3, .int .i32 a0_4] 43 (0, 0)) (by (with_reducible repeat (first | refine blk_drewN ?_ _ | refine blk_drew ?_ | refine blk_alloc ?_ _)); exact BK419.out) hb); have n1_ := Aside0.mk (below_step (by repeat (first | (with_reducible first | exact HB.out | apply below_alloc | apply pw_below_drewN | apply below_drew1 | refine below_set ?_ GE419.out) | exact HB.out)) hb); have n2_ := Aside0.mk (hbox); have n3_ := Aside0.mk ((by rw [hg]; exact (below_size (by repeat (first | (with_reducible first | exact HB.out | apply below_alloc | apply pw_below_drewN | apply below_drew1 | refine below_set ?_ GE419.out) | exact HB.out))) : w.heap.size ≤ gb420)); have n4_ := Aside0.mk ((by rw [hg]; exact (below_size (by repeat (first | (with_reducible first | exact HB.out | apply below_alloc | apply pw_below_drewN | apply below_drew1 | refine below_set ?_ GE419.out) | exact HB.out))) : w.heap.size ≤ gb420)); have n5_ := Aside0.mk ((by rw [hg]; exact Nat.ne_of_lt (blk_lt (g := gb419) (o := .cells #[.int .u8 a0_0, .int .u8 a0_1, .int .u8 a0_2, .int .i16 a0_3, .int .i32 a0_4] 43 (0, 0)) (by (with_reducible repeat (first | refine blk_drewN ?_ _ | refine blk_drew ?_ | refine blk_alloc ?_ _)); exact BK419.out)) : gb419 ≠ gb420)); have n6_ := Aside0.mk ((by rw [hg]; exact Nat.ne_of_gt (blk_lt (g := gb419) (o := .cells #[.int .u8 a0_0, .int .u8 a0_1, .int .u8 a0_2, .int .i16 a0_3, .int .i32 a0_4] 43 (0, 0)) (by (with_reducible repeat (first | refine blk_drewN ?_ _ | refine blk_drew ?_ | refine blk_alloc ?_ _)); exact BK419.out)) : gb420 ≠ gb419)); clear BK419; clear HB; have BK419 := n0_; have HB := n1_; have BK420 := n2_; have GW420 := n3_; have GE420 := n4_; have NB419_420 := n5_; have NB420_419 := n6_; clear n0_ n1_ n2_ n3_ n4_ n5_ n6_; clear hb hbox hg; have hnb5 := NB419_420.out; have hnc5 := NB420_419.out; have hcz6_0 : w4.cell? ⟨gb419, 0, none⟩ = some (.int .u8 a0_0) := (blk_cell BK419.out 0).trans rfl; have hcz6_1 : w4.cell? ⟨gb419, 1, none⟩ = some (.int .u8 a0_1) := (blk_cell BK419.out 1).trans rfl; have hcz6_2 : w4.cell? ⟨gb419, 2, none⟩ = some (.int .u8 a0_2) := (blk_cell BK419.out 2).trans rfl; have hcz6_3 : w4.cell? ⟨gb419, 3, none⟩ = some (.int .i16 a0_3) := (blk_cell BK419.out 3).trans rfl; have hcz6_4 : w4.cell? ⟨gb419, 4, none⟩ = some (.int .i32 a0_4) := (blk_cell BK419.out 4).trans rfl; have hfz6_0 := blk_frozen BK419.out 0; have hfz6_1 := blk_frozen BK419.out 1; have hfz6_2 := blk_frozen BK419.out 2; have hfz6_3 := blk_frozen BK419.out 3; have hfz6_4 := blk_frozen BK419.out 4; have hcz7_0 : w4.cell? ⟨gb420, 0, none⟩ = some (.int .u8 a1_0) := (blk_cell BK420.out 0).trans rfl; have hcz7_1 : w4.cell? ⟨gb420, 1, none⟩ = some (.int .u8 a1_1) := (blk_cell BK420.out 1).trans rfl; have hcz7_2 : w4.cell? ⟨gb420, 2, none⟩ = some (.int .u8 a1_2) := (blk_cell BK420.out 2).trans rfl; have hcz7_3 : w4.cell? ⟨gb420, 3, none⟩ = some (.int .i16 a1_3) := (blk_cell BK420.out 3).trans rfl; have hcz7_4 : w4.cell? ⟨gb420, 4, none⟩ = some (.int .i32 a1_4) := (blk_cell BK420.out 4).trans rfl; have hfz7_0 := blk_frozen BK420.out 0; have hfz7_1 := blk_frozen BK420.out 1; have hfz7_2 := blk_frozen BK420.out 2; have hfz7_3 := blk_frozen BK420.out 3; have hfz7_4 := blk_frozen BK420.out 4))
 go_ret
 exact ⟨by first | rfl | (simp [errW_none, errW_some] <;> rfl) | (simp [*, errW_none, errW_some] <;> rfl), by repeat (first | (with_reducible first | exact HB.out | apply below_alloc | apply pw_below_drewN | apply below_drew1 | refine below_set ?_ GE419.out | refine below_set ?_ GE420.out) | exact HB.out)⟩

end Go.Proofs.Ytmijlibnembkaaa.PA
