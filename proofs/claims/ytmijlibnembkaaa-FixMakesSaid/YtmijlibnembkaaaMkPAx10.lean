-- Printed by wip/tools/extprint.py over the kit's printer, with contracts of this session's own. Lean checks it.
import Derived.Test.YtmijlibnembkaaaMkPAx0
import Derived.Test.YtmijlibnembkaaaMkPAx3
import Derived.Test.YtmijlibnembkaaaMkPAx6
import Derived.Test.YtmijlibnembkaaaMkPAx8
namespace Go.Proofs.Ytmijlibnembkaaa.PA
open Go.RowKit Go.Proofs.YtmijlibnembkaaaW.PrintWords Go.Proofs.YtmijlibnembkaaaW.PrintLast Go.Proofs.YtmijlibnembkaaaW.PrintMore
attribute [local go_sem] max2_int min2_int max_two min_two max_three min_three max_four min_four   -- for this text's walks alone
set_option linter.unusedVariables false
set_option maxHeartbeats 8000000
set_option maxRecDepth 100000
set_option linter.unusedSimpArgs false

/-! ### shape_Target: function 17 -/
def shape_Target.f (k : Nat) (l0 : List (S43)) (a1 : Int) : Option (Int × Bool) := if a1 < 0 then (some (0, false)) else (if a1 ≥ (l0.length : Int) then (some (0, false)) else ((shape_Starts.f k l0).bind fun t186 => (if 0 ≤ a1 then (if a1 < (t186.length : Int) then (if rdOf false t186 a1 = true then ((shape_target.f k l0 a1).bind fun bt190 => (some (bt190.1, bt190.2))) else (some (0, false))) else (none)) else (none))))
theorem shape_Target.mono : ∀ a0 a1 k, LeO (shape_Target.f k a0 a1) (shape_Target.f (k + 1) a0 a1) := by
 intro a0 a1 k
 unfold shape_Target.f
 repeat' (with_reducible first | apply shape_Starts.mono | apply shape_target.mono | exact LeO.refl _ | exact LeO.none _ | refine LeO.ite ?_ ?_ | refine LeO.bind ?_ (fun _ => ?_))
theorem shape_Target.calls (k : Nat) (A0 : Option Addr) (c0 : Nat) (l0 : List (S43)) (a1 : Int) (r1 : Int) (r2 : Bool) (w : World) (hr0 : Kd.C k43 w A0 l0.length l0) (hc0 : l0.length ≤ c0) (h : shape_Target.f k l0 a1 = some (r1, r2)) :
  Calls Try.prog 17 #[.slice A0 l0.length c0, .int .i64 a1] w fun e w' => e = .returned (.tuple #[.int .i64 r1, .bool r2]) ∧ Below w.heap.size w w' := by
 have HR0 := Aside0.mk hr0; have HC0 := Aside0.mk hc0; clear hr0 hc0; have HB := Aside0.mk (Below.refl w.heap.size w); have H : (if a1 < 0 then (some (0, false)) else (if a1 ≥ (l0.length : Int) then (some (0, false)) else ((shape_Starts.f k l0).bind fun t186 => (if 0 ≤ a1 then (if a1 < (t186.length : Int) then (if rdOf false t186 a1 = true then ((shape_target.f k l0 a1).bind fun bt190 => (some (bt190.1, bt190.2))) else (some (0, false))) else (none)) else (none))))) = some (r1, r2) := h; clear h
 by_cases c3 : a1 < 0
 ·
  rw [if_pos c3] at H
  have c3b0 := decide_eq_true c3; clear c3; simp only [Option.some.injEq, Prod.mk.injEq] at H; obtain ⟨rfl, rfl⟩ := H; go_enter Try.func17, Try.ntmps17
  go_wp2; go_ret2
  exact ⟨rr_, bl_ HB.out⟩
 ·
  rw [if_neg c3] at H
  have c3b0 := decide_eq_false c3; clear c3
  by_cases c4 : a1 ≥ (l0.length : Int)
  ·
   rw [if_pos c4] at H
   have c4b0 := decide_eq_true c4; clear c4; simp only [Option.some.injEq, Prod.mk.injEq] at H; obtain ⟨rfl, rfl⟩ := H; go_enter Try.func17, Try.ntmps17
   go_wp2; go_ret2
   exact ⟨rr_, bl_ HB.out⟩
  ·
   rw [if_neg c4] at H
   have c4b0 := decide_eq_false c4; clear c4; replace H := bs_ H; obtain ⟨t186, A5, H⟩ := H; (try dsimp only at H)
   by_cases c6 : 0 ≤ a1
   ·
    rw [if_pos c6] at H
    have c6b0 := decide_eq_true c6; clear c6
    by_cases c7 : a1 < (t186.length : Int)
    ·
     rw [if_pos c7] at H
     have c7b0 := decide_eq_true c7; clear c7; obtain ⟨bq8, hbq8⟩ : ∃ b_ : Bool, b_ = (rdOf false t186 a1) := ⟨_, rfl⟩; rw [← hbq8] at H; have Nbq8 := Aside0.mk hbq8; clear hbq8
     by_cases c9 : bq8 = true
     ·
      subst c9
      rw [if_pos rfl] at H; replace H := bs_ H; obtain ⟨⟨t190, t191⟩, A10, H⟩ := H; (try dsimp only at H); simp only [Option.some.injEq, Prod.mk.injEq] at H; obtain ⟨rfl, rfl⟩ := H; go_enter Try.func17, Try.ntmps17
      go_wp2_with (first | (go_at_call 22; (with_reducible refine (shape_Starts.calls k _ _ l0 t186 _ ?side1 ?side2 A5.out).mono ?_); (case side1 => repeat (first | exact HR0.out | (with_reducible refine Kd.C_alloc ?_ _) | (with_reducible refine Kd.C_drewN ?_ _) | (with_reducible refine Kd.C_drew ?_))); (case side2 => exact HC0.out); rintro e w11 ⟨v187, rfl, ho0, hb⟩; have n_ : _ ∧ _ := ⟨k_ (Kd.R_lower ho0 (below_size (bl_ HB.out))), k_ (below_step (bl_ HB.out) hb)⟩; clear HB; obtain ⟨HO188, HB⟩ := n_; clear hb; clear ho0; obtain ⟨Ao12, co12, eo12⟩ := Kd.R_slice HO188.out; subst eo12; have p189 : 0 ≤ (a1 : Int) := of_decide_eq_true as_; have q189 : a1 < (t186.length : Int) := of_decide_eq_true as_; obtain ⟨ad189, e189, hx189_0⟩ := Kd.at_bool (Kd.R_reads' HO188.out).2.2 a1 p189 q189; (try rw [← Nbq8.out] at hx189_0); cases e189; replace p189 := eq_true p189; replace q189 := eq_true q189) | ((with_reducible refine gate_callee (f := 30) rfl ?_); refine goesL_ (some 24) rfl rfl Try.func30 (by kernel_rfl) rfl #[.slice A0 l0.length c0, .int .i64 a1] rfl am_ ?_; (with_reducible refine (shape_target.calls k _ _ l0 a1 t190 t191 _ ?side1 ?side2 A10.out).mono ?_); (case side1 => exact cb_ (Kd.C_below HR0.out HB.out)); (case side2 => exact HC0.out); rintro e w13 ⟨rfl, hb⟩; refine ⟨_, rfl, ?_⟩; have n_ : _ ∧ _ := ⟨k_ (Kd.R_below (mv_ HO188.out) hb), k_ (below_step (bl_ HB.out) hb)⟩; clear HO188 HB; obtain ⟨HO188, HB⟩ := n_; clear hb))
      go_ret2
      exact ⟨rr_, bl_ HB.out⟩
     ·
      replace c9 := Bool.eq_false_iff.mpr c9
      subst c9; rw [if_neg (show ¬ (false = true) by decide)] at H; simp only [Option.some.injEq, Prod.mk.injEq] at H; obtain ⟨rfl, rfl⟩ := H; go_enter Try.func17, Try.ntmps17
      go_wp2_with (first | (go_at_call 22; (with_reducible refine (shape_Starts.calls k _ _ l0 t186 _ ?side1 ?side2 A5.out).mono ?_); (case side1 => repeat (first | exact HR0.out | (with_reducible refine Kd.C_alloc ?_ _) | (with_reducible refine Kd.C_drewN ?_ _) | (with_reducible refine Kd.C_drew ?_))); (case side2 => exact HC0.out); rintro e w14 ⟨v187, rfl, ho0, hb⟩; have n_ : _ ∧ _ := ⟨k_ (Kd.R_lower ho0 (below_size (bl_ HB.out))), k_ (below_step (bl_ HB.out) hb)⟩; clear HB; obtain ⟨HO188, HB⟩ := n_; clear hb; clear ho0; obtain ⟨Ao15, co15, eo15⟩ := Kd.R_slice HO188.out; subst eo15; have p189 : 0 ≤ (a1 : Int) := of_decide_eq_true as_; have q189 : a1 < (t186.length : Int) := of_decide_eq_true as_; obtain ⟨ad189, e189, hx189_0⟩ := Kd.at_bool (Kd.R_reads' HO188.out).2.2 a1 p189 q189; (try rw [← Nbq8.out] at hx189_0); cases e189; replace p189 := eq_true p189; replace q189 := eq_true q189))
      go_ret2
      exact ⟨rr_, bl_ HB.out⟩
    ·
     rw [if_neg c7] at H
     exact absurd H (by simp)
   ·
    rw [if_neg c6] at H
    exact absurd H (by simp)

/-! ### fix_context: function 38 -/
def fix_context.f (a0 : Int) : Option (Int × Bool) := if a0 = 0 then (some (8, true)) else (if a0 = 8 then (some (16, true)) else (if a0 = 16 then (some (0, true)) else (if a0 = 20 then (some (4, true)) else (some (0, false)))))
theorem fix_context.calls (a0 : Int) (r1 : Int) (r2 : Bool) (w : World) (h : fix_context.f a0 = some (r1, r2)) :
  Calls Try.prog 38 #[.int .i16 a0] w fun e w' => e = .returned (.tuple #[.int .i16 r1, .bool r2]) ∧ Drawn0 w w' := by
 have H : (if a0 = 0 then (some (8, true)) else (if a0 = 8 then (some (16, true)) else (if a0 = 16 then (some (0, true)) else (if a0 = 20 then (some (4, true)) else (some (0, false)))))) = some (r1, r2) := h; clear h
 by_cases c2 : a0 = 0
 ·
  rw [if_pos c2] at H
  have ⟨c2b0, c2b1⟩ := eqb_ c2; clear c2; simp only [Option.some.injEq, Prod.mk.injEq] at H; obtain ⟨rfl, rfl⟩ := H; go_enter Try.func38, Try.ntmps38
  go_wp2; go_ret2
  exact ⟨by first | rfl | (simp; done) | (simp [*]; done), dr_⟩
 ·
  rw [if_neg c2] at H
  have ⟨c2b0, c2b1⟩ := nqb_ c2
  by_cases c3 : a0 = 8
  ·
   rw [if_pos c3] at H
   have ⟨c3b0, c3b1⟩ := eqb_ c3; clear c3; simp only [Option.some.injEq, Prod.mk.injEq] at H; obtain ⟨rfl, rfl⟩ := H; go_enter Try.func38, Try.ntmps38
   go_wp2; go_ret2
   exact ⟨by first | rfl | (simp; done) | (simp [*]; done), dr_⟩
  ·
   rw [if_neg c3] at H
   have ⟨c3b0, c3b1⟩ := nqb_ c3
   by_cases c4 : a0 = 16
   ·
    rw [if_pos c4] at H
    have ⟨c4b0, c4b1⟩ := eqb_ c4; clear c4; simp only [Option.some.injEq, Prod.mk.injEq] at H; obtain ⟨rfl, rfl⟩ := H; go_enter Try.func38, Try.ntmps38
    go_wp2; go_ret2
    exact ⟨by first | rfl | (simp; done) | (simp [*]; done), dr_⟩
   ·
    rw [if_neg c4] at H
    have ⟨c4b0, c4b1⟩ := nqb_ c4
    by_cases c5 : a0 = 20
    ·
     rw [if_pos c5] at H
     have ⟨c5b0, c5b1⟩ := eqb_ c5; clear c5; simp only [Option.some.injEq, Prod.mk.injEq] at H; obtain ⟨rfl, rfl⟩ := H; go_enter Try.func38, Try.ntmps38
     go_wp2; go_ret2
     exact ⟨by first | rfl | (simp; done) | (simp [*]; done), dr_⟩
    ·
     rw [if_neg c5] at H
     have ⟨c5b0, c5b1⟩ := nqb_ c5; simp only [Option.some.injEq, Prod.mk.injEq] at H; obtain ⟨rfl, rfl⟩ := H; go_enter Try.func38, Try.ntmps38
     go_wp2; go_ret2
     exact ⟨by first | rfl | (simp; done) | (simp [*]; done), dr_⟩

/-! ### insn_Size: function 39 -/
def insn_Size.tab (v : Int) : Option Int := if v = 0 then some 4 else if v = 1 then some 2 else if v = 2 then some 1 else if v = 3 then some 8 else none
def insn_Size.f (k : Nat) (a0 : Int) : Option (Int) := (insn_Class.f a0).bind fun c => if c < 1 then some 0 else if c > 3 then some 0 else (insn_Known.f k a0).bind fun b => if b = true then insn_Size.tab (Go.bits .and .u8 (a0 / 8) 3) else some 0
theorem insn_Size.mono : ∀ a0 k, LeO (insn_Size.f k a0) (insn_Size.f (k + 1) a0) := by
 intro a0 k
 unfold insn_Size.f
 repeat' (with_reducible first | exact LeO.refl _ | apply insn_Known.mono | refine LeO.ite ?_ ?_ | refine LeO.bind ?_ (fun _ => ?_))
set_option maxHeartbeats 1000000 in
theorem insn_Size.there (k : Nat) (a0 c v r : Int) (w : World) (hc : insn_Class.f a0 = some c) (c1 : ¬ c < 1) (c2 : ¬ c > 3) (hb : insn_Known.f k a0 = some true) (hv : Go.bits .and .u8 (a0 / 8) 3 = v)
  (hrun : ∀ W, (Instr.index 96 (.agg #[.int .i64 4, .int .i64 2, .int .i64 1, .int .i64 8]) (.int .u8 v)).run Try.prog W = .ok (.int .i64 r) W) :
  Calls Try.prog 39 #[.int .u8 a0] w fun e w' => e = .returned (.int .i64 r) ∧ Below w.heap.size w w' := by
 have HC := Aside0.mk hc; have HK := Aside0.mk hb; have c1b := decide_eq_false c1; have c2b := decide_eq_false c2; clear hc hb c1 c2; go_enter Try.func39, Try.ntmps39
 go_wp2_with (first | (go_at_call 48; (with_reducible refine (insn_Class.calls a0 c _ HC.out).mono ?_); rintro e w' ⟨rfl, ⟨q, rfl⟩⟩) | (go_at_call 46; (with_reducible refine (insn_Known.calls k a0 true _ HK.out).mono ?_); rintro e w' ⟨rfl, ⟨q, rfl⟩⟩))
 go_ret
 exact ⟨rfl, by repeat (first | exact Below.refl _ _ | apply below_alloc | apply pw_below_drewN | apply below_drew1)⟩
set_option maxHeartbeats 1000000 in
theorem insn_Size.calls (k : Nat) (a0 : Int) (r : Int) (w : World) (h : insn_Size.f k a0 = some r) :
  Calls Try.prog 39 #[.int .u8 a0] w fun e w' => e = .returned (.int .i64 r) ∧ Below w.heap.size w w' := by
 simp only [insn_Size.f] at h; obtain ⟨c, hc, h⟩ := Option.bind_eq_some_iff.mp h
 by_cases c1 : c < 1
 ·
  rw [if_pos c1] at h
  obtain rfl := Option.some.inj h; have HC := Aside0.mk hc; have c1b := decide_eq_true c1; clear hc c1 h; go_enter Try.func39, Try.ntmps39
  go_wp2_with (go_at_call 48; (with_reducible refine (insn_Class.calls a0 c _ HC.out).mono ?_); rintro e w' ⟨rfl, ⟨q, rfl⟩⟩)
  go_ret
  exact ⟨rfl, by repeat (first | exact Below.refl _ _ | apply below_alloc | apply pw_below_drewN | apply below_drew1)⟩
 rw [if_neg c1] at h
 by_cases c2 : c > 3
 ·
  rw [if_pos c2] at h
  obtain rfl := Option.some.inj h; have HC := Aside0.mk hc; have c1b := decide_eq_false c1; have c2b := decide_eq_true c2; clear hc c1 c2 h; go_enter Try.func39, Try.ntmps39
  go_wp2_with (go_at_call 48; (with_reducible refine (insn_Class.calls a0 c _ HC.out).mono ?_); rintro e w' ⟨rfl, ⟨q, rfl⟩⟩)
  go_ret
  exact ⟨rfl, by repeat (first | exact Below.refl _ _ | apply below_alloc | apply pw_below_drewN | apply below_drew1)⟩
 rw [if_neg c2] at h; obtain ⟨b, hb, h⟩ := Option.bind_eq_some_iff.mp h
 cases b with
 | false =>
  rw [if_neg (by decide)] at h; obtain rfl := Option.some.inj h; have HC := Aside0.mk hc; have HK := Aside0.mk hb; have c1b := decide_eq_false c1; have c2b := decide_eq_false c2; clear hc hb c1 c2 h; go_enter Try.func39, Try.ntmps39
  go_wp2_with (first | (go_at_call 48; (with_reducible refine (insn_Class.calls a0 c _ HC.out).mono ?_); rintro e w' ⟨rfl, ⟨q, rfl⟩⟩) | (go_at_call 46; (with_reducible refine (insn_Known.calls k a0 false _ HK.out).mono ?_); rintro e w' ⟨rfl, ⟨q, rfl⟩⟩))
  go_ret
  exact ⟨rfl, by repeat (first | exact Below.refl _ _ | apply below_alloc | apply pw_below_drewN | apply below_drew1)⟩
 | true =>
  rw [if_pos rfl] at h
  unfold insn_Size.tab at h
  by_cases v0 : Go.bits .and .u8 (a0 / 8) 3 = 0
  ·
   rw [if_pos v0] at h; obtain rfl := Option.some.inj h; exact insn_Size.there k a0 c 0 4 w hc c1 c2 hb v0 (fun W => by kernel_rfl)
  rw [if_neg v0] at h
  by_cases v1 : Go.bits .and .u8 (a0 / 8) 3 = 1
  ·
   rw [if_pos v1] at h; obtain rfl := Option.some.inj h; exact insn_Size.there k a0 c 1 2 w hc c1 c2 hb v1 (fun W => by kernel_rfl)
  rw [if_neg v1] at h
  by_cases v2 : Go.bits .and .u8 (a0 / 8) 3 = 2
  ·
   rw [if_pos v2] at h; obtain rfl := Option.some.inj h; exact insn_Size.there k a0 c 2 1 w hc c1 c2 hb v2 (fun W => by kernel_rfl)
  rw [if_neg v2] at h
  by_cases v3 : Go.bits .and .u8 (a0 / 8) 3 = 3
  ·
   rw [if_pos v3] at h; obtain rfl := Option.some.inj h; exact insn_Size.there k a0 c 3 8 w hc c1 c2 hb v3 (fun W => by kernel_rfl)
  rw [if_neg v3] at h
  cases h

/-! ### insn_Split: function 42 -/
def insn_Split.f (a0 : Int) (a1 : Int) (a2 : Int) : Option ((List (S43))) := some (([(⟨24, a0, a1, 0, wrap32 ((a2) % 4294967296)⟩ : S43), (⟨0, 0, 0, 0, wrap32 ((a2 / 4294967296) % 4294967296)⟩ : S43)] : List (S43)))
theorem insn_Split.calls (a0 : Int) (a1 : Int) (a2 : Int) (r : List (S43)) (w : World) (h : insn_Split.f a0 a1 a2 = some r) :
  Calls Try.prog 42 #[.int .u8 a0, .int .u8 a1, .int .u64 a2] w fun e w' => ∃ v0_ : Value, e = .returned (v0_) ∧ Kd.R k43 43 w' w.heap.size (fun _ => True) v0_ r ∧ Below w.heap.size w w' := by
 have hu43 := Try.underlying43; have HB := Aside0.mk (Below.refl w.heap.size w); have H : (some (([(⟨24, a0, a1, 0, wrap32 ((a2) % 4294967296)⟩ : S43), (⟨0, 0, 0, 0, wrap32 ((a2 / 4294967296) % 4294967296)⟩ : S43)] : List (S43)))) = some r := h; clear h; obtain ⟨y192, hy192⟩ : ∃ y_ : List (S43), y_ = (([(⟨24, a0, a1, 0, wrap32 ((a2) % 4294967296)⟩ : S43), (⟨0, 0, 0, 0, wrap32 ((a2 / 4294967296) % 4294967296)⟩ : S43)] : List (S43))) := ⟨_, rfl⟩; (first | rw [Option.bind_some, ← hy192] at H | rw [Option.bind_some] at H | rw [← hy192] at H | skip); have Ny192 := Aside0.mk hy192; clear hy192; obtain rfl := Option.some.inj H; go_enter Try.func42, Try.ntmps42
 go_wp2_with (first | ((with_reducible refine gate_dst (N := 18) rfl ?_); refine Kd.R_lit k43 _ 43 ?hg (N := 18) ?hd (xs := ([(⟨24, a0, a1, 0, wrap32 ((a2) % 4294967296)⟩ : S43), (⟨0, 0, 0, 0, wrap32 ((a2 / 4294967296) % 4294967296)⟩ : S43)] : List (S43))) (inner := [.int .u8 24, .int .u8 a0, .int .u8 a1, .int .i16 0, .int .i32 (wrap32 ((a2) % 4294967296)), .int .u8 0, .int .u8 0, .int .u8 0, .int .i16 0, .int .i32 (wrap32 ((a2 / 4294967296) % 4294967296))]) (ok := fun _ => True) (okp := fun _ => True) ?hr ?hp (fun _ hk => hk) trivial (Below.refl _ _) (Nat.le_refl _) (by simp) ?_; (case hd => rfl); (case hg => rfl); (case hr => first | (go_simp; done) | (go_simp; rfl)); (case hp => exact (Reps.c5 (show Kd.M k43 _ _ _ (⟨24, a0, a1, 0, wrap32 ((a2) % 4294967296)⟩ : S43) [.int .u8 24, .int .u8 a0, .int .u8 a1, .int .i16 0, .int .i32 (wrap32 ((a2) % 4294967296))] from (k43_mkM _ _ _ (⟨24, a0, a1, 0, wrap32 ((a2) % 4294967296)⟩ : S43) )) (Reps.c5 (show Kd.M k43 _ _ _ (⟨0, 0, 0, 0, wrap32 ((a2 / 4294967296) % 4294967296)⟩ : S43) [.int .u8 0, .int .u8 0, .int .u8 0, .int .i16 0, .int .i32 (wrap32 ((a2 / 4294967296) % 4294967296))] from (k43_mkM _ _ _ (⟨0, 0, 0, 0, wrap32 ((a2 / 4294967296) % 4294967296)⟩ : S43) )) (Reps.none _ _)))); intro v193 w4 ho5 hb hg_ hnew_; clear hg_ hnew_; (first | rw [← Ny192.out] at ho5 | (simp only [Int.reduceToNat] at ho5; rw [← Ny192.out] at ho5)); have n_ : _ ∧ _ := ⟨k_ (Kd.R_lower ho5 (below_size (bl_ HB.out))), k_ (below_step (bl_ HB.out) hb)⟩; clear HB; obtain ⟨HO194, HB⟩ := n_; clear hb ho5))
 go_ret
 exact ⟨_, rr_, mv_ HO194.out, bl_ HB.out⟩

/-! ### fix_lookup: function 40 -/
def fix_lookup.f (a0 : Int) (a1_0 : Int) (a1_1 : Int) (a1_2 : Int) (a1_3 : Int) : Option ((List (S43))) := (some (([(⟨97, 0, 2, 0, 0⟩ : S43), (⟨53, 0, 0, 5, wrap32 (a1_3)⟩ : S43), (⟨103, 0, 0, 0, 12⟩ : S43)] : List (S43)) : List (S43))).bind fun y196 => ((insn_Split.f 1 0 (IntKind.u64.wrap (137438953472 + (IntKind.u64.wrap ((IntKind.u64.wrap (a0)) * 4294967296))))).bind fun t199 => (if y196.length + t199.length < 11728124029610 then ((some (y196 ++ t199 : List (S43))).bind fun y202 => ((some (([(⟨15, 0, 1, 0, 0⟩ : S43), (⟨5, 0, 0, 1, 0⟩ : S43), (⟨183, 0, 0, 0, 0⟩ : S43)] : List (S43)) : List (S43))).bind fun y205 => (if y202.length + y205.length < 11728124029610 then (some (y202 ++ y205)) else (none)))) else (none)))
theorem fix_lookup.calls (a0 : Int) (a1_0 : Int) (a1_1 : Int) (a1_2 : Int) (a1_3 : Int) (r : List (S43)) (w : World) (h : fix_lookup.f a0 a1_0 a1_1 a1_2 a1_3 = some r) :
  Calls Try.prog 40 #[.int .i64 a0, .agg #[.int .i64 a1_0, .int .i64 a1_1, .int .i64 a1_2, .int .i64 a1_3]] w fun e w' => ∃ v0_ : Value, e = .returned (v0_) ∧ Kd.R k43 43 w' w.heap.size (fun _ => True) v0_ r ∧ Below w.heap.size w w' := by
 have hu80 := Try.underlying80; have hu43 := Try.underlying43; have HB := Aside0.mk (Below.refl w.heap.size w); have H : ((some (([(⟨97, 0, 2, 0, 0⟩ : S43), (⟨53, 0, 0, 5, wrap32 (a1_3)⟩ : S43), (⟨103, 0, 0, 0, 12⟩ : S43)] : List (S43)) : List (S43))).bind fun y196 => ((insn_Split.f 1 0 (IntKind.u64.wrap (137438953472 + (IntKind.u64.wrap ((IntKind.u64.wrap (a0)) * 4294967296))))).bind fun t199 => (if y196.length + t199.length < 11728124029610 then ((some (y196 ++ t199 : List (S43))).bind fun y202 => ((some (([(⟨15, 0, 1, 0, 0⟩ : S43), (⟨5, 0, 0, 1, 0⟩ : S43), (⟨183, 0, 0, 0, 0⟩ : S43)] : List (S43)) : List (S43))).bind fun y205 => (if y202.length + y205.length < 11728124029610 then (some (y202 ++ y205)) else (none)))) else (none)))) = some r := h; clear h; obtain ⟨y196, hy196⟩ : ∃ y_ : List (S43), y_ = (([(⟨97, 0, 2, 0, 0⟩ : S43), (⟨53, 0, 0, 5, wrap32 (a1_3)⟩ : S43), (⟨103, 0, 0, 0, 12⟩ : S43)] : List (S43))) := ⟨_, rfl⟩; (first | rw [Option.bind_some, ← hy196] at H | rw [Option.bind_some] at H | rw [← hy196] at H | skip); have Ny196 := Aside0.mk hy196; clear hy196; replace H := bs_ H; obtain ⟨t199, A3, H⟩ := H; (try dsimp only at H)
 by_cases c4 : y196.length + t199.length < 11728124029610
 ·
  rw [if_pos c4] at H
  have LMc4 := Aside0.mk c4; clear c4; obtain ⟨y202, hy202⟩ : ∃ y_ : List (S43), y_ = (y196 ++ t199) := ⟨_, rfl⟩; (first | rw [Option.bind_some, ← hy202] at H | rw [Option.bind_some] at H | rw [← hy202] at H | skip); have Ny202 := Aside0.mk hy202; clear hy202; obtain ⟨y205, hy205⟩ : ∃ y_ : List (S43), y_ = (([(⟨15, 0, 1, 0, 0⟩ : S43), (⟨5, 0, 0, 1, 0⟩ : S43), (⟨183, 0, 0, 0, 0⟩ : S43)] : List (S43))) := ⟨_, rfl⟩; (first | rw [Option.bind_some, ← hy205] at H | rw [Option.bind_some] at H | rw [← hy205] at H | skip); have Ny205 := Aside0.mk hy205; clear hy205
  by_cases c5 : y202.length + y205.length < 11728124029610
  ·
   rw [if_pos c5] at H
   have LMc5 := Aside0.mk c5; clear c5; obtain ⟨y208, hy208⟩ : ∃ y_ : List (S43), y_ = (y202 ++ y205) := ⟨_, rfl⟩; (first | rw [Option.bind_some, ← hy208] at H | rw [Option.bind_some] at H | rw [← hy208] at H | skip); have Ny208 := Aside0.mk hy208; clear hy208; obtain rfl := Option.some.inj H; go_enter Try.func40, Try.ntmps40
   go_wp2_with (first | ((with_reducible refine gate_dst (N := 3) rfl ?_); refine box_event ?hg (N := 3) ?hd (cs := #[.int .i64 a1_0, .int .i64 a1_1, .int .i64 a1_2, .int .i64 a1_3]) (t := 80) ?hr ?_; (case hd => rfl); (case hg => rfl); (case hr => first | (go_simp; done) | (go_simp; rfl)); intro gb195 hg w6 hbox hb; have n_ : _ ∧ _ ∧ _ ∧ _ := ⟨k_ (below_step (bl_ HB.out) hb), k_ (hbox), k_ ((by rw [hg]; exact (below_size (bl_ HB.out)) : w.heap.size ≤ gb195)), k_ ((by rw [hg]; exact (below_size (bl_ HB.out)) : w.heap.size ≤ gb195))⟩; clear HB; obtain ⟨HB, BK195, GW195, GE195⟩ := n_; clear hb hbox hg; obtain ⟨⟨hcz7_0, hcz7_1, hcz7_2, hcz7_3⟩, hfz7_0, hfz7_1, hfz7_2, hfz7_3⟩ := blk4_ BK195.out) | ((with_reducible refine gate_dst (N := 12) rfl ?_); refine Kd.R_lit k43 _ 43 ?hg (N := 12) ?hd (xs := ([(⟨97, 0, 2, 0, 0⟩ : S43), (⟨53, 0, 0, 5, wrap32 (a1_3)⟩ : S43), (⟨103, 0, 0, 0, 12⟩ : S43)] : List (S43))) (inner := [.int .u8 97, .int .u8 0, .int .u8 2, .int .i16 0, .int .i32 0, .int .u8 53, .int .u8 0, .int .u8 0, .int .i16 5, .int .i32 (wrap32 (a1_3)), .int .u8 103, .int .u8 0, .int .u8 0, .int .i16 0, .int .i32 12]) (ok := fun _ => True) (okp := fun _ => True) ?hr ?hp (fun _ hk => hk) trivial (Below.refl _ _) (Nat.le_refl _) (by simp) ?_; (case hd => rfl); (case hg => rfl); (case hr => first | (go_simp; done) | (go_simp; rfl)); (case hp => exact (Reps.c5 (show Kd.M k43 _ _ _ (⟨97, 0, 2, 0, 0⟩ : S43) [.int .u8 97, .int .u8 0, .int .u8 2, .int .i16 0, .int .i32 0] from (k43_mkM _ _ _ (⟨97, 0, 2, 0, 0⟩ : S43) )) (Reps.c5 (show Kd.M k43 _ _ _ (⟨53, 0, 0, 5, wrap32 (a1_3)⟩ : S43) [.int .u8 53, .int .u8 0, .int .u8 0, .int .i16 5, .int .i32 (wrap32 (a1_3))] from (k43_mkM _ _ _ (⟨53, 0, 0, 5, wrap32 (a1_3)⟩ : S43) )) (Reps.c5 (show Kd.M k43 _ _ _ (⟨103, 0, 0, 0, 12⟩ : S43) [.int .u8 103, .int .u8 0, .int .u8 0, .int .i16 0, .int .i32 12] from (k43_mkM _ _ _ (⟨103, 0, 0, 0, 12⟩ : S43) )) (Reps.none _ _))))); intro v197 w8 ho9 hb hg_ hnew_; clear hg_ hnew_; (first | rw [← Ny196.out] at ho9 | (simp only [Int.reduceToNat] at ho9; rw [← Ny196.out] at ho9)); have n_ : _ ∧ _ ∧ _ := ⟨k_ (Kd.R_lower ho9 (below_size (bm_ HB.out GE195.out))), k_ (blk_below (g := gb195) (o := .cells #[.int .i64 a1_0, .int .i64 a1_1, .int .i64 a1_2, .int .i64 a1_3] 80 (0, 0)) (bk_ BK195.out) hb), k_ (below_step (bm_ HB.out GE195.out) hb)⟩; clear BK195 HB; obtain ⟨HO198, BK195, HB⟩ := n_; clear hb ho9) | ((with_reducible refine gate_callee (f := 42) rfl ?_); refine goesL_ (some 18) rfl rfl Try.func42 (by kernel_rfl) rfl #[.int .u8 1, .int .u8 0, .int .u64 (IntKind.u64.wrap (137438953472 + (IntKind.u64.wrap ((IntKind.u64.wrap (a0)) * 4294967296))))] rfl am_ ?_; (with_reducible refine (insn_Split.calls 1 0 (IntKind.u64.wrap (137438953472 + (IntKind.u64.wrap ((IntKind.u64.wrap (a0)) * 4294967296)))) t199 _ A3.out).mono ?_); rintro e w10 ⟨v200, rfl, ho0, hb⟩; refine ⟨_, rfl, ?_⟩; have n_ : _ ∧ _ ∧ _ ∧ _ := ⟨k_ (Kd.R_elder' (mv_ HO198.out) (Kd.R_base ho0) hb), k_ (Kd.R_lower (Kd.R_new' ho0 (Kd.R_lt (mv_ HO198.out))) (below_size (bm_ HB.out GE195.out))), k_ (blk_below (g := gb195) (o := .cells #[.int .i64 a1_0, .int .i64 a1_1, .int .i64 a1_2, .int .i64 a1_3] 80 (0, 0)) (bk_ BK195.out) hb), k_ (below_step (bm_ HB.out GE195.out) hb)⟩; clear HO198 BK195 HB; obtain ⟨HO198, HO201, BK195, HB⟩ := n_; clear hb; clear ho0; obtain ⟨Ao12, co12, eo12⟩ := Kd.R_slice HO201.out; subst eo12) | ((with_reducible refine gate_builtin (b := .append) (xs := #[.tmp 13, .tmp 18]) rfl ?_); at_builtin; refine Kd.R_append_rows k43 (w0 := w) w.heap.size rfl (.tmp 13) (.tmp 18) 22 43 (.agg #[(.int .u8 0), (.int .u8 0), (.int .u8 0), (.int .i16 0), (.int .i32 0)]) 12 rfl Try.underlying22 info43 rfl (by decide) (by omega) v197 y196 t199 _ _ _ (fun k_ => some k_ ≠ (.slice Ao12 t199.length co12 : Value).ownBlock) (fun _ => False) rfl rfl ?aO ?aR (fun _ _ h => h) (fun _ h => h.elim) ?aF ?aB ?aS ?aL ?_; (case aR => repeat (first | exact (Kd.R_reads' HO201.out).2.2 | (with_reducible refine Kd.C_alloc ?_ _) | (with_reducible refine Kd.C_drewN ?_ _) | (with_reducible refine Kd.C_drew ?_))); (case aB => exact (bm_ HB.out GE195.out)); (case aF => exact (fun k_ hk => Kd.fresh' (Kd.R_lt (mv_ HO201.out)) k_ hk)); (case aO => exact (by (with_reducible repeat (first | apply ra_ | apply rn_ | apply rw_)); exact Kd.R_mono HO198.out (fun _ hk => hk.2))); (case aS => exact (below_size (bm_ HB.out GE195.out))); (case aL => have := LMc4.out; omega); intro v203 w11 ho hb hg hat; rw [← Ny202.out] at ho; have n_ : _ ∧ _ ∧ _ ∧ _ := ⟨k_ (blk_grown (g := gb195) (o := .cells #[.int .i64 a1_0, .int .i64 a1_1, .int .i64 a1_2, .int .i64 a1_3] 80 (0, 0)) (bk_ BK195.out) hg (Kd.R_ne HO198.out BK195.out (by decide))), k_ (Kd.R_after (ok := (fun _ => True)) (mv_ HO201.out) hg hat), k_ (hb), k_ (ho)⟩; clear BK195 HO201 HB HO198; obtain ⟨BK195, HO201, HB, HO204⟩ := n_; clear ho hb hg hat) | ((with_reducible refine gate_dst (N := 24) rfl ?_); refine Kd.R_lit k43 _ 43 ?hg (N := 24) ?hd (xs := ([(⟨15, 0, 1, 0, 0⟩ : S43), (⟨5, 0, 0, 1, 0⟩ : S43), (⟨183, 0, 0, 0, 0⟩ : S43)] : List (S43))) (inner := [.int .u8 15, .int .u8 0, .int .u8 1, .int .i16 0, .int .i32 0, .int .u8 5, .int .u8 0, .int .u8 0, .int .i16 1, .int .i32 0, .int .u8 183, .int .u8 0, .int .u8 0, .int .i16 0, .int .i32 0]) (ok := fun _ => True) (okp := fun _ => True) ?hr ?hp (fun _ hk => hk) trivial (Below.refl _ _) (Nat.le_refl _) (by simp) ?_; (case hd => rfl); (case hg => rfl); (case hr => first | (go_simp; done) | (go_simp; rfl)); (case hp => exact (Reps.c5 (show Kd.M k43 _ _ _ (⟨15, 0, 1, 0, 0⟩ : S43) [.int .u8 15, .int .u8 0, .int .u8 1, .int .i16 0, .int .i32 0] from (k43_mkM _ _ _ (⟨15, 0, 1, 0, 0⟩ : S43) )) (Reps.c5 (show Kd.M k43 _ _ _ (⟨5, 0, 0, 1, 0⟩ : S43) [.int .u8 5, .int .u8 0, .int .u8 0, .int .i16 1, .int .i32 0] from (k43_mkM _ _ _ (⟨5, 0, 0, 1, 0⟩ : S43) )) (Reps.c5 (show Kd.M k43 _ _ _ (⟨183, 0, 0, 0, 0⟩ : S43) [.int .u8 183, .int .u8 0, .int .u8 0, .int .i16 0, .int .i32 0] from (k43_mkM _ _ _ (⟨183, 0, 0, 0, 0⟩ : S43) )) (Reps.none _ _))))); intro v206 w13 ho14 hb hg_ hnew_; clear hg_ hnew_; (first | rw [← Ny205.out] at ho14 | (simp only [Int.reduceToNat] at ho14; rw [← Ny205.out] at ho14)); have n_ : _ ∧ _ ∧ _ ∧ _ ∧ _ := ⟨k_ (Kd.R_elder' (mv_ HO201.out) (Kd.R_base ho14) hb), k_ (Kd.R_elder' (mv_ HO204.out) (Kd.R_base ho14) hb), k_ (Kd.R_lower (Kd.R_new' (Kd.R_new' ho14 (Kd.R_lt (mv_ HO201.out))) (Kd.R_lt (mv_ HO204.out))) (below_size (bm_ HB.out GE195.out))), k_ (blk_below (g := gb195) (o := .cells #[.int .i64 a1_0, .int .i64 a1_1, .int .i64 a1_2, .int .i64 a1_3] 80 (0, 0)) (bk_ BK195.out) hb), k_ (below_step (bm_ HB.out GE195.out) hb)⟩; clear HO201 HO204 BK195 HB; obtain ⟨HO201, HO204, HO207, BK195, HB⟩ := n_; clear hb ho14; obtain ⟨Ao16, co16, eo16⟩ := Kd.R_slice HO207.out; subst eo16) | ((with_reducible refine gate_builtin (b := .append) (xs := #[.tmp 20, .tmp 24]) rfl ?_); at_builtin; refine Kd.R_append_rows k43 (w0 := w) w.heap.size rfl (.tmp 20) (.tmp 24) 22 43 (.agg #[(.int .u8 0), (.int .u8 0), (.int .u8 0), (.int .i16 0), (.int .i32 0)]) 12 rfl Try.underlying22 info43 rfl (by decide) (by omega) v203 y202 y205 _ _ _ (fun k_ => some k_ ≠ (.slice Ao12 t199.length co12 : Value).ownBlock ∧ some k_ ≠ (.slice Ao16 y205.length co16 : Value).ownBlock) (fun _ => False) rfl rfl ?aO ?aR (fun _ _ h => h) (fun _ h => h.elim) ?aF ?aB ?aS ?aL ?_; (case aR => repeat (first | exact (Kd.R_reads' HO207.out).2.2 | (with_reducible refine Kd.C_alloc ?_ _) | (with_reducible refine Kd.C_drewN ?_ _) | (with_reducible refine Kd.C_drew ?_))); (case aB => exact (bm_ HB.out GE195.out)); (case aF => exact (fun k_ hk => ⟨Kd.fresh' (Kd.R_lt (mv_ HO201.out)) k_ hk, Kd.fresh' (Kd.R_lt (mv_ HO207.out)) k_ hk⟩)); (case aO => exact (mv_ HO204.out)); (case aS => exact (below_size (bm_ HB.out GE195.out))); (case aL => have := LMc5.out; omega); intro v209 w15 ho hb hg hat; rw [← Ny208.out] at ho; have n_ : _ ∧ _ ∧ _ ∧ _ ∧ _ := ⟨k_ (blk_grown (g := gb195) (o := .cells #[.int .i64 a1_0, .int .i64 a1_1, .int .i64 a1_2, .int .i64 a1_3] 80 (0, 0)) (bk_ BK195.out) hg (Kd.R_ne HO204.out BK195.out (by decide))), k_ (Kd.R_after (ok := (fun k_ => some k_ ≠ (.slice Ao16 y205.length co16 : Value).ownBlock)) (by (with_reducible repeat (first | apply ra_ | apply rn_ | apply rw_)); exact Kd.R_mono HO201.out (fun _ hk => ⟨hk.2, hk.1.2⟩)) hg hat), k_ (Kd.R_after (ok := (fun k_ => some k_ ≠ (.slice Ao12 t199.length co12 : Value).ownBlock)) (by (with_reducible repeat (first | apply ra_ | apply rn_ | apply rw_)); exact Kd.R_mono HO207.out (fun _ hk => ⟨hk.1.2, hk.2⟩)) hg hat), k_ (hb), k_ (ho)⟩; clear BK195 HO201 HO207 HB HO204; obtain ⟨BK195, HO201, HO207, HB, HO210⟩ := n_; clear ho hb hg hat))
   go_ret
   exact ⟨_, rr_, by (with_reducible repeat (first | apply ra_ | apply rn_ | apply rw_)); exact Kd.R_mono HO210.out (fun _ hk => trivial), bm_ HB.out GE195.out⟩
  ·
   rw [if_neg c5] at H
   exact absurd H (by simp)
 ·
  rw [if_neg c4] at H
  exact absurd H (by simp)

/-! ### insn_Long: function 41 -/
def insn_Long.f (a0_0 : Int) (a0_1 : Int) (a0_2 : Int) (a0_3 : Int) (a0_4 : Int) (a1_0 : Int) (a1_1 : Int) (a1_2 : Int) (a1_3 : Int) (a1_4 : Int) : Option (Int) := some (Go.bits .or .u64 ((a0_4) % 4294967296) (((a1_4) % 4294967296) * 4294967296))
theorem insn_Long.calls (a0_0 : Int) (a0_1 : Int) (a0_2 : Int) (a0_3 : Int) (a0_4 : Int) (a1_0 : Int) (a1_1 : Int) (a1_2 : Int) (a1_3 : Int) (a1_4 : Int) (r : Int) (w : World) (h : insn_Long.f a0_0 a0_1 a0_2 a0_3 a0_4 a1_0 a1_1 a1_2 a1_3 a1_4 = some r) :
  Calls Try.prog 41 #[.agg #[.int .u8 a0_0, .int .u8 a0_1, .int .u8 a0_2, .int .i16 a0_3, .int .i32 a0_4], .agg #[.int .u8 a1_0, .int .u8 a1_1, .int .u8 a1_2, .int .i16 a1_3, .int .i32 a1_4]] w fun e w' => e = .returned (.int .u64 r) ∧ Below w.heap.size w w' := by
 have hu43 := Try.underlying43; have HB := Aside0.mk (Below.refl w.heap.size w); have H : (some (Go.bits .or .u64 ((a0_4) % 4294967296) (((a1_4) % 4294967296) * 4294967296))) = some r := h; clear h; obtain rfl := Option.some.inj H; go_enter Try.func41, Try.ntmps41
 go_wp2_with (first | ((with_reducible refine gate_dst (N := 2) rfl ?_); refine box_event ?hg (N := 2) ?hd (cs := #[.int .u8 a0_0, .int .u8 a0_1, .int .u8 a0_2, .int .i16 a0_3, .int .i32 a0_4]) (t := 43) ?hr ?_; (case hd => rfl); (case hg => rfl); (case hr => first | (go_simp; done) | (go_simp; rfl)); intro gb211 hg w3 hbox hb; have n_ : _ ∧ _ ∧ _ ∧ _ := ⟨k_ (below_step (bl_ HB.out) hb), k_ (hbox), k_ ((by rw [hg]; exact (below_size (bl_ HB.out)) : w.heap.size ≤ gb211)), k_ ((by rw [hg]; exact (below_size (bl_ HB.out)) : w.heap.size ≤ gb211))⟩; clear HB; obtain ⟨HB, BK211, GW211, GE211⟩ := n_; clear hb hbox hg) | ((with_reducible refine gate_dst (N := 3) rfl ?_); refine box_event ?hg (N := 3) ?hd (cs := #[.int .u8 a1_0, .int .u8 a1_1, .int .u8 a1_2, .int .i16 a1_3, .int .i32 a1_4]) (t := 43) ?hr ?_; (case hd => rfl); (case hg => rfl); (case hr => first | (go_simp; done) | (go_simp; rfl)); intro gb212 hg w4 hbox hb; have n_ : _ ∧ _ ∧ _ ∧ _ ∧ _ ∧ _ ∧ _ := ⟨k_ (blk_below (g := gb211) (o := .cells #[.int .u8 a0_0, .int .u8 a0_1, .int .u8 a0_2, .int .i16 a0_3, .int .i32 a0_4] 43 (0, 0)) (bk_ BK211.out) hb), k_ (below_step (bm_ HB.out GE211.out) hb), k_ (hbox), k_ ((by rw [hg]; exact (below_size (bm_ HB.out GE211.out)) : w.heap.size ≤ gb212)), k_ ((by rw [hg]; exact (below_size (bm_ HB.out GE211.out)) : w.heap.size ≤ gb212)), k_ ((by rw [hg]; exact Nat.ne_of_lt (blk_lt (g := gb211) (o := .cells #[.int .u8 a0_0, .int .u8 a0_1, .int .u8 a0_2, .int .i16 a0_3, .int .i32 a0_4] 43 (0, 0)) (bk_ BK211.out)) : gb211 ≠ gb212)), k_ ((by rw [hg]; exact Nat.ne_of_gt (blk_lt (g := gb211) (o := .cells #[.int .u8 a0_0, .int .u8 a0_1, .int .u8 a0_2, .int .i16 a0_3, .int .i32 a0_4] 43 (0, 0)) (bk_ BK211.out)) : gb212 ≠ gb211))⟩; clear BK211 HB; obtain ⟨BK211, HB, BK212, GW212, GE212, NB211_212, NB212_211⟩ := n_; clear hb hbox hg; have hnb5 := NB211_212.out; have hnc5 := NB212_211.out; obtain ⟨⟨hcz6_0, hcz6_1, hcz6_2, hcz6_3, hcz6_4⟩, hfz6_0, hfz6_1, hfz6_2, hfz6_3, hfz6_4⟩ := blk5_ BK211.out; obtain ⟨⟨hcz7_0, hcz7_1, hcz7_2, hcz7_3, hcz7_4⟩, hfz7_0, hfz7_1, hfz7_2, hfz7_3, hfz7_4⟩ := blk5_ BK212.out))
 go_ret
 exact ⟨rr_, bm2_ HB.out GE211.out GE212.out⟩

end Go.Proofs.Ytmijlibnembkaaa.PA
