/- A block that holds a few values, told as a row of one element: words for a pointer to a struct of rows. -/
import Derived.Test.YtmijlibnembkaaaMkXw
namespace Go.Proofs.YtmijlibnembkaaaX
open Go.RowKit Go.Proofs.YtmijlibnembkaaaW.PrintWords Go.Proofs.YtmijlibnembkaaaW.PrintLast Go.Sort

/-- A pointer to the block, or none. -/
def planP (b : Bool) (g : Nat) : Value := bif b then .pointer (some ⟨g, 0, none⟩) else .pointer none
/-- The kind of an element that holds three given values. -/
def planK (v1 v2 v3 : Value) : Kd Int where
 sz := 3
 E := []
 K := fun _ x cs => x = 0 ∧ cs = [v1, v2, v3] ∧ ∀ u ∈ cs, u.oneCell' = true
 M := fun _ _ _ x cs => x = 0 ∧ cs = [v1, v2, v3] ∧ ∀ u ∈ cs, u.oneCell' = true
 K_len := fun h => by rw [h.2.1]; rfl
 K_one := fun h => h.2.2
 K_below := fun _ h => h
 K_of_M := fun h => h
 M_mono := fun _ h => h
 M_bound := fun h => h
 M_move := fun _ h => h
 M_lower := fun _ h => h

theorem plan_ne {v1 v2 v3 : Value} {T e : Nat} (h : T ≠ e) : ∀ q, q ∈ T :: (planK v1 v2 v3).E → q ≠ e := by
 intro q hq
 simp only [planK, List.mem_singleton] at hq
 rw [hq]
 exact h

theorem plan_new {v1 v2 v3 : Value} {T : Nat} {w1 : World} {g base : Nat} {ok : Nat → Prop} (hok : ok g) (h1 : v1.oneCell' = true) (h2 : v2.oneCell' = true) (h3 : v3.oneCell' = true) (hb : w1.heap[g]? = some (.cells #[v1, v2, v3] T (0, 0))) (hg : base ≤ g) :
  Kd.R (planK v1 v2 v3) T w1 base ok (.slice (some ⟨g, 0, none⟩) 1 1) [0] := by
 refine ⟨fun k hk => ?_, [v1, v2, v3], ?_, ?_⟩
 ·
  simp only [Value.ownBlock, Option.some.injEq] at hk
  exact hk ▸ hok
 ·
  exact ⟨by simp [planK], .inr ⟨g, 1, #[v1, v2, v3], rfl, hg, hb, Nat.le_refl _, by decide, by simp [planK], by simp [planK]⟩⟩
 ·
  refine ⟨by simp [planK], fun j p hp => ?_⟩
  cases j with
  | zero =>
   simp only [List.getElem?_cons_zero, Option.some.injEq] at hp
   subst hp
   refine ⟨rfl, by simp [planK], ?_⟩
   simp [planK, h1, h2, h3]
  | succ j => simp at hp

theorem plan_cells {v1 v2 v3 : Value} {T : Nat} {w : World} {base g : Nat} {ok : Nat → Prop} {xs : List Int} (h : Kd.R (planK v1 v2 v3) T w base ok (.slice (some ⟨g, 0, none⟩) 1 1) xs) :
  w.cell? ⟨g, 0, none⟩ = some v1 ∧ w.cell? ⟨g, 1, none⟩ = some v2 ∧ w.cell? ⟨g, 2, none⟩ = some v3 := by
 obtain ⟨A, c, he, hl, hC⟩ := Kd.R_reads h
 have hx : xs.length = 1 := by injection he with _ e2 _; exact e2.symm
 rw [hx] at he hC
 cases he
 obtain ⟨ad, cs, e1, _, hK, hc⟩ := Kd.C_get hC 0 0 (by omega) (by simp)
 cases e1
 obtain ⟨_, rfl, _⟩ := hK
 exact ⟨by simpa [Addr.add] using hc 0 _ rfl, by simpa [Addr.add] using hc 1 _ rfl, by simpa [Addr.add] using hc 2 _ rfl⟩

/-- A cell that was written, behind a write to another block. -/
theorem two_stores {w : World} {g h i j : Nat} {u v v2 : Value} (hx : w.cell? ⟨g, i, none⟩ = some u) (hne : some g ≠ some h) :
  ((w.setCell ⟨g, i, none⟩ v).setCell ⟨h, j, none⟩ v2).cell? ⟨g, i, none⟩ = some v :=
 (World.cell?_setCell_far _ ⟨h, j, none⟩ ⟨g, i, none⟩ v2 (fun e => hne (congrArg some e.symm))).trans (World.cell?_setCell_same' w _ v (by rw [hx]; rfl))
theorem own_ne {α : Type} {d : Kd α} {e g n c n2 c2 base : Nat} {a2 : Addr} {w : World} {xs : List α} {Q : Nat → Prop}
  (hr : Kd.R d e w base (fun k_ => some k_ ≠ (Value.slice (some a2) n2 c2).ownBlock ∧ Q k_) (.slice (some ⟨g, 0, none⟩) n c) xs) : some g ≠ some a2.block :=
 (hr.1 g rfl).1
/-- A row's block, found by the row's value. -/
theorem R_blk {α : Type} {d : Kd α} {e g n c base : Nat} {w : World} {ok : Nat → Prop} {xs : List α} (h : Kd.R d e w base ok (.slice (some ⟨g, 0, none⟩) n c) xs) : ∃ cells, w.heap[g]? = some (.cells cells e (0, 0)) := by
 obtain ⟨inner, ho⟩ := Kd.R_own h
 exact own_typed ho g (by simp [Value.ownBlock])
/-- A row's value in a row of rows is left as it is by a write to a block of another type. -/
theorem row_far {α : Type} {d : Kd α} {e t g j n c base i : Nat} {ad : Addr} {w w1 : World} {ok : Nat → Prop} {xs : List α} {cells : Array Value} {u v : Value} (hS : Kd.S d e w base ok (.slice (some ad) n c) xs)
  (hb : w.heap[g]? = some (.cells cells t (0, 0))) (ht : e ≠ t) (hx : w.cell? (ad.add i) = some u) (hw : w1 = w.setCell ⟨g, j, none⟩ v) : w1.cell? (ad.add i) = some u := by
 have hne : some g ≠ (Value.slice (some ad) n c).ownBlock := Kd.S_ne hS hb ht
 rw [hw]
 exact (World.cell?_setCell_far w ⟨g, j, none⟩ (ad.add i) v (fun e_ => hne (congrArg some (e_.trans (by unfold Addr.add; split <;> rfl))))).trans hx
section
variable {P : Program} {ops : Array Oper} {o : Oper} {a : Act} {Q : Exit → Act → World → Prop} {Kc : Act → World → Prop}
theorem slice_one {α : Type} {d : Kd α} {e : Nat} {w : World} {base : Nat} {ok : Nat → Prop} {v : Value} {xs : List α} (h : Kd.R d e w base ok v xs) : v.oneCell' = true := by
 obtain ⟨A, c, rfl⟩ := Kd.R_slice h
 rfl
theorem plan_build {α β γ : Type} {d1 : Kd α} {d2 : Kd β} {d3 : Kd γ} {e1 e2 e3 b1 b2 b3 : Nat} {ok1 ok2 ok3 : Nat → Prop} {v1 v2 v3 : Value} {x1 : List α} {x2 : List β} {x3 : List γ} {W Wa Wb Wc : World}
  (r1 : Kd.R d1 e1 Wa b1 ok1 v1 x1) (r2 : Kd.R d2 e2 Wb b2 ok2 v2 x2) (r3 : Kd.R d3 e3 Wc b3 ok3 v3 x3)
  (h : ∀ A1 n1 c1 A2 n2 c2 A3 n3 c3, v1 = .slice A1 n1 c1 → v2 = .slice A2 n2 c2 → v3 = .slice A3 n3 c3 → (execOp a.eval o).run P W = .ok (.value (.agg #[v1, v2, v3])) W) :
  (execOp a.eval o).run P W = .ok (.value (.agg #[v1, v2, v3])) W := by
 obtain ⟨A1, c1, e1⟩ := Kd.R_slice r1
 obtain ⟨A2, c2, e2⟩ := Kd.R_slice r2
 obtain ⟨A3, c3, e3⟩ := Kd.R_slice r3
 exact h _ _ _ _ _ _ _ _ _ e1 e2 e3
theorem plan_step {α β γ : Type} {d1 : Kd α} {d2 : Kd β} {d3 : Kd γ} {e1 e2 e3 T b1 b2 b3 : Nat} {ok1 ok2 ok3 : Nat → Prop} {v1 v2 v3 : Value} {x1 : List α} {x2 : List β} {x3 : List γ} {W Wa Wb Wc : World}
  (r1 : Kd.R d1 e1 Wa b1 ok1 v1 x1) (r2 : Kd.R d2 e2 Wb b2 ok2 v2 x2) (r3 : Kd.R d3 e3 Wc b3 ok3 v3 x3)
  (hw : Region.wanted o (yielded ops a.tmps) = true) (x : Operand) (ho : o.op = .box T x) (hx : a.eval x = .agg #[v1, v2, v3])
  (h : ∀ g w1, Kd.R (planK v1 v2 v3) T w1 W.heap.size (fun _ => True) (.slice (some ⟨g, 0, none⟩) 1 1) (List.replicate (1 : Int).toNat 0) → Below W.heap.size W w1 → Kc (a.put o.dst (.pointer (some ⟨g, 0, none⟩))) w1) :
  if Region.wanted o (yielded ops a.tmps) = true then Oper.wp P o a W Kc Q else Kc (a.put o.dst undef) W := by
 have hc : (Value.agg #[v1, v2, v3]).cells = #[v1, v2, v3] := by
  obtain ⟨A1, c1, rfl⟩ := Kd.R_slice r1
  obtain ⟨A2, c2, rfl⟩ := Kd.R_slice r2
  obtain ⟨A3, c3, rfl⟩ := Kd.R_slice r3
  rfl
 refine event_step (w1 := W.alloc (.cells #[v1, v2, v3] T (0, 0))) (v := .pointer (some ⟨W.heap.size, 0, none⟩)) hw ?_ ?_
 ·
  unfold execOp
  simp only [ho, hx, Sem.run_bind, Instr.box, newVar, newRow, run_newObj_alloc, Sem.run_pure, Result.andThen_ok, hc]
 ·
  exact h _ _ (plan_new trivial (slice_one r1) (slice_one r2) (slice_one r3) (blk_new W _) (Nat.le_refl _)) (below_alloc (Below.refl _ _) _)
end
end Go.Proofs.YtmijlibnembkaaaX
