/- The document's Check (layer 4) answers with the program's error. -/
import Derived.Test.YtmijlibnembkaaaMkQc
namespace Go.Proofs.Ytmijlibnembkaaa.Pure
open Go.RowKit Go.Proofs.Ytmijlibnembkaaa.PA Go.Proofs.YtmijlibnembkaaaW.PrintWords Go.Proofs.YtmijlibnembkaaaW.PrintLast Go.Proofs.YtmijlibnembkaaaX
set_option linter.unusedVariables false
set_option linter.unusedSimpArgs false

def jbR (l : List I) (q : Nat) : Bool := (toR (rd_T43 l (q : Int)) q).2 && !decide ((toR (rd_T43 l (q : Int)) q).1 ∈ begI l)
def cbR (l : List I) (pa : List Int) (q : Nat) : Bool := (toR (rd_T43 l (q : Int)) q).2 && (!decide ((rd_T43 l (q : Int)).f0 = 133) && !decide (ofR pa (toR (rd_T43 l (q : Int)) q).1 = ofR pa (q : Int)))
def contR (l : List I) (pa : List Int) (p : Nat) : Bool := decide (p + 1 < (begins l).length) && (ofR pa ((bg l (p + 1) : Nat) : Int) == ofR pa ((bg l p : Nat) : Int))
def ebR (l : List I) (pa : List Int) (p : Nat) : Bool := !contR l pa p && (!decide ((rd_T43 l ((bg l p : Nat) : Int)).f0 = 149) && !decide ((rd_T43 l ((bg l p : Nat) : Int)).f0 = 5))
def anyFrom (P : Nat → Bool) : Nat → Nat → Bool
 | 0, _ => false
 | n + 1, p => P p || anyFrom P n (p + 1)

theorem rc3 (l : List I) (hP : Prog l) (pa : List Int) (hpa : pa.length < 1000000) : ∀ (f p : Nat), p + f = (begins l).length →
  ∃ q, Evt (fun k => posternref04_Check.l3 k l (begI l) pa (begI l) ((begI l).length : Int) (p : Int)) (q, if anyFrom (ebR l pa) f p = true then 44 else 0) := by
 have hbl := begI_length l
 have hbn := begins_length l
 have hsm := hP.small
 intro f
 induction f with
 | zero =>
  intro p hp
  refine ⟨0, ?_⟩
  apply Evt.step2
  ·
   intro k
   simp only [posternref04_Check.l3]
   rw [if_neg (by omega)]
  ·
   exact Evt.const _
 | succ f ih =>
  intro p hp
  obtain ⟨q0, h0⟩ := ih (p + 1) (by omega)
  have ew : wrap64 ((p : Int) + 1) = ((p + 1 : Nat) : Int) := by unfold wrap64; omega
  have hpl : p < (begins l).length := by omega
  have hq := begins_lt l _ (bg_mem l p hpl)
  have he : anyFrom (ebR l pa) (f + 1) p = (ebR l pa p || anyFrom (ebR l pa) f (p + 1)) := rfl
  have j5 : ∀ b, b = contR l pa p → ∃ q, Evt (fun k => posternref04_Check.j5 k l (begI l) pa ((bg l p : Nat) : Int) (begI l) ((begI l).length : Int) (p : Int) b) (q, if anyFrom (ebR l pa) (f + 1) p = true then 44 else 0) := by
   intro b hb
   rw [he]
   by_cases hbt : b = true
   ·
    have : ebR l pa p = false := by unfold ebR; rw [← hb, hbt]; rfl
    rw [this, Bool.false_or]
    refine ⟨q0, ?_⟩
    apply Evt.step2
    ·
     intro k
     simp only [posternref04_Check.j5]
     rw [if_pos hbt, ew]
    ·
     exact h0
   ·
    have hbf : b = false := by simpa using hbt
    by_cases h149 : (rd_T43 l ((bg l p : Nat) : Int)).f0 = 149
    ·
     have : ebR l pa p = false := by unfold ebR; rw [decide_eq_true h149]; simp
     rw [this, Bool.false_or]
     refine ⟨q0, ?_⟩
     apply Evt.step2
     ·
      intro k
      simp only [posternref04_Check.j5]
      rw [if_neg hbt, if_pos (by omega), if_pos (by omega), if_pos h149, ew]
     ·
      exact h0
    ·
     by_cases h5 : (rd_T43 l ((bg l p : Nat) : Int)).f0 = 5
     ·
      have : ebR l pa p = false := by unfold ebR; rw [decide_eq_true h5]; simp
      rw [this, Bool.false_or]
      refine ⟨q0, ?_⟩
      apply Evt.step2
      ·
       intro k
       simp only [posternref04_Check.j5]
       rw [if_neg hbt, if_pos (by omega), if_pos (by omega), if_neg h149, if_pos h5, ew]
      ·
       exact h0
     ·
      have : ebR l pa p = true := by unfold ebR; rw [decide_eq_false h5, decide_eq_false h149, ← hb, hbf]; rfl
      rw [this, Bool.true_or, if_pos rfl]
      refine ⟨((bg l p : Nat) : Int), ?_⟩
      apply Evt.step2
      ·
       intro k
       simp only [posternref04_Check.j5]
       rw [if_neg hbt, if_pos (by omega), if_pos (by omega), if_neg h149, if_neg h5]
      ·
       exact Evt.const _
  by_cases hlast : p + 1 < (begins l).length
  ·
   have hc : contR l pa p = (ofR pa ((bg l (p + 1) : Nat) : Int) == ofR pa ((bg l p : Nat) : Int)) := by
    unfold contR; rw [decide_eq_true hlast, Bool.true_and]
   obtain ⟨q1, h1⟩ := j5 _ hc.symm
   refine ⟨q1, ?_⟩
   apply Evt.step2
   ·
    intro k
    simp only [posternref04_Check.l3, ew]
    rw [if_pos (by omega), if_pos (by omega), if_pos (by omega), if_pos (by omega), if_pos (by omega), rd_beg l p hpl, rd_beg l (p + 1) hlast]
   ·
    exact Evt.bind (rof pa hpa _) (Evt.bind (rof pa hpa _) h1)
  ·
   have hc : contR l pa p = false := by unfold contR; rw [decide_eq_false hlast, Bool.false_and]
   obtain ⟨q1, h1⟩ := j5 _ hc.symm
   refine ⟨q1, ?_⟩
   apply Evt.step2
   ·
    intro k
    simp only [posternref04_Check.l3, ew]
    rw [if_pos (by omega), if_pos (by omega), if_pos (by omega), if_neg (by omega), rd_beg l p hpl]
   ·
    exact h1

theorem rc2 (l : List I) (hP : Prog l) (pa : List Int) (hpa : pa.length < 1000000) (e : Int) (hR : ∃ q, Evt (fun k => posternref04_Check.l3 k l (begI l) pa (begI l) ((begI l).length : Int) 0) (q, e)) : ∀ (f p : Nat), p + f = (begins l).length →
  ∃ q, Evt (fun k => posternref04_Check.l2 k l (begI l) pa (begI l) ((begI l).length : Int) (p : Int)) (q, if ((begins l).drop p).any (cbR l pa) = true then 43 else e) := by
 have hbl := begI_length l
 have hbn := begins_length l
 have hsm := hP.small
 intro f
 induction f with
 | zero =>
  intro p hp
  obtain ⟨q, h⟩ := hR
  refine ⟨q, ?_⟩
  rw [List.drop_eq_nil_of_le (by omega)]
  apply Evt.step2
  ·
   intro k
   simp only [posternref04_Check.l2]
   rw [if_neg (by omega)]
  ·
   exact h
 | succ f ih =>
  intro p hp
  obtain ⟨q0, h0⟩ := ih (p + 1) (by omega)
  have ew : wrap64 ((p : Int) + 1) = ((p + 1 : Nat) : Int) := by unfold wrap64; omega
  have hpl : p < (begins l).length := by omega
  have hq := begins_lt l _ (bg_mem l p hpl)
  rw [bg_drop l p hpl, List.any_cons]
  have key : ∃ q, Evt (fun k => if (toR (rd_T43 l ((bg l p : Nat) : Int)) (bg l p)).2 = true then (if 0 ≤ ((bg l p : Nat) : Int) then (if ((bg l p : Nat) : Int) < (l.length : Int) then (if (rd_T43 l ((bg l p : Nat) : Int)).f0 = 133 then posternref04_Check.l2 k l (begI l) pa (begI l) ((begI l).length : Int) ((p + 1 : Nat) : Int) else (posternref04_Of.f k pa (toR (rd_T43 l ((bg l p : Nat) : Int)) (bg l p)).1).bind fun t329 => (posternref04_Of.f k pa ((bg l p : Nat) : Int)).bind fun t330 => if t329 = t330 then posternref04_Check.l2 k l (begI l) pa (begI l) ((begI l).length : Int) ((p + 1 : Nat) : Int) else some (((bg l p : Nat) : Int), 43)) else none) else none) else posternref04_Check.l2 k l (begI l) pa (begI l) ((begI l).length : Int) ((p + 1 : Nat) : Int)) (q, if (cbR l pa (bg l p) || ((begins l).drop (p + 1)).any (cbR l pa)) = true then 43 else e) := by
   unfold cbR at h0 ⊢
   by_cases hj : (toR (rd_T43 l ((bg l p : Nat) : Int)) (bg l p)).2 = true
   ·
    by_cases h133 : (rd_T43 l ((bg l p : Nat) : Int)).f0 = 133
    ·
     rw [hj, decide_eq_true h133]
     exact ⟨q0, Evt.congr h0 (fun k => by rw [if_pos rfl, if_pos (by omega), if_pos (by omega), if_pos h133])⟩
    ·
     by_cases ho : ofR pa (toR (rd_T43 l ((bg l p : Nat) : Int)) (bg l p)).1 = ofR pa ((bg l p : Nat) : Int)
     ·
      rw [hj, decide_eq_true ho, decide_eq_false h133]
      refine ⟨q0, Evt.congr (g' := fun k => (posternref04_Of.f k pa (toR (rd_T43 l ((bg l p : Nat) : Int)) (bg l p)).1).bind fun t329 => (posternref04_Of.f k pa ((bg l p : Nat) : Int)).bind fun t330 => if t329 = t330 then posternref04_Check.l2 k l (begI l) pa (begI l) ((begI l).length : Int) ((p + 1 : Nat) : Int) else some (((bg l p : Nat) : Int), 43)) ?_ (fun k => by rw [if_pos rfl, if_pos (by omega), if_pos (by omega), if_neg h133])⟩
      refine Evt.bind (rof pa hpa _) (Evt.bind (rof pa hpa _) ?_)
      exact Evt.congr h0 (fun k => by rw [if_pos ho])
     ·
      rw [hj, decide_eq_false ho, decide_eq_false h133]
      refine ⟨((bg l p : Nat) : Int), Evt.congr (g' := fun k => (posternref04_Of.f k pa (toR (rd_T43 l ((bg l p : Nat) : Int)) (bg l p)).1).bind fun t329 => (posternref04_Of.f k pa ((bg l p : Nat) : Int)).bind fun t330 => if t329 = t330 then posternref04_Check.l2 k l (begI l) pa (begI l) ((begI l).length : Int) ((p + 1 : Nat) : Int) else some (((bg l p : Nat) : Int), 43)) ?_ (fun k => by rw [if_pos rfl, if_pos (by omega), if_pos (by omega), if_neg h133])⟩
      refine Evt.bind (rof pa hpa _) (Evt.bind (rof pa hpa _) ?_)
      exact Evt.congr (Evt.const _) (fun k => by rw [if_neg ho]; rfl)
   ·
    have hj' : (toR (rd_T43 l ((bg l p : Nat) : Int)) (bg l p)).2 = false := by simpa using hj
    rw [hj']
    exact ⟨q0, Evt.congr h0 (fun k => by rw [if_neg (by decide)])⟩
  obtain ⟨q1, h1⟩ := key
  refine ⟨q1, ?_⟩
  apply Evt.step2
  ·
   intro k
   simp only [posternref04_Check.l2, ew]
   rw [if_pos (by omega), if_pos (by omega), if_pos (by omega), rd_beg l p hpl]
  ·
   exact Evt.bind (Evt.of 1 fun k hk => rto l hP (bg l p) hq k hk) h1

theorem rc1 (l : List I) (hP : Prog l) (pa : List Int) (hpa : pa.length < 1000000) (e : Int) (hR : ∃ q, Evt (fun k => posternref04_Check.l2 k l (begI l) pa (begI l) ((begI l).length : Int) 0) (q, e)) : ∀ (f p : Nat), p + f = (begins l).length →
  ∃ q, Evt (fun k => posternref04_Check.l1 k l (begI l) pa (begI l) ((begI l).length : Int) (p : Int)) (q, if ((begins l).drop p).any (jbR l) = true then 43 else e) := by
 have hbl := begI_length l
 have hbn := begins_length l
 have hsm := hP.small
 intro f
 induction f with
 | zero =>
  intro p hp
  obtain ⟨q, h⟩ := hR
  refine ⟨q, ?_⟩
  rw [List.drop_eq_nil_of_le (by omega)]
  apply Evt.step2
  ·
   intro k
   simp only [posternref04_Check.l1]
   rw [if_neg (by omega)]
  ·
   exact h
 | succ f ih =>
  intro p hp
  obtain ⟨q0, h0⟩ := ih (p + 1) (by omega)
  have ew : wrap64 ((p : Int) + 1) = ((p + 1 : Nat) : Int) := by unfold wrap64; omega
  have hpl : p < (begins l).length := by omega
  have hq := begins_lt l _ (bg_mem l p hpl)
  rw [bg_drop l p hpl, List.any_cons]
  have key : ∃ q, Evt (fun k => if (toR (rd_T43 l ((bg l p : Nat) : Int)) (bg l p)).2 = true then (posternref04_In.f k (begI l) (toR (rd_T43 l ((bg l p : Nat) : Int)) (bg l p)).1).bind fun t324 => (if t324 = true then posternref04_Check.l1 k l (begI l) pa (begI l) ((begI l).length : Int) ((p + 1 : Nat) : Int) else some (((bg l p : Nat) : Int), 43)) else posternref04_Check.l1 k l (begI l) pa (begI l) ((begI l).length : Int) ((p + 1 : Nat) : Int)) (q, if (jbR l (bg l p) || ((begins l).drop (p + 1)).any (jbR l)) = true then 43 else e) := by
   unfold jbR at h0 ⊢
   by_cases hj : (toR (rd_T43 l ((bg l p : Nat) : Int)) (bg l p)).2 = true
   ·
    have hin := rin (begI l) (by omega) (toR (rd_T43 l ((bg l p : Nat) : Int)) (bg l p)).1
    by_cases hm : (toR (rd_T43 l ((bg l p : Nat) : Int)) (bg l p)).1 ∈ begI l
    ·
     rw [decide_eq_true hm] at hin ⊢
     rw [hj]
     refine ⟨q0, Evt.congr (g' := fun k => (posternref04_In.f k (begI l) (toR (rd_T43 l ((bg l p : Nat) : Int)) (bg l p)).1).bind fun t324 => (if t324 = true then posternref04_Check.l1 k l (begI l) pa (begI l) ((begI l).length : Int) ((p + 1 : Nat) : Int) else some (((bg l p : Nat) : Int), 43))) ?_ (fun k => by rw [if_pos rfl])⟩
     exact Evt.bind hin (Evt.congr h0 (fun k => by rw [if_pos rfl]))
    ·
     rw [decide_eq_false hm] at hin ⊢
     rw [hj]
     refine ⟨((bg l p : Nat) : Int), Evt.congr (g' := fun k => (posternref04_In.f k (begI l) (toR (rd_T43 l ((bg l p : Nat) : Int)) (bg l p)).1).bind fun t324 => (if t324 = true then posternref04_Check.l1 k l (begI l) pa (begI l) ((begI l).length : Int) ((p + 1 : Nat) : Int) else some (((bg l p : Nat) : Int), 43))) ?_ (fun k => by rw [if_pos rfl])⟩
     exact Evt.bind hin (Evt.congr (Evt.const _) (fun k => by rw [if_neg (by decide)]; rfl))
   ·
    have hj' : (toR (rd_T43 l ((bg l p : Nat) : Int)) (bg l p)).2 = false := by simpa using hj
    rw [hj']
    exact ⟨q0, Evt.congr h0 (fun k => by rw [if_neg (by decide)])⟩
  obtain ⟨q1, h1⟩ := key
  refine ⟨q1, ?_⟩
  apply Evt.step2
  ·
   intro k
   simp only [posternref04_Check.l1, ew]
   rw [if_pos (by omega), if_pos (by omega), if_pos (by omega), rd_beg l p hpl]
  ·
   exact Evt.bind (Evt.of 1 fun k hk => rto l hP (bg l p) hq k hk) h1

def errOr (o : Option (Nat × Int)) (e : Int) : Int := match o with | some (_, e') => e' | none => e
theorem rc0 (l : List I) (hP : Prog l) (e : Int) : ∀ (n p : Nat), l.length - p ≤ n → p ≤ l.length →
  (firstBad n (l.drop p) p = none → ∃ q, Evt (fun k => (posternref04_Begin.f k l).bind fun t315 => (posternref04_Parts.f k l).bind fun t318 => posternref04_Check.l1 k l t315 t318 t315 (t315.length : Int) 0) (q, e)) →
  ∃ q, Evt (fun k => posternref04_Check.l0 k l (p : Int)) (q, errOr (firstBad n (l.drop p) p) e) := by
 have hsm := hP.small
 have hend : ∀ p n, l.length ≤ p → (firstBad n (l.drop p) p = none → ∃ q, Evt (fun k => (posternref04_Begin.f k l).bind fun t315 => (posternref04_Parts.f k l).bind fun t318 => posternref04_Check.l1 k l t315 t318 t315 (t315.length : Int) 0) (q, e)) → ∃ q, Evt (fun k => posternref04_Check.l0 k l (p : Int)) (q, errOr (firstBad n (l.drop p) p) e) := by
  intro p n hp hR
  have hn : firstBad n (l.drop p) p = none := by
   rw [List.drop_eq_nil_of_le hp]
   cases n <;> rfl
  obtain ⟨q, h⟩ := hR hn
  rw [hn]
  refine ⟨q, ?_⟩
  apply Evt.step2
  ·
   intro k
   simp only [posternref04_Check.l0]
   rw [if_neg (by omega)]
  ·
   exact h
 intro n
 induction n with
 | zero => intro p hn hp hR; exact hend p 0 (by omega) hR
 | succ n ih =>
  intro p hn hp hR
  by_cases h : p < l.length
  ·
   obtain ⟨t, ht⟩ := rd_drop l p h
   have hx := hP.at_ p h
   have hw := fun he => plainS_width (l.drop p) he
   have hlen : (l.drop p).length = l.length - p := by simp
   have hpl : Evt (fun k => posternref02_Plain.f k l (p : Int)) (plainS (l.drop p)) := Evt.of 7 fun k hk => rplain l hP p h k hk
   have hwr := Evt.of (g := fun k => posternref04_wrong.f k (rd_T43 l p).f0 (rd_T43 l p).f1 (rd_T43 l p).f2 (rd_T43 l p).f3 (rd_T43 l p).f4) 4 fun k hk => rwrong (rd_T43 l p) hx k hk
   have hfb : firstBad (n + 1) (l.drop p) p = if (plainS (l.drop p)).2 = 0 then (if fieldB (rd_T43 l p) = true then some (p, 42) else firstBad n ((l.drop p).drop (plainS (l.drop p)).1.toNat) (p + (plainS (l.drop p)).1.toNat)) else some (p, (plainS (l.drop p)).2) := by
    rw [ht]; rfl
   rw [hfb] at hR ⊢
   by_cases he : (plainS (l.drop p)).2 = 0
   ·
    have hw' := hw he
    have ew : wrap64 ((p : Int) + (plainS (l.drop p)).1) = ((p + (plainS (l.drop p)).1.toNat : Nat) : Int) := by unfold wrap64; omega
    rw [if_pos he] at hR ⊢
    cases hf : fieldB (rd_T43 l p) with
    | true =>
     rw [if_pos rfl]
     refine ⟨(p : Int), ?_⟩
     rw [hf] at hwr
     apply Evt.step2
     ·
      intro k
      simp only [posternref04_Check.l0]
      rw [if_pos (by omega)]
     ·
      refine Evt.bind hpl (Evt.congr (g' := fun k => (posternref04_wrong.f k (rd_T43 l p).f0 (rd_T43 l p).f1 (rd_T43 l p).f2 (rd_T43 l p).f3 (rd_T43 l p).f4).bind fun t314 => if t314 = true then some ((p : Int), 42) else posternref04_Check.l0 k l (wrap64 ((p : Int) + (plainS (l.drop p)).1))) ?_ (fun k => by rw [if_pos he, if_pos (by omega)]))
      exact Evt.bind hwr (Evt.congr (Evt.const _) (fun k => by rw [if_pos rfl]; rfl))
    | false =>
     rw [if_neg (by decide), List.drop_drop]
     rw [hf, if_neg (by decide), List.drop_drop] at hR
     obtain ⟨q, hq⟩ := ih (p + (plainS (l.drop p)).1.toNat) (by omega) (by omega) hR
     refine ⟨q, ?_⟩
     rw [hf] at hwr
     apply Evt.step2
     ·
      intro k
      simp only [posternref04_Check.l0]
      rw [if_pos (by omega)]
     ·
      refine Evt.bind hpl (Evt.congr (g' := fun k => (posternref04_wrong.f k (rd_T43 l p).f0 (rd_T43 l p).f1 (rd_T43 l p).f2 (rd_T43 l p).f3 (rd_T43 l p).f4).bind fun t314 => if t314 = true then some ((p : Int), 42) else posternref04_Check.l0 k l (wrap64 ((p : Int) + (plainS (l.drop p)).1))) ?_ (fun k => by rw [if_pos he, if_pos (by omega)]))
      exact Evt.bind hwr (Evt.congr hq (fun k => by rw [if_neg (by decide), ew]))
   ·
    rw [if_neg he]
    refine ⟨(p : Int), ?_⟩
    apply Evt.step2
    ·
     intro k
     simp only [posternref04_Check.l0]
     rw [if_pos (by omega)]
    ·
     exact Evt.bind hpl (Evt.congr (Evt.const _) (fun k => by rw [if_neg he]; rfl))
  ·
   exact hend p (n + 1) (by omega) hR
end Go.Proofs.Ytmijlibnembkaaa.Pure
