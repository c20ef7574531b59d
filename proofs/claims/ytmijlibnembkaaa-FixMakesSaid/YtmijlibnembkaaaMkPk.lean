/- Plain facts on the printed shape.Check: it comes to an answer for every list, and what 'no error' says. -/
import Derived.Test.YtmijlibnembkaaaMkPc
namespace Go.Proofs.Ytmijlibnembkaaa.Pure
open Go.RowKit Go.Proofs.Ytmijlibnembkaaa.PA Go.Proofs.YtmijlibnembkaaaW.PrintWords Go.Proofs.YtmijlibnembkaaaW.PrintLast Go.Proofs.YtmijlibnembkaaaX
set_option linter.unusedVariables false
set_option linter.unusedSimpArgs false

/-! ### the first loop: plain instructions, fields -/
def firstBad : Nat → List I → Nat → Option (Nat × Int)
 | 0, _, _ => none
 | _ + 1, [], _ => none
 | n + 1, x :: t, p => if (plainS (x :: t)).2 = 0 then (if fieldB x = true then some (p, 42) else firstBad n ((x :: t).drop (plainS (x :: t)).1.toNat) (p + (plainS (x :: t)).1.toNat)) else some (p, (plainS (x :: t)).2)
def orElse_ (o : Option (Nat × Int)) (r : Int × Int) : Int × Int := match o with | some (q, e) => ((q : Int), e) | none => r
def C1 (k : Nat) (l : List I) : Option (Int × Int) := (shape_Starts.f k l).bind fun st => (shape_Parts.f k l).bind fun pa => shape_Check.l1 k l st pa st (st.length : Int) 0

theorem plainS_err (s : List I) : (plainS s).2 = 0 ∨ (plainS s).2 = 2 ∨ (plainS s).2 = 41 ∨ (plainS s).2 = 42 := by
 cases s with
 | nil => simp [plainS]
 | cons x t =>
  simp only [plainS]
  unfold plainX
  repeat' split
  all_goals simp

theorem loop1 (l : List I) (hP : Prog l) (R : Int × Int) : ∀ (n p : Nat), l.length - p ≤ n → p ≤ l.length → (firstBad n (l.drop p) p = none → Evt (fun k => C1 k l) R) →
  Evt (fun k => shape_Check.l0 k l (p : Int)) (orElse_ (firstBad n (l.drop p) p) R) := by
 have hsm := hP.small
 have hend : ∀ p n, l.length ≤ p → (firstBad n (l.drop p) p = none → Evt (fun k => C1 k l) R) → Evt (fun k => shape_Check.l0 k l (p : Int)) (orElse_ (firstBad n (l.drop p) p) R) := by
  intro p n hp hR
  have : firstBad n (l.drop p) p = none := by
   rw [List.drop_eq_nil_of_le hp]
   cases n <;> rfl
  rw [this]
  apply Evt.step2
  ·
   intro k
   simp only [shape_Check.l0]
   rw [if_neg (by omega)]
  ·
   exact hR this
 intro n
 induction n with
 | zero => intro p hn hp hR; exact hend p 0 (by omega) hR
 | succ n ih =>
  intro p hn hp hR
  by_cases h : p < l.length
  ·
   obtain ⟨t, ht⟩ := rd_drop l p h
   have hx := hP.at_ p h
   have hw := fun he => plainS_width (l.drop p) he
   rw [List.length_drop] at hw
   have hpl : Evt (fun k => insn_Plain.f k l (p : Int)) (plainS (l.drop p)) := Evt.of 6 fun k hk => plain_eq l p (by omega) hP.ok k hk
   have hfi : Evt (fun k => shape_field.f k (rd_T43 l p).f0 (rd_T43 l p).f1 (rd_T43 l p).f2 (rd_T43 l p).f3 (rd_T43 l p).f4) (fieldB (rd_T43 l p)) := Evt.of 4 fun k hk => field_eq k hk _
   have hih := fun he : (plainS (l.drop p)).2 = 0 => ih (p + (plainS (l.drop p)).1.toNat) (by have := hw he; omega) (by have := hw he; omega)
   have herr := plainS_err (l.drop p)
   simp only [← List.drop_drop] at hih
   rw [ht] at hw hpl hih herr hR ⊢
   generalize hps : plainS (rd_T43 l p :: t) = r at hw hpl hih herr
   obtain ⟨wd, e⟩ := r
   dsimp only at hw hih herr
   have hfb : firstBad (n + 1) (rd_T43 l p :: t) p = if e = 0 then (if fieldB (rd_T43 l p) = true then some (p, 42) else firstBad n ((rd_T43 l p :: t).drop wd.toNat) (p + wd.toNat)) else some (p, e) := by
    simp only [firstBad, hps]
   rw [hfb] at hR ⊢
   have key : Evt (fun k => if e = 0 then (if 0 ≤ (p : Int) then (shape_field.f k (rd_T43 l p).f0 (rd_T43 l p).f1 (rd_T43 l p).f2 (rd_T43 l p).f3 (rd_T43 l p).f4).bind fun t427 => shape_Check.j2 k l p wd e t427 else none) else shape_Check.j2 k l p wd e false)
     (orElse_ (if e = 0 then (if fieldB (rd_T43 l p) = true then some (p, 42) else firstBad n ((rd_T43 l p :: t).drop wd.toNat) (p + wd.toNat)) else some (p, e)) R) := by
    by_cases he : e = 0
    ·
     subst he
     simp only [if_true]
     have hwd := hw rfl
     have ew : wrap64 ((p : Int) + wd) = ((p + wd.toNat : Nat) : Int) := by unfold wrap64; omega
     refine Evt.congr (g' := fun k => (shape_field.f k (rd_T43 l p).f0 (rd_T43 l p).f1 (rd_T43 l p).f2 (rd_T43 l p).f3 (rd_T43 l p).f4).bind fun t427 => shape_Check.j2 k l p wd 0 t427) ?_ (fun k => by rw [if_pos (by omega)])
     refine Evt.bind hfi ?_
     cases hf : fieldB (rd_T43 l p) with
     | true =>
      rw [if_pos rfl]
      apply Evt.step2
      ·
       intro k
       simp only [shape_Check.j2, if_true]
       rfl
      ·
       exact Evt.const _
     | false =>
      rw [if_neg (by decide)]
      apply Evt.step2
      ·
       intro k
       simp only [shape_Check.j2, if_true, Bool.false_eq_true, if_false, ew]
       rfl
      ·
       exact hih rfl (fun hn => hR (by rw [if_pos rfl, hf, if_neg (by decide)]; exact hn))
    ·
     rw [if_neg he]
     refine Evt.congr (g' := fun k => shape_Check.j2 k l p wd e false) ?_ (fun k => by rw [if_neg he])
     apply Evt.step2
     ·
      intro k
      simp only [shape_Check.j2, Bool.false_eq_true, if_false, if_neg he]
      rfl
     ·
      exact Evt.const _
   apply Evt.step2
   ·
    intro k
    simp only [shape_Check.l0]
    rw [if_pos (by omega)]
   ·
    exact Evt.bind hpl key
  ·
   exact hend p (n + 1) (by omega) hR

/-! ### the second loop: jumps lead to instructions -/
def jumpBad (l : List I) (i : Nat) : Bool := decide (i ∈ begins l) && (jmp (rd_T43 l i)).2 && !((tgt l i).2 && decide ((tgt l i).1.toNat ∈ begins l))
def firstFrom (P : Nat → Bool) : Nat → Nat → Option Nat
 | 0, _ => none
 | n + 1, i => if P i = true then some i else firstFrom P n (i + 1)
def orElse43 (o : Option Nat) (r : Int × Int) : Int × Int := match o with | some i => ((i : Int), 43) | none => r

theorem wrap_succ (l : List I) (hP : Prog l) (i : Nat) (hi : i ≤ l.length) : wrap64 ((i : Int) + 1) = ((i + 1 : Nat) : Int) := by
 have := hP.small; unfold wrap64; omega

theorem loop2 (l : List I) (hP : Prog l) (pa : List Int) (R : Int × Int) (hR : Evt (fun k => shape_Check.l2 k l (starts l) pa (starts l) ((starts l).length : Int) 0) R) : ∀ (n i : Nat), l.length - i ≤ n → i ≤ l.length →
  Evt (fun k => shape_Check.l1 k l (starts l) pa (starts l) ((starts l).length : Int) (i : Int)) (orElse43 (firstFrom (jumpBad l) (l.length - i) i) R) := by
 have hsm := hP.small
 have hsl := starts_length l
 intro n
 induction n with
 | zero =>
  intro i hn hi
  rw [show l.length - i = 0 by omega]
  apply Evt.step2
  ·
   intro k
   simp only [shape_Check.l1]
   rw [if_neg (by omega)]
  ·
   exact hR
 | succ n ih =>
  intro i hn hi
  by_cases h : i < l.length
  ·
   have hx := hP.at_ i h
   have ew := wrap_succ l hP i hi
   have hnext := ih (i + 1) (by omega) (by omega)
   have hst := starts_get l i h
   rw [show l.length - i = (l.length - (i + 1)) + 1 by omega]
   simp only [firstFrom]
   have hno : jumpBad l i = false → Evt (fun k => shape_Check.l1 k l (starts l) pa (starts l) ((starts l).length : Int) ((i + 1 : Nat) : Int)) (orElse43 (if jumpBad l i = true then some i else firstFrom (jumpBad l) (l.length - (i + 1)) (i + 1)) R) := by
    intro hb
    rw [hb, if_neg (by decide)]
    exact hnext
   have hyes : jumpBad l i = true → orElse43 (if jumpBad l i = true then some i else firstFrom (jumpBad l) (l.length - (i + 1)) (i + 1)) R = ((i : Int), 43) := by
    intro hb
    rw [hb, if_pos rfl]
    rfl
   have key : Evt (fun k => if rdOf false (starts l) (i : Int) = true then shape_Check.j4 k l (starts l) pa (i : Int) (starts l) ((starts l).length : Int) (i : Int) (jmp (rd_T43 l i)).2 else shape_Check.j4 k l (starts l) pa (i : Int) (starts l) ((starts l).length : Int) (i : Int) false)
     (orElse43 (if jumpBad l i = true then some i else firstFrom (jumpBad l) (l.length - (i + 1)) (i + 1)) R) := by
    have hfalse : jumpBad l i = false → Evt (fun k => shape_Check.j4 k l (starts l) pa (i : Int) (starts l) ((starts l).length : Int) (i : Int) false) (orElse43 (if jumpBad l i = true then some i else firstFrom (jumpBad l) (l.length - (i + 1)) (i + 1)) R) := by
     intro hb
     apply Evt.step2
     ·
      intro k
      simp only [shape_Check.j4, Bool.false_eq_true, if_false, ew]
      rfl
     ·
      exact hno hb
    by_cases hb : i ∈ begins l
    ·
     refine Evt.congr (g' := fun k => shape_Check.j4 k l (starts l) pa (i : Int) (starts l) ((starts l).length : Int) (i : Int) (jmp (rd_T43 l i)).2) ?_ (fun k => by rw [hst, if_pos (by simp [hb])])
     cases hj : (jmp (rd_T43 l i)).2 with
     | false => exact hfalse (by simp [jumpBad, hj])
     | true =>
      apply Evt.step2
      ·
       intro k
       simp only [shape_Check.j4, if_true, ew]
       rfl
      ·
       refine Evt.bind (Evt.of 1 fun k hk => target_eq l i h (by omega) hP.ok k hk) ?_
       have hr := tgt_range l i
       cases ht : (tgt l i).2 with
       | false =>
        rw [hyes (by simp [jumpBad, hb, hj, ht])]
        exact Evt.congr (Evt.const _) (fun k => by rw [if_neg (by decide)])
       | true =>
        have hr := hr ht
        have hto : rdOf false (starts l) (tgt l i).1 = decide ((tgt l i).1.toNat ∈ begins l) := by
         have := starts_get l (tgt l i).1.toNat (by omega)
         rwa [Int.toNat_of_nonneg hr.1] at this
        by_cases hm : (tgt l i).1.toNat ∈ begins l
        ·
         refine Evt.congr (hno (by simp [jumpBad, ht, hm])) (fun k => ?_)
         rw [if_pos rfl, if_pos hr.1, if_pos (by omega), hto, if_pos (by simp [hm])]
        ·
         rw [hyes (by simp [jumpBad, hb, hj, ht, hm])]
         refine Evt.congr (Evt.const _) (fun k => ?_)
         rw [if_pos rfl, if_pos hr.1, if_pos (by omega), hto, if_neg (by simp [hm])]
    ·
     refine Evt.congr (hfalse (by simp [jumpBad, hb])) (fun k => by rw [hst, if_neg (by simp [hb])])
   apply Evt.step2
   ·
    intro k
    simp only [shape_Check.l1]
    rw [if_pos (by omega), if_pos (by omega), if_pos (by omega), if_pos (by omega)]
   ·
    exact Evt.bind (Evt.of 1 fun k hk => jumps_eq k hk _ hx) key
  ·
   rw [show l.length - i = 0 by omega]
   apply Evt.step2
   ·
    intro k
    simp only [shape_Check.l1]
    rw [if_neg (by omega)]
   ·
    exact hR

/-! ### the third loop: no jump leads into another part -/
def partOf (pa : List Int) (x : Int) : Int := if pa.contains x = true then (pa.countP (· < x) : Nat) else wrap64 ((pa.countP (· < x) : Nat) - 1)
structure PartsOk (l : List I) (pa : List Int) : Prop where
 lt : pa.Pairwise (· < ·)
 ne : pa.length ≠ 0
 range : ∀ x ∈ pa, 0 ≤ x ∧ x < l.length
 small : pa.length < 4611686018427387904
theorem part_eq {l : List I} {pa : List Int} (h : PartsOk l pa) (x : Int) : shape_part.f pa x = some (partOf pa x) := by
 unfold shape_part.f
 have h2 : pa.Pairwise (· ≤ ·) := h.lt.imp (fun h => by omega)
 have := h.small
 rw [if_neg h.ne, if_neg (by omega), if_pos h2]
 rfl
def crossBad (l : List I) (pa : List Int) (i : Nat) : Bool := decide (i ∈ begins l) && (tgt l i).2 && decide ((rd_T43 l i).f0 ≠ 133) && decide (partOf pa (tgt l i).1 ≠ partOf pa i)

theorem loop3 (l : List I) (hP : Prog l) (pa : List Int) (hpa : PartsOk l pa) (R : Int × Int) (hR : Evt (fun k => shape_Check.l3 k l (starts l) pa (pa.length : Int) 0) R) : ∀ (n i : Nat), l.length - i ≤ n → i ≤ l.length →
  Evt (fun k => shape_Check.l2 k l (starts l) pa (starts l) ((starts l).length : Int) (i : Int)) (orElse43 (firstFrom (crossBad l pa) (l.length - i) i) R) := by
 have hsm := hP.small
 have hsl := starts_length l
 intro n
 induction n with
 | zero =>
  intro i hn hi
  rw [show l.length - i = 0 by omega]
  apply Evt.step2
  ·
   intro k
   simp only [shape_Check.l2]
   rw [if_neg (by omega)]
  ·
   exact hR
 | succ n ih =>
  intro i hn hi
  by_cases h : i < l.length
  ·
   have ew := wrap_succ l hP i hi
   have hnext := ih (i + 1) (by omega) (by omega)
   have hst := starts_get l i h
   rw [show l.length - i = (l.length - (i + 1)) + 1 by omega]
   simp only [firstFrom]
   have hno : crossBad l pa i = false → Evt (fun k => shape_Check.l2 k l (starts l) pa (starts l) ((starts l).length : Int) ((i + 1 : Nat) : Int)) (orElse43 (if crossBad l pa i = true then some i else firstFrom (crossBad l pa) (l.length - (i + 1)) (i + 1)) R) := by
    intro hb
    rw [hb, if_neg (by decide)]
    exact hnext
   have hyes : crossBad l pa i = true → orElse43 (if crossBad l pa i = true then some i else firstFrom (crossBad l pa) (l.length - (i + 1)) (i + 1)) R = ((i : Int), 43) := by
    intro hb
    rw [hb, if_pos rfl]
    rfl
   apply Evt.step2
   ·
    intro k
    simp only [shape_Check.l2]
    rw [if_pos (by omega), if_pos (by omega), if_pos (by omega)]
   ·
    refine Evt.bind (Evt.of 1 fun k hk => target_eq l i h (by omega) hP.ok k hk) ?_
    rw [hst]
    by_cases hb : i ∈ begins l
    ·
     cases ht : (tgt l i).2 with
     | false =>
      refine Evt.congr (hno (by simp [crossBad, ht])) (fun k => ?_)
      rw [if_pos (by simp [hb]), if_neg (by decide), ew]
     | true =>
      by_cases ho : (rd_T43 l (i : Int)).f0 = 133
      ·
       refine Evt.congr (hno (by simp [crossBad, ho])) (fun k => ?_)
       rw [if_pos (by simp [hb]), if_pos rfl, if_pos (by omega), if_pos ho, ew]
      ·
       by_cases hp : partOf pa (tgt l i).1 = partOf pa (i : Int)
       ·
        refine Evt.congr (hno (by simp [crossBad, hp])) (fun k => ?_)
        rw [if_pos (by simp [hb]), if_pos rfl, if_pos (by omega), if_neg ho, part_eq hpa, part_eq hpa, Option.bind_some, Option.bind_some, if_pos hp, ew]
       ·
        rw [hyes (by simp [crossBad, hb, ht, ho, hp])]
        refine Evt.congr (Evt.const _) (fun k => ?_)
        rw [if_pos (by simp [hb]), if_pos rfl, if_pos (by omega), if_neg ho, part_eq hpa, part_eq hpa, Option.bind_some, Option.bind_some, if_neg hp]
    ·
     refine Evt.congr (hno (by simp [crossBad, hb])) (fun k => ?_)
     rw [if_neg (by simp [hb]), ew]
  ·
   rw [show l.length - i = 0 by omega]
   apply Evt.step2
   ·
    intro k
    simp only [shape_Check.l2]
    rw [if_neg (by omega)]
   ·
    exact hR

/-! ### the last loops: each part ends in an exit or a jump -/
def lastB (l : List I) : Nat → Nat
 | 0 => 0
 | n + 1 => if n + 1 ∈ begins l then n + 1 else lastB l n
theorem lastB_le (l : List I) (n : Nat) : lastB l n ≤ n := by
 induction n with
 | zero => exact Nat.le_refl _
 | succ n ih => unfold lastB; split <;> omega
def endAt (l : List I) (pa : List Int) (j : Nat) : Nat := lastB l ((if j + 1 < pa.length then (pa.getD (j + 1) 0).toNat else l.length) - 1)
def endBad (l : List I) (pa : List Int) (j : Nat) : Bool := decide ((rd_T43 l (endAt l pa j)).f0 ≠ 149) && decide ((rd_T43 l (endAt l pa j)).f0 ≠ 5)
def firstEnd (l : List I) (pa : List Int) : Nat → Nat → Option Nat
 | 0, _ => none
 | n + 1, j => if endBad l pa j = true then some (endAt l pa j) else firstEnd l pa n (j + 1)
def orElse44 (o : Option Nat) (r : Int × Int) : Int × Int := match o with | some i => ((i : Int), 44) | none => r

theorem loop5 (l : List I) (hP : Prog l) (pa : List Int) (j : Nat) (R : Int × Int) (h0 : 0 ∈ begins l) (hR : Evt (fun k => shape_Check.l3 k l (starts l) pa (pa.length : Int) (wrap64 ((j : Int) + 1))) R) : ∀ (q : Nat), q < l.length →
  Evt (fun k => shape_Check.l4 k l (starts l) pa (q : Int) (pa.length : Int) (j : Int)) (if (rd_T43 l (lastB l q)).f0 ≠ 149 ∧ (rd_T43 l (lastB l q)).f0 ≠ 5 then ((lastB l q : Int), 44) else R) := by
 have hsm := hP.small
 have hsl := starts_length l
 have there : ∀ q, q < l.length → q ∈ begins l → Evt (fun k => shape_Check.l4 k l (starts l) pa (q : Int) (pa.length : Int) (j : Int)) (if (rd_T43 l q).f0 ≠ 149 ∧ (rd_T43 l q).f0 ≠ 5 then ((q : Int), 44) else R) := by
  intro q hq hb
  have hst := starts_get l q hq
  apply Evt.step2
  ·
   intro k
   simp only [shape_Check.l4]
   rw [if_pos (by omega), if_pos (by omega), hst, if_pos (by simp [hb]), if_pos (by omega)]
  ·
   by_cases h1 : (rd_T43 l (q : Int)).f0 = 149
   ·
    rw [if_neg (by simp [h1])]
    exact Evt.congr hR (fun k => by rw [if_pos h1])
   ·
    by_cases h2 : (rd_T43 l (q : Int)).f0 = 5
    ·
     rw [if_neg (by simp [h2])]
     exact Evt.congr hR (fun k => by rw [if_neg h1, if_pos h2])
    ·
     rw [if_pos ⟨h1, h2⟩]
     exact Evt.congr (Evt.const _) (fun k => by rw [if_neg h1, if_neg h2])
 intro q
 induction q with
 | zero => intro hq; exact there 0 hq h0
 | succ q ih =>
  intro hq
  by_cases hb : q + 1 ∈ begins l
  ·
   unfold lastB
   rw [if_pos hb]
   exact there (q + 1) hq hb
  ·
   unfold lastB
   rw [if_neg hb]
   have hst := starts_get l (q + 1) hq
   have ew : wrap64 (((q + 1 : Nat) : Int) - 1) = (q : Int) := by unfold wrap64; omega
   apply Evt.step2
   ·
    intro k
    simp only [shape_Check.l4]
    rw [if_pos (by omega), if_pos (by omega), hst, if_neg (by simp [hb]), ew]
   ·
    exact ih (by omega)

theorem getD_mem (pa : List Int) (i : Nat) (h : i < pa.length) : pa.getD i 0 ∈ pa := by simp [h]

theorem loop4 (l : List I) (hP : Prog l) (pa : List Int) (hpa : PartsOk l pa) (h0 : 0 ∈ begins l) (hl0 : 0 < l.length) : ∀ (n j : Nat), pa.length - j ≤ n → j ≤ pa.length →
  Evt (fun k => shape_Check.l3 k l (starts l) pa (pa.length : Int) (j : Int)) (orElse44 (firstEnd l pa (pa.length - j) j) (0, 0)) := by
 have hsm := hP.small
 have hps := hpa.small
 intro n
 induction n with
 | zero =>
  intro j hn hj
  rw [show pa.length - j = 0 by omega]
  apply Evt.step2
  ·
   intro k
   simp only [shape_Check.l3]
   rw [if_neg (by omega)]
  ·
   exact Evt.const _
 | succ n ih =>
  intro j hn hj
  by_cases h : j < pa.length
  ·
   have ew : wrap64 ((j : Int) + 1) = ((j + 1 : Nat) : Int) := by unfold wrap64; omega
   have hnext := ih (j + 1) (by omega) (by omega)
   rw [show pa.length - j = (pa.length - (j + 1)) + 1 by omega]
   simp only [firstEnd]
   -- where the part ends
   have hfin : ∀ e : Nat, 1 ≤ e → e ≤ l.length → endAt l pa j = lastB l (e - 1) → Evt (fun k => shape_Check.j7 k l (starts l) pa (e : Int) (pa.length : Int) (j : Int)) (orElse44 (if endBad l pa j = true then some (endAt l pa j) else firstEnd l pa (pa.length - (j + 1)) (j + 1)) (0, 0)) := by
    intro e he1 he2 hz
    have ee : wrap64 ((e : Int) - 1) = ((e - 1 : Nat) : Int) := by unfold wrap64; omega
    apply Evt.step2
    ·
     intro k
     simp only [shape_Check.j7]
     rw [ee]
    ·
     have h5 := loop5 l hP pa j _ h0 (by rw [ew]; exact hnext) (e - 1) (by omega)
     rw [← hz] at h5
     by_cases hb : endBad l pa j = true
     ·
      rw [if_pos hb]
      rw [if_pos (by simpa [endBad] using hb)] at h5
      exact h5
     ·
      rw [if_neg hb]
      rw [if_neg (by simpa [endBad] using hb)] at h5
      exact h5
   by_cases hj1 : j + 1 < pa.length
   ·
    have hr := hpa.range _ (getD_mem pa (j + 1) hj1)
    have hr0 := hpa.range _ (getD_mem pa j h)
    have hlt : pa.getD j 0 < pa.getD (j + 1) 0 := by
     have := List.pairwise_iff_getElem.1 hpa.lt j (j + 1) h hj1 (by omega)
     simpa [h, hj1] using this
    have hgoal := hfin (pa.getD (j + 1) 0).toNat (by omega) (by omega) (by unfold endAt; rw [if_pos hj1])
    rw [Int.toNat_of_nonneg hr.1] at hgoal
    apply Evt.step2
    ·
     intro k
     simp only [shape_Check.l3]
     rw [if_pos (by omega), ew, if_pos (by omega), if_pos (by omega)]
    ·
     exact hgoal
   ·
    have hgoal := hfin l.length (by omega) (by omega) (by unfold endAt; rw [if_neg hj1])
    apply Evt.step2
    ·
     intro k
     simp only [shape_Check.l3]
     rw [if_pos (by omega), ew, if_neg (by omega)]
    ·
     exact hgoal
  ·
   rw [show pa.length - j = 0 by omega]
   apply Evt.step2
   ·
    intro k
    simp only [shape_Check.l3]
    rw [if_neg (by omega)]
   ·
    exact Evt.const _

/-! ### Check -/
def checkR (l : List I) : Int × Int :=
 if l.length = 0 ∨ 256 < l.length then (0, 40) else
  orElse_ (firstBad l.length l 0) (orElse43 (firstFrom (jumpBad l) l.length 0) (orElse43 (firstFrom (crossBad l (parts l)) l.length 0) (orElse44 (firstEnd l (parts l) (parts l).length 0) (0, 0))))

theorem parts_ok (l : List I) (hP : Prog l) (h : l.length ≠ 0) : PartsOk l (parts l) := by
 unfold parts
 rw [if_neg h]
 have hl := callsFrom_length l l.length 0
 have hd := dd_le (isort (0 :: callsFrom l l.length 0))
 rw [isort_length] at hd
 have := hP.small
 refine ⟨dd_lt _ (isort_sorted _), fun hz => ?_, fun x hx => ?_, by simp at hd; omega⟩
 ·
  have hm : (0 : Int) ∈ dd (isort (0 :: callsFrom l l.length 0)) := (dd_mem _ _).2 ((isort_mem _ _).2 (List.mem_cons_self))
  rw [List.length_eq_zero_iff.1 hz] at hm
  cases hm
 ·
  have hm := (isort_mem _ _).1 ((dd_mem _ _).1 hx)
  rcases List.mem_cons.1 hm with rfl | hm
  ·
   omega
  ·
   exact callsFrom_range l _ _ x hm

theorem begins_zero (l : List I) (h : l ≠ []) (hf : firstBad l.length l 0 = none) : 0 ∈ begins l := by
 cases l with
 | nil => exact absurd rfl h
 | cons x t =>
  simp only [List.length_cons, firstBad] at hf
  by_cases he : (plainS (x :: t)).2 = 0
  ·
   unfold begins
   simp only [List.length_cons, begFrom]
   rw [if_pos he]
   exact List.mem_cons_self
  ·
   rw [if_neg he] at hf
   cases hf

theorem Check_eq (l : List I) (hP : Prog l) : Evt (fun k => shape_Check.f k l) (checkR l) := by
 have hsm := hP.small
 unfold shape_Check.f checkR
 by_cases h0 : l.length = 0
 ·
  rw [if_pos (.inl h0)]
  refine Evt.congr (g' := fun k => shape_Check.j0 k l true) ?_ (fun k => by rw [if_pos (by omega)])
  apply Evt.step2
  ·
   intro k
   simp only [shape_Check.j0, if_true]
   rfl
  ·
   exact Evt.const _
 ·
  by_cases h1 : 256 < l.length
  ·
   rw [if_pos (.inr h1)]
   refine Evt.congr (g' := fun k => shape_Check.j0 k l true) ?_ (fun k => by rw [if_neg (by omega), show decide ((l.length : Int) > 256) = true from by simp; omega])
   apply Evt.step2
   ·
    intro k
    simp only [shape_Check.j0, if_true]
    rfl
   ·
    exact Evt.const _
  ·
   rw [if_neg (by omega)]
   refine Evt.congr (g' := fun k => shape_Check.j0 k l false) ?_ (fun k => by rw [if_neg (by omega), show decide ((l.length : Int) > 256) = false from by simp; omega])
   have hpa := parts_ok l hP h0
   apply Evt.step2
   ·
    intro k
    simp only [shape_Check.j0, Bool.false_eq_true, if_false]
    rfl
   ·
    refine loop1 l hP _ l.length 0 (by omega) (by omega) (fun hf => ?_)
    rw [List.drop_zero] at hf
    have hb := begins_zero l (fun e => h0 (by rw [e]; rfl)) hf
    have h4 := loop4 l hP (parts l) hpa hb (by omega) (parts l).length 0 (by omega) (by omega)
    have h3 := loop3 l hP (parts l) hpa _ h4 l.length 0 (by omega) (by omega)
    have h2 := loop2 l hP (parts l) _ h3 l.length 0 (by omega) (by omega)
    exact Evt.bind (Evt.of _ fun k hk => Starts_eq l (by omega) hP.ok k hk) (Evt.bind (Parts_eq l hP) h2)
end Go.Proofs.Ytmijlibnembkaaa.Pure
