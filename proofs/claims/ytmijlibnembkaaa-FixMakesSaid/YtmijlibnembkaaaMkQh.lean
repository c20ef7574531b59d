/- What the document's Fix (layer 19) answers for any notes and maps: what the program's does. -/
import Derived.Test.YtmijlibnembkaaaMkQg
import Derived.Test.YtmijlibnembkaaaMkPAx21
namespace Go.Proofs.Ytmijlibnembkaaa.Pure
open Go.RowKit Go.Proofs.Ytmijlibnembkaaa.PA Go.Proofs.YtmijlibnembkaaaW.PrintWords Go.Proofs.YtmijlibnembkaaaW.PrintLast Go.Proofs.YtmijlibnembkaaaX
set_option linter.unusedVariables false
set_option linter.unusedSimpArgs false

/-! ### the slots at which instructions begin, and all slots -/
theorem rising_extN : ∀ (a b : List Nat), a.Pairwise (· < ·) → b.Pairwise (· < ·) → (∀ x, x ∈ a ↔ x ∈ b) → a = b
 | [], [], _, _, _ => rfl
 | [], y :: b, _, _, h => absurd ((h y).2 List.mem_cons_self) (by simp)
 | x :: a, [], _, _, h => absurd ((h x).1 List.mem_cons_self) (by simp)
 | x :: a, y :: b, ha, hb, h => by
  have ha' := List.pairwise_cons.1 ha
  have hb' := List.pairwise_cons.1 hb
  have hx : x = y := by
   rcases List.mem_cons.1 ((h x).1 List.mem_cons_self) with e | h1
   ·
    exact e
   ·
    rcases List.mem_cons.1 ((h y).2 List.mem_cons_self) with e | h2
    ·
     exact e.symm
    ·
     have := hb'.1 x h1
     have := ha'.1 y h2
     omega
  subst hx
  have : a = b := by
   refine rising_extN a b ha'.2 hb'.2 (fun z => ⟨fun hz => ?_, fun hz => ?_⟩)
   ·
    have := ha'.1 z hz
    rcases List.mem_cons.1 ((h z).1 (List.mem_cons_of_mem _ hz)) with e | h'
    ·
     omega
    ·
     exact h'
   ·
    have := hb'.1 z hz
    rcases List.mem_cons.1 ((h z).2 (List.mem_cons_of_mem _ hz)) with e | h'
    ·
     omega
    ·
     exact h'
  rw [this]
theorem begins_filter (l : List I) : begins l = (List.range l.length).filter (fun q => decide (q ∈ begins l)) := by
 refine rising_extN _ _ (begins_rising l) (List.Pairwise.filter _ List.pairwise_lt_range) (fun x => ?_)
 rw [List.mem_filter, List.mem_range, decide_eq_true_eq]
 exact ⟨fun h => ⟨begins_lt l x h, h⟩, fun h => h.2⟩
theorem flatten_filter (p : Nat → Bool) (F : Nat → List I) (hF : ∀ q, p q = false → F q = []) : ∀ L : List Nat, ((L.filter p).map F).flatten = (L.map F).flatten := by
 intro L
 induction L with
 | nil => rfl
 | cons q t ih =>
  cases h : p q with
  | true => rw [List.filter_cons_of_pos h, List.map_cons, List.map_cons, List.flatten_cons, List.flatten_cons, ih]
  | false => rw [List.filter_cons_of_neg (by rw [h]; decide), List.map_cons, List.flatten_cons, hF q h, ih]; rfl
theorem cat_begins (l : List I) (F : Nat → List I) (hF : ∀ q, q ∉ begins l → F q = []) : cat F l.length = ((begins l).map F).flatten := by
 unfold cat
 conv => rhs; rw [begins_filter l]
 rw [flatten_filter _ F (fun q h => hF q (by simpa using h))]
def sumC (c : Nat → Int) : List Nat → Int
 | [] => 0
 | q :: t => c q + sumC c t
theorem sum_filter (p : Nat → Bool) (c : Nat → Int) (hc : ∀ q, p q = false → c q = 0) : ∀ L : List Nat, sumC c (L.filter p) = sumC c L := by
 intro L
 induction L with
 | nil => rfl
 | cons q t ih =>
  cases h : p q with
  | true => rw [List.filter_cons_of_pos h]; simp only [sumC]; rw [ih]
  | false => rw [List.filter_cons_of_neg (by rw [h]; decide)]; simp only [sumC]; rw [ih, hc q h]; omega
theorem sum_append (c : Nat → Int) : ∀ (a b : List Nat), sumC c (a ++ b) = sumC c a + sumC c b := by
 intro a
 induction a with
 | nil => intro b; simp [sumC]
 | cons q t ih => intro b; simp only [List.cons_append, sumC]; rw [ih]; omega
def ofs (P : Nat → List I) (p : Nat) : Int := ((cat P p).length : Int)
theorem ofs_succ (P : Nat → List I) (p : Nat) : ofs P (p + 1) = ofs P p + ((P p).length : Int) := by
 unfold ofs; rw [cat_succ, List.length_append]; omega
def cJ (P : Nat → List I) (at_ tt q : Nat) : Int := if at_ < q ∧ q < tt then ((P q).length : Int) else if tt ≤ q ∧ q ≤ at_ then -((P q).length : Int) else 0
theorem sum_range (P : Nat → List I) (at_ tt : Nat) : ∀ n, sumC (cJ P at_ tt) (List.range n) = ofs P (min n tt) - ofs P (min n (at_ + 1)) := by
 intro n
 induction n with
 | zero => simp [sumC]
 | succ n ih =>
  rw [List.range_succ, sum_append, ih]
  have hs := ofs_succ P n
  have e : sumC (cJ P at_ tt) [n] = cJ P at_ tt n := by simp [sumC]
  rw [e]
  unfold cJ
  by_cases a : n < tt
  ·
   by_cases b : n < at_ + 1
   ·
    rw [if_neg (by omega), if_neg (by omega), Nat.min_eq_left (Nat.le_of_lt a), Nat.min_eq_left (Nat.le_of_lt b), Nat.min_eq_left a, Nat.min_eq_left b]; omega
   ·
    rw [if_pos (by omega), Nat.min_eq_left (Nat.le_of_lt a), Nat.min_eq_right (Nat.le_of_not_lt b), Nat.min_eq_left a, Nat.min_eq_right (by omega), hs]; omega
  ·
   by_cases b : n < at_ + 1
   ·
    rw [if_neg (by omega), if_pos (by omega), Nat.min_eq_right (Nat.le_of_not_lt a), Nat.min_eq_left (Nat.le_of_lt b), Nat.min_eq_right (by omega), Nat.min_eq_left b, hs]; omega
   ·
    rw [if_neg (by omega), if_neg (by omega), Nat.min_eq_right (Nat.le_of_not_lt a), Nat.min_eq_right (Nat.le_of_not_lt b), Nat.min_eq_right (by omega), Nat.min_eq_right (by omega)]; omega

/-! ### the notes of slots where nothing begins -/
def badNN (l : List I) (notes : List Nt) (q : Nat) : Bool := !decide (q ∈ begins l) && badN notes q
theorem rf_l0 (l : List I) (hP : Prog l) (notes : List Nt) (hn : notes.length = l.length) (defs : List Df) (R : List I × Int) :
  ∀ (n p : Nat), p + n = l.length → (anyFrom (badNN l notes) n p = false → Evt (fun k => posternref19_Fix.l1 k l notes defs (begI l) ([] : List (List I)) 0 (begI l) ((begI l).length : Int) 0) R) → Evt (fun k => posternref19_Fix.l0 k l notes defs (begI l) notes (notes.length : Int) (p : Int)) (if anyFrom (badNN l notes) n p = true then ([], 2) else R) := by
 have hsm := hP.small
 have hbl := begI_length l
 have hbn := begins_length l
 intro n
 induction n with
 | zero =>
  intro p hp hR
  rw [show anyFrom (badNN l notes) 0 p = false from rfl, if_neg (by decide)]
  apply Evt.step2
  ·
   intro k
   simp only [posternref19_Fix.l0]
   rw [if_neg (by omega)]
  ·
   exact hR rfl
 | succ n ih =>
  intro p hp hR
  have ew := wrap_succ l hP p (by omega)
  have hnext := ih (p + 1) (by omega)
  have he : anyFrom (badNN l notes) (n + 1) p = (badNN l notes p || anyFrom (badNN l notes) n (p + 1)) := rfl
  have hin := rin (begI l) (by omega) (p : Int)
  rw [he] at hR
  rw [he]
  apply Evt.step2
  ·
   intro k
   simp only [posternref19_Fix.l0]
   rw [if_pos (by omega), if_pos (by omega), if_pos (by omega)]
  ·
   refine Evt.bind hin ?_
   unfold badNN at hnext hR ⊢
   by_cases hb : p ∈ begins l
   ·
    have hm : (p : Int) ∈ begI l := (mem_begI l _).2 ⟨by omega, by simpa using hb⟩
    rw [decide_eq_true hb] at hR
    rw [decide_eq_true hm, decide_eq_true hb]
    exact Evt.congr (hnext hR) (fun k => by rw [if_pos rfl, ew])
   ·
    have hm : ¬ (p : Int) ∈ begI l := fun h => hb (by simpa using ((mem_begI l _).1 h).2)
    rw [decide_eq_false hb] at hR
    rw [decide_eq_false hm, decide_eq_false hb]
    unfold badN at hnext hR ⊢
    cases hc : (nt notes p).f1 with
    | true =>
     have hc' : (rd_T34 notes (p : Int)).f1 = true := hc
     exact Evt.congr (Evt.const _) (fun k => by rw [if_neg (by decide), if_pos hc']; rfl)
    | false =>
     have hc' : ¬ (rd_T34 notes (p : Int)).f1 = true := by rw [show (rd_T34 notes (p : Int)).f1 = false from hc]; decide
     by_cases hm2 : (rd_T34 notes (p : Int)).f2 = 0
     ·
      rw [hc, show ((nt notes p).f2 != 0) = false from by simpa [nt] using hm2] at hR
      rw [show ((nt notes p).f2 != 0) = false from by simpa [nt] using hm2]
      exact Evt.congr (hnext hR) (fun k => by rw [if_neg (by decide), if_neg hc', if_pos hm2, ew])
     ·
      rw [show ((nt notes p).f2 != 0) = true from by simpa [nt] using hm2]
      exact Evt.congr (Evt.const _) (fun k => by rw [if_neg (by decide), if_neg hc', if_neg hm2]; rfl)

/-! ### what the instructions become -/
def badO (l : List I) (notes : List Nt) (defs : List Df) (q : Nat) : Bool := (pO l notes defs q).isNone
def rowsTo (l : List I) (P : Nat → List I) (p : Nat) : List (List I) := ((begins l).take p).map P
theorem take_bg (l : List I) (p : Nat) (h : p < (begins l).length) : (begins l).take (p + 1) = (begins l).take p ++ [bg l p] := by
 rw [List.take_succ_eq_append_getElem h, bg_get l p h]
theorem rowsTo_succ (l : List I) (P : Nat → List I) (p : Nat) (h : p < (begins l).length) : rowsTo l P (p + 1) = rowsTo l P p ++ [P (bg l p)] := by
 unfold rowsTo; rw [take_bg l p h, List.map_append]; rfl
theorem rowsTo_size (l : List I) (P : Nat → List I) (hP : ∀ q, (P q).length ≤ 8) (p : Nat) : (rowsTo l P p).flatten.length ≤ 8 * p := by
 unfold rowsTo
 have h : ∀ L : List Nat, ((L.map P).flatten).length ≤ 8 * L.length := by
  intro L
  induction L with
  | nil => simp
  | cons q t ih => rw [List.map_cons, List.flatten_cons, List.length_append, List.length_cons]; have := hP q; omega
 have := h ((begins l).take p)
 have h2 : ((begins l).take p).length ≤ p := List.length_take_le _ _
 omega
theorem rf_l1 (l : List I) (hP : Prog l) (notes : List Nt) (hn : notes.length = l.length) (defs : List Df) (hd : defs.length ≤ 140737488355328) (R : List I × Int) :
  ∀ (f p : Nat), p + f = (begins l).length →
  (((begins l).drop p).any (badO l notes defs) = false → Evt (fun k => if (((rowsTo l (pc l notes defs) (begins l).length).flatten.length : Nat) : Int) > 256 then some (([] : List I), 40) else posternref19_Fix.l2 k l (begI l) (rowsTo l (pc l notes defs) (begins l).length) ([] : List I) (begI l) ((begI l).length : Int) 0) R) →
  Evt (fun k => posternref19_Fix.l1 k l notes defs (begI l) (rowsTo l (pc l notes defs) p) (((rowsTo l (pc l notes defs) p).flatten.length : Nat) : Int) (begI l) ((begI l).length : Int) (p : Int)) (if ((begins l).drop p).any (badO l notes defs) = true then ([], 2) else R) := by
 have hsm := hP.small
 have hbl := begI_length l
 have hbn := begins_length l
 intro f
 induction f with
 | zero =>
  intro p hp hR
  have e : p = (begins l).length := by omega
  subst e
  rw [List.drop_eq_nil_of_le (Nat.le_refl _)] at hR ⊢
  rw [List.any_nil, if_neg (by decide)]
  apply Evt.step2
  ·
   intro k
   simp only [posternref19_Fix.l1]
   rw [if_neg (by omega)]
  ·
   exact hR rfl
 | succ f ih =>
  intro p hp hR
  have ew : wrap64 ((p : Int) + 1) = ((p + 1 : Nat) : Int) := by unfold wrap64; omega
  have hpl : p < (begins l).length := by omega
  have hbm := bg_mem l p hpl
  have hq := begins_lt l _ hbm
  have hx := hP.at_ _ hq
  obtain ⟨hkn, hw⟩ := begin_facts l _ hbm
  have hsz := rowsTo_size l (pc l notes defs) (pc_le l notes defs) p
  have hrl : (rowsTo l (pc l notes defs) p).length ≤ p := by unfold rowsTo; rw [List.length_map]; exact List.length_take_le _ _
  have hrs := rowsTo_succ l (pc l notes defs) p hpl
  have hnext := ih (p + 1) (by omega)
  have hone : Evt (fun k => posternref19_One.f k l ((bg l p : Nat) : Int) (nt notes (bg l p)).f0 (nt notes (bg l p)).f1 (nt notes (bg l p)).f2 defs) (pieceB (pO l notes defs (bg l p))) := Evt.of 5 fun k hk => rone_eq k hk l _ defs (nt notes (bg l p)) _ _ hq hsm hx.1.1 rfl rfl hw hd
  have hpc : pc l notes defs (bg l p) = (pO l notes defs (bg l p)).getD [] := by unfold pc; rw [if_pos hbm]
  rw [bg_drop l p hpl, List.any_cons] at hR ⊢
  apply Evt.step2
  ·
   intro k
   simp only [posternref19_Fix.l1]
   rw [if_pos (by omega), if_pos (by omega), if_pos (by omega), rd_beg l p hpl, if_pos (by omega), if_pos (by omega)]
  ·
   refine Evt.bind hone ?_
   cases hpo : pO l notes defs (bg l p) with
   | none =>
    have hb : badO l notes defs (bg l p) = true := by unfold badO; rw [hpo]; rfl
    rw [hb, Bool.true_or, if_pos rfl]
    exact Evt.congr (Evt.const ([], 2)) (fun k => if_neg (by decide))
   | some pp =>
    have hb : badO l notes defs (bg l p) = false := by unfold badO; rw [hpo]; rfl
    rw [hb, Bool.false_or] at hR ⊢
    rw [hpo, show (some pp).getD [] = pp from rfl] at hpc
    have h8 := piece_le _ _ _ _ _ hpo
    have hfl : (rowsTo l (pc l notes defs) (p + 1)).flatten.length = (rowsTo l (pc l notes defs) p).flatten.length + pp.length := by
     rw [hrs, List.flatten_append, List.length_append, hpc]; simp
    have ews : wrap64 ((((rowsTo l (pc l notes defs) p).flatten.length : Nat) : Int) + (pp.length : Int)) = (((rowsTo l (pc l notes defs) (p + 1)).flatten.length : Nat) : Int) := by rw [hfl]; unfold wrap64; omega
    refine Evt.congr (hnext hR) (fun k => ?_)
    rw [show pieceB (some pp) = (pp, true) from rfl, if_pos (show ((pp, true) : List I × Bool).2 = true from rfl)]
    dsimp only
    rw [if_pos (by omega), ews, ew, hrs, hpc]

/-! ### jumps are led anew -/
def RW (l : List I) (P : Nat → List I) (p : Nat) : List (List I) := (List.range (begins l).length).map (fun j => if j < p then pj l P (bg l j) else P (bg l j))
theorem RW_length (l : List I) (P : Nat → List I) (p : Nat) : (RW l P p).length = (begins l).length := by simp [RW]
theorem RW_get (l : List I) (P : Nat → List I) (p j : Nat) (h : j < (begins l).length) : rd_L10 (RW l P p) (j : Int) = (if j < p then pj l P (bg l j) else P (bg l j)) := by
 simp [rd_L10, RW, h]
theorem RW_zero (l : List I) (P : Nat → List I) : rowsTo l P (begins l).length = RW l P 0 := by
 apply List.ext_getElem
 ·
  simp [rowsTo, RW]
 ·
  intro j h1 h2
  have hj : j < (begins l).length := by simpa [RW] using h2
  simp [rowsTo, RW, bg_get l j hj]
theorem RW_set (l : List I) (P : Nat → List I) (p : Nat) (h : p < (begins l).length) (v : List I) (hv : v = pj l P (bg l p)) : (RW l P p).set p v = RW l P (p + 1) := by
 apply List.ext_getElem
 ·
  simp [RW]
 ·
  intro j h1 h2
  rw [List.getElem_set]
  simp only [RW, List.getElem_map, List.getElem_range]
  by_cases e : p = j
  ·
   subst e; rw [if_pos rfl, if_pos (by omega), hv]
  ·
   rw [if_neg e]
   by_cases hj : j < p
   ·
    rw [if_pos hj, if_pos (by omega)]
   ·
    rw [if_neg hj, if_neg (by omega)]
theorem RW_skip (l : List I) (P : Nat → List I) (p : Nat) (h : isJ l (bg l p) = false) : RW l P (p + 1) = RW l P p := by
 unfold RW
 apply List.map_congr_left
 intro j hj
 by_cases e : j = p
 ·
  subst e
  rw [if_pos (by omega), if_neg (by omega)]
  unfold pj; rw [h, if_neg (by decide)]
 ·
  by_cases hj : j < p
  ·
   rw [if_pos hj, if_pos (by omega)]
  ·
   rw [if_neg hj, if_neg (by omega)]

theorem rf_l3 (l : List I) (hP : Prog l) (hm : l.length ≤ 256) (P : Nat → List I) (hPl : ∀ q, (P q).length ≤ 8) (hPj : ∀ q, isJ l q = true → P q = [rd_T43 l (q : Int)]) (p at_ tt : Nat) (out : List I) (R : List I × Int) :
  ∀ (f j : Nat) (b : Int), j + f = (begins l).length → -(8 * (j : Int)) ≤ b → b ≤ 8 * (j : Int) →
  Evt (fun k => posternref19_Fix.l3 k l (begI l) (RW l P p) out (p : Int) (at_ : Int) (tt : Int) (b + sumC (cJ P at_ tt) ((begins l).drop j)) (begI l) ((begI l).length : Int) (p : Int) (begI l) ((begI l).length : Int) ((begins l).length : Int)) R →
  Evt (fun k => posternref19_Fix.l3 k l (begI l) (RW l P p) out (p : Int) (at_ : Int) (tt : Int) b (begI l) ((begI l).length : Int) (p : Int) (begI l) ((begI l).length : Int) (j : Int)) R := by
 have hsm := hP.small
 have hbl := begI_length l
 have hbn := begins_length l
 have hrl := RW_length l P p
 intro f
 induction f with
 | zero =>
  intro j b hj _ _ hR
  have e : j = (begins l).length := by omega
  subst e
  rw [List.drop_eq_nil_of_le (Nat.le_refl _), sumC, Int.add_zero] at hR
  exact hR
 | succ f ih =>
  intro j b hj h0 h1 hR
  have ew : wrap64 ((j : Int) + 1) = ((j + 1 : Nat) : Int) := by unfold wrap64; omega
  have hjl : j < (begins l).length := by omega
  have hlen : (rd_L10 (RW l P p) (j : Int)).length = (P (bg l j)).length := by
   rw [RW_get l P p j hjl]
   split
   ·
    exact pj_len l P hPj _
   ·
    rfl
  have h8 := hPl (bg l j)
  rw [bg_drop l j hjl] at hR
  simp only [sumC] at hR
  have go : ∀ c, c = cJ P at_ tt (bg l j) → Evt (fun k => posternref19_Fix.l3 k l (begI l) (RW l P p) out (p : Int) (at_ : Int) (tt : Int) (b + c) (begI l) ((begI l).length : Int) (p : Int) (begI l) ((begI l).length : Int) ((j + 1 : Nat) : Int)) R := by
   intro c hc
   have hc8 : -8 ≤ c ∧ c ≤ 8 := by
    rw [hc]; unfold cJ
    split
    ·
     omega
    ·
     split <;> omega
   refine ih (j + 1) (b + c) (by omega) (by omega) (by omega) ?_
   rw [hc, Int.add_assoc]
   exact hR
  have eplus : wrap64 (b + ((P (bg l j)).length : Int)) = b + ((P (bg l j)).length : Int) := by unfold wrap64; omega
  have eminus : wrap64 (b - ((P (bg l j)).length : Int)) = b + -((P (bg l j)).length : Int) := by unfold wrap64; omega
  have j4 : ∀ x : Bool, x = decide (at_ < bg l j ∧ bg l j < tt) → Evt (fun k => posternref19_Fix.j4 k l (begI l) (RW l P p) out (p : Int) (at_ : Int) (tt : Int) b (j : Int) ((bg l j : Nat) : Int) (begI l) ((begI l).length : Int) (p : Int) (begI l) ((begI l).length : Int) (j : Int) x) R := by
   intro x hx
   by_cases a : at_ < bg l j ∧ bg l j < tt
   ·
    rw [decide_eq_true a] at hx
    have hg := go ((P (bg l j)).length : Int) (by unfold cJ; rw [if_pos a])
    subst hx
    apply Evt.step2
    ·
     intro k
     simp only [posternref19_Fix.j4]
     rw [if_pos trivial, if_pos (by omega), if_pos (by omega), if_neg (by omega), hlen, eplus, ew]
    ·
     exact hg
   ·
    rw [decide_eq_false a] at hx
    subst hx
    by_cases c : tt ≤ bg l j ∧ bg l j ≤ at_
    ·
     have hg := go (-((P (bg l j)).length : Int)) (by unfold cJ; rw [if_neg a, if_pos c])
     apply Evt.step2
     ·
      intro k
      simp only [posternref19_Fix.j4]
      rw [if_neg (by decide), if_pos (by omega), if_pos (by omega), if_pos (by omega), if_pos (by omega), hlen, eminus, ew]
     ·
      exact hg
    ·
     have hg := go 0 (by unfold cJ; rw [if_neg a, if_neg c])
     rw [Int.add_zero] at hg
     by_cases d : bg l j ≤ at_
     ·
      apply Evt.step2
      ·
       intro k
       simp only [posternref19_Fix.j4]
       rw [if_neg (by decide), if_pos (by omega), if_neg (by omega), ew]
      ·
       exact hg
     ·
      apply Evt.step2
      ·
       intro k
       simp only [posternref19_Fix.j4]
       rw [if_neg (by decide), if_neg (by omega), ew]
      ·
       exact hg
  by_cases a : at_ < bg l j
  ·
   have := j4 (decide (((bg l j : Nat) : Int) < (tt : Int))) (by
    by_cases c : bg l j < tt
    ·
     rw [decide_eq_true (show ((bg l j : Nat) : Int) < (tt : Int) by omega), decide_eq_true ⟨a, c⟩]
    ·
     rw [decide_eq_false (show ¬ ((bg l j : Nat) : Int) < (tt : Int) by omega), decide_eq_false (fun h => c h.2)])
   apply Evt.step2
   ·
    intro k
    simp only [posternref19_Fix.l3]
    rw [if_pos (by omega), if_pos (by omega), if_pos (by omega), rd_beg l j hjl, if_pos (by omega)]
   ·
    exact this
  ·
   have := j4 false (decide_eq_false (fun h => a h.1)).symm
   apply Evt.step2
   ·
    intro k
    simp only [posternref19_Fix.l3]
    rw [if_pos (by omega), if_pos (by omega), if_pos (by omega), rd_beg l j hjl, if_neg (by omega)]
   ·
    exact this
end Go.Proofs.Ytmijlibnembkaaa.Pure
