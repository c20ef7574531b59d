/- What fix.Fix (layer 19) answers for any notes and maps. -/
import Derived.Test.YtmijlibnembkaaaMkQf
import Derived.Test.YtmijlibnembkaaaMkPAx12
namespace Go.Proofs.Ytmijlibnembkaaa.Pure
open Go.RowKit Go.Proofs.Ytmijlibnembkaaa.PA Go.Proofs.YtmijlibnembkaaaW.PrintWords Go.Proofs.YtmijlibnembkaaaW.PrintLast Go.Proofs.YtmijlibnembkaaaX
set_option linter.unusedVariables false
set_option linter.unusedSimpArgs false

theorem Check_big (l : List I) (h : l.length = 0 ∨ 256 < l.length) : Evt (fun k => shape_Check.f k l) (0, 40) := by
 unfold shape_Check.f
 refine Evt.congr (g' := fun k => shape_Check.j0 k l true) ?_ (fun k => ?_)
 ·
  apply Evt.step2
  ·
   intro k
   simp only [shape_Check.j0, if_true]
   rfl
  ·
   exact Evt.const _
 ·
  by_cases h0 : l.length = 0
  ·
   rw [if_pos (by omega)]
  ·
   rw [if_neg (by omega), show decide ((l.length : Int) > 256) = true from by simp; omega]

/-! ### instructions that begin are plain -/
theorem begFrom_plain (n : Nat) : ∀ (s : List I) (p q : Nat), q ∈ begFrom n s p → (plainS (s.drop (q - p))).2 = 0 := by
 induction n with
 | zero => intro s p q hq; cases hq
 | succ n ih =>
  intro s p q hq
  unfold begFrom at hq
  split at hq
  ·
   rename_i he
   rcases List.mem_cons.1 hq with rfl | hq
   ·
    rw [Nat.sub_self, List.drop_zero]; exact he
   ·
    have h1 := begFrom_ge _ _ _ q hq
    have := ih _ _ q hq
    rw [List.drop_drop] at this
    rw [show (plainS s).1.toNat + (q - (p + (plainS s).1.toNat)) = q - p by omega] at this
    exact this
  ·
   cases hq
theorem plainX_known (kn ok : Bool) (x : I) (t : List I) (h : (plainX kn ok x t).2 = 0) : kn = true := by
 unfold plainX at h
 cases kn
 ·
  simp at h
 ·
  rfl
theorem begin_facts (l : List I) (q : Nat) (hq : q ∈ begins l) : knownB (rd_T43 l (q : Int)).f0 = true ∧ ((rd_T43 l (q : Int)).f0 = 24 → q + 1 < l.length) := by
 have h := begFrom_plain _ _ _ q hq
 rw [Nat.sub_zero] at h
 have hl := begins_lt l q hq
 obtain ⟨t, ht⟩ := rd_drop l q hl
 have hw := plainS_width _ h
 have hlen : (l.drop q).length = l.length - q := by simp
 rw [ht] at h
 simp only [plainS] at h
 refine ⟨plainX_known _ _ _ _ h, fun h24 => ?_⟩
 rcases hw with ⟨h1, _⟩ | ⟨h2, hl2⟩
 ·
  have := narrow_here l q hl (by rw [ht]; exact h) h1
  exact absurd h24 this
 ·
  omega

/-! ### what the slots become, one behind the other -/
section
variable (l : List I) (notes : List Nt) (defs : List Df)
def nt (q : Nat) : Nt := rd_T34 notes (q : Int)
def pO (q : Nat) : Option (List I) := pieceO (rd_T43 l (q : Int)) (rd_T43 l ((q + 1 : Nat) : Int)) (nt notes q) defs
def pc (q : Nat) : List I := if q ∈ begins l then (pO l notes defs q).getD [] else []
def badN (q : Nat) : Bool := (nt notes q).f1 || (nt notes q).f2 != 0
def badS (q : Nat) : Bool := if q ∈ begins l then (pO l notes defs q).isNone else badN notes q
end
def cat (P : Nat → List I) (p : Nat) : List I := ((List.range p).map P).flatten
def froms (P : Nat → List I) (n p : Nat) : List Int := (List.range n).map fun q => if q < p then ((cat P q).length : Int) else 0
theorem cat_zero (P : Nat → List I) : cat P 0 = [] := rfl
theorem cat_succ (P : Nat → List I) (p : Nat) : cat P (p + 1) = cat P p ++ P p := by simp [cat, List.range_succ]
theorem piece_le (x y : I) (n : Nt) (defs : List Df) (p : List I) (h : pieceO x y n defs = some p) : p.length ≤ 8 := by
 unfold pieceO at h
 split at h
 ·
  split at h
  ·
   split at h
   ·
    cases h
   ·
    injection h with h; rw [← h]; simp
  ·
   cases h
 ·
  split at h
  ·
   split at h
   ·
    injection h with h; rw [← h, splitL_length]; omega
   ·
    injection h with h; rw [← h]; simp
  ·
   split at h
   ·
    injection h with h; rw [← h]; simp [lookupL, splitL_length]
   ·
    cases h
theorem pc_le (l : List I) (notes : List Nt) (defs : List Df) (q : Nat) : (pc l notes defs q).length ≤ 8 := by
 unfold pc
 split
 ·
  cases h : pO l notes defs q with
  | none => simp
  | some p => exact piece_le _ _ _ _ _ h
 ·
  simp
theorem cat_le (P : Nat → List I) (hP : ∀ q, (P q).length ≤ 8) (p : Nat) : (cat P p).length ≤ 8 * p := by
 induction p with
 | zero => simp [cat_zero]
 | succ p ih => rw [cat_succ, List.length_append]; have := hP p; omega
theorem cat_congr (F G : Nat → List I) (n : Nat) (h : ∀ q, q < n → F q = G q) : cat F n = cat G n := by
 induction n with
 | zero => rfl
 | succ n ih => rw [cat_succ, cat_succ, ih (fun q hq => h q (by omega)), h n (by omega)]
theorem cat_len_congr (F G : Nat → List I) (n : Nat) (h : ∀ q, q < n → (F q).length = (G q).length) : (cat F n).length = (cat G n).length := by
 induction n with
 | zero => rfl
 | succ n ih => rw [cat_succ, cat_succ, List.length_append, List.length_append, ih (fun q hq => h q (by omega)), h n (by omega)]
theorem cat_at (F : Nat → List I) (i : Nat) (y : I) (hF : F i = [y]) : ∀ n, i < n → (cat F n)[(cat F i).length]? = some y ∧ (∀ v, (cat F n).set (cat F i).length v = cat (fun q => if q = i then [v] else F q) n) := by
 intro n
 induction n with
 | zero => intro h; omega
 | succ n ih =>
  intro h
  by_cases e : i = n
  ·
   subst e
   have hc : ∀ v, cat (fun q => if q = i then [v] else F q) i = cat F i := fun v => cat_congr _ _ _ (fun q hq => by rw [if_neg (by omega)])
   refine ⟨?_, fun v => ?_⟩
   ·
    rw [cat_succ, hF, List.getElem?_append_right (Nat.le_refl _), Nat.sub_self]; rfl
   ·
    rw [cat_succ, cat_succ, hF, hc v, if_pos rfl, List.set_append_right _ _ (Nat.le_refl _), Nat.sub_self]; rfl
  ·
   obtain ⟨h1, h2⟩ := ih (by omega)
   have hlt : (cat F i).length < (cat F n).length := by
    rcases Nat.lt_or_ge (cat F i).length (cat F n).length with h | h
    ·
     exact h
    ·
     rw [List.getElem?_eq_none h] at h1; cases h1
   refine ⟨?_, fun v => ?_⟩
   ·
    rw [cat_succ, List.getElem?_append_left hlt]; exact h1
   ·
    rw [cat_succ, cat_succ, List.set_append_left _ _ hlt, h2 v, if_neg (by omega)]
theorem rd_get (L : List I) (i : Nat) (y : I) (h : L[i]? = some y) : rd_T43 L (i : Int) = y ∧ i < L.length := by
 have hl : i < L.length := by
  rcases Nat.lt_or_ge i L.length with h' | h'
  ·
   exact h'
  ·
   rw [List.getElem?_eq_none h'] at h; cases h
 rw [List.getElem?_eq_getElem hl] at h
 injection h with h
 exact ⟨by rw [← h]; simp [rd_T43, hl], hl⟩
theorem froms_length (P : Nat → List I) (n p : Nat) : (froms P n p).length = n := by simp [froms]
theorem froms_set (P : Nat → List I) (n p : Nat) : (froms P n p).set p ((cat P p).length : Int) = froms P n (p + 1) := by
 apply List.ext_getElem
 ·
  simp [froms]
 ·
  intro j h1 h2
  rw [List.getElem_set]
  simp only [froms, List.getElem_map, List.getElem_range]
  by_cases e : p = j
  ·
   subst e; simp
  ·
   rw [if_neg e]
   by_cases hj : j < p
   ·
    have h3 : j < p + 1 := by omega
    simp [hj, h3]
   ·
    have h3 : ¬ j < p + 1 := by omega
    simp [hj, h3]
theorem froms_zero (P : Nat → List I) (n : Nat) : froms P n 0 = List.replicate n 0 := by
 apply List.ext_getElem
 ·
  simp [froms]
 ·
  intro j h1 h2
  simp [froms]
theorem froms_get (P : Nat → List I) (n q : Nat) (h : q < n) : rd (froms P n n) (q : Int) = ((cat P q).length : Int) := by
 simp [rd, froms, h]

theorem fix_l0 (l : List I) (hP : Prog l) (hm : l.length ≤ 256) (notes : List Nt) (hn : notes.length = l.length) (defs : List Df) (hd : defs.length ≤ 140737488355328) (R : List I × Int) :
  ∀ (n p : Nat), p + n = l.length → (anyFrom (badS l notes defs) n p = false → Evt (fun k => if ((cat (pc l notes defs) l.length).length : Int) > 256 then some (([] : List I), 40) else fix_Fix.l1 k l (cat (pc l notes defs) l.length) (froms (pc l notes defs) l.length l.length) (l.length : Int) 0) R) → Evt (fun k => fix_Fix.l0 k l defs (starts l) (cat (pc l notes defs) p) (froms (pc l notes defs) l.length p) notes (notes.length : Int) (p : Int)) (if anyFrom (badS l notes defs) n p = true then ([], 2) else R) := by
 have hsm := hP.small
 have hsl := starts_length l
 intro n
 induction n with
 | zero =>
  intro p hp hR
  have e : p = l.length := by omega
  subst e
  rw [show anyFrom (badS l notes defs) 0 l.length = false from rfl, if_neg (by decide)]
  apply Evt.step2
  ·
   intro k
   simp only [fix_Fix.l0]
   rw [if_neg (by omega)]
  ·
   exact hR rfl
 | succ n ih =>
  intro p hp hR
  have hpl : p < l.length := by omega
  have hx := hP.at_ p hpl
  have ew := wrap_succ l hP p (by omega)
  have hst := starts_get l p hpl
  have hfl := froms_length (pc l notes defs) l.length p
  have hset := froms_set (pc l notes defs) l.length p
  have hcl := cat_le (pc l notes defs) (pc_le l notes defs) p
  have hnext := ih (p + 1) (by omega)
  have he : anyFrom (badS l notes defs) (n + 1) p = (badS l notes defs p || anyFrom (badS l notes defs) n (p + 1)) := rfl
  rw [he] at hR
  rw [he]
  have hcs := cat_succ (pc l notes defs) p
  by_cases hb : p ∈ begins l
  ·
   obtain ⟨hkn, hw⟩ := begin_facts l p hb
   have hbs : badS l notes defs p = (pO l notes defs p).isNone := by unfold badS; rw [if_pos hb]
   have hpc : pc l notes defs p = (pO l notes defs p).getD [] := by unfold pc; rw [if_pos hb]
   have hbec : Evt (fun k => fix_becomes.f k l (p : Int) (nt notes p).f0 (nt notes p).f1 (nt notes p).f2 defs) (pieceR (pO l notes defs p)) := Evt.of 7 fun k hk => becomes_eq k hk l p defs (nt notes p) _ _ hpl hsm hx.1.1 hx.1.2 hkn rfl rfl hw hd
   apply Evt.step2
   ·
    intro k
    simp only [fix_Fix.l0]
    rw [if_pos (by omega), if_pos (by omega), if_pos (by omega), if_pos (by omega), Option.bind_some, if_pos (by omega), hst, if_pos (by simp [hb]), Int.toNat_natCast, hset]
   ·
    refine Evt.bind hbec ?_
    rw [hbs]
    rw [hpc] at hcs
    cases hpo : pO l notes defs p with
    | none =>
     rw [show (none : Option (List I)).isNone = true from rfl, Bool.true_or, if_pos rfl]
     exact Evt.congr (Evt.const ([], 2)) (fun k => if_neg (show ¬ ((2 : Int) = 0) by decide))
    | some pp =>
     rw [hpo] at hcs
     rw [hbs, hpo] at hR
     have hnext := hnext hR
     have h8 := piece_le _ _ _ _ _ hpo
     rw [show (some pp).isNone = false from rfl, Bool.false_or]
     rw [show (some pp).getD [] = pp from rfl] at hcs
     refine Evt.congr hnext (fun k => ?_)
     rw [show pieceR (some pp) = (pp, 0) from rfl, if_pos (show ((pp, 0) : List I × Int).2 = 0 from rfl)]
     dsimp only
     rw [if_pos (by omega), ew, hcs]
  ·
   have hbs : badS l notes defs p = badN notes p := by unfold badS; rw [if_neg hb]
   have hpc : pc l notes defs p = [] := by unfold pc; rw [if_neg hb]
   rw [hpc, List.append_nil] at hcs
   rw [hbs] at hR ⊢
   have j1 : ∀ b, (b = false → badN notes p = false) → Evt (fun k => fix_Fix.j1 k l defs (starts l) (cat (pc l notes defs) p) (froms (pc l notes defs) l.length (p + 1)) notes (notes.length : Int) (p : Int) b) (if (b || anyFrom (badS l notes defs) n (p + 1)) = true then ([], 2) else R) := by
    intro b hbb
    cases b with
    | true =>
     rw [Bool.true_or, if_pos rfl]
     apply Evt.step2
     ·
      intro k
      simp only [fix_Fix.j1, if_true]
      rfl
     ·
      exact Evt.const _
    | false =>
     rw [Bool.false_or]
     rw [hbb rfl, Bool.false_or] at hR
     have hnext := hnext hR
     rw [hcs] at hnext
     apply Evt.step2
     ·
      intro k
      simp only [fix_Fix.j1]
      rw [if_neg (by decide), ew]
     ·
      exact hnext
   have key : Evt (fun k => if (nt notes p).f1 = true then fix_Fix.j1 k l defs (starts l) (cat (pc l notes defs) p) (froms (pc l notes defs) l.length (p + 1)) notes (notes.length : Int) (p : Int) true else fix_Fix.j1 k l defs (starts l) (cat (pc l notes defs) p) (froms (pc l notes defs) l.length (p + 1)) notes (notes.length : Int) (p : Int) ((nt notes p).f2 != 0)) (if (badN notes p || anyFrom (badS l notes defs) n (p + 1)) = true then ([], 2) else R) := by
    unfold badN at j1 ⊢
    cases hc : (nt notes p).f1 with
    | true =>
     rw [Bool.true_or]
     exact Evt.congr (j1 true (fun h => by cases h)) (fun k => by rw [if_pos rfl])
    | false =>
     rw [hc] at j1
     rw [Bool.false_or]
     exact Evt.congr (j1 _ (fun h => by rw [h]; rfl)) (fun k => by rw [if_neg (by decide)])
   apply Evt.step2
   ·
    intro k
    simp only [fix_Fix.l0]
    rw [if_pos (by omega), if_pos (by omega), if_pos (by omega), if_pos (by omega), Option.bind_some, if_pos (by omega), hst, if_neg (by simp [hb]), Int.toNat_natCast, hset]
   ·
    exact key

/-! ### jumps are led anew -/
def fixJ (y : I) (b : Int) : I := if y.f0 = 133 then ⟨y.f0, y.f1, y.f2, y.f3, wrap32 b⟩ else ⟨y.f0, y.f1, y.f2, IntKind.i16.wrap b, y.f4⟩
def isJ (l : List I) (q : Nat) : Bool := decide (q ∈ begins l) && (jmp (rd_T43 l (q : Int))).2
def byJ (l : List I) (P : Nat → List I) (q : Nat) : Int := ((cat P (tgt l q).1.toNat).length : Int) - ((cat P q).length : Int) - 1
def pj (l : List I) (P : Nat → List I) (q : Nat) : List I := if isJ l q = true then [fixJ (rd_T43 l (q : Int)) (byJ l P q)] else P q
theorem jmp_cls (x : I) (h : (jmp x).2 = true) : (clsB x.f0 = 5 ∨ clsB x.f0 = 6) ∧ (x.f0 = 133 → x.f2 = 1) := by
 unfold jmp jumpsC at h
 split at h
 ·
  rename_i hc
  refine ⟨hc.1, fun h133 => ?_⟩
  rw [if_pos h133] at h
  simpa using h
 ·
  cases h
theorem jump_piece (x y : I) (h0 : 0 ≤ x.f0) (h1 : x.f0 < 256) (n : Nt) (defs : List Df) (hj : (jmp x).2 = true) (p : List I) (h : pieceO x y n defs = some p) : p = [x] := by
 obtain ⟨hc, h133⟩ := jmp_cls x hj
 rw [cls_eq x.f0 h0 h1] at hc
 have h24 : x.f0 ≠ 24 := by omega
 unfold pieceO at h
 split at h
 ·
  split at h
  ·
   rw [if_pos (by omega)] at h; cases h
  ·
   cases h
 ·
  split at h
  ·
   injection h with h; exact h.symm
  ·
   rw [if_neg (fun hh => by have := h133 hh.1.1; omega)] at h; cases h
theorem anyFrom_not (P : Nat → Bool) (n : Nat) (h : anyFrom P n 0 = false) (q : Nat) (hq : q < n) : P q = false := by
 cases hp : P q with
 | false => rfl
 | true => rw [(anyFrom_some P n 0).2 ⟨q, by omega, by omega, hp⟩] at h; cases h
theorem pc_jump (l : List I) (hP : Prog l) (notes : List Nt) (defs : List Df) (hg : anyFrom (badS l notes defs) l.length 0 = false) (q : Nat) (hj : isJ l q = true) : pc l notes defs q = [rd_T43 l (q : Int)] := by
 unfold isJ at hj
 rw [Bool.and_eq_true, decide_eq_true_eq] at hj
 have hq := begins_lt l q hj.1
 have hx := hP.at_ q hq
 have hb := anyFrom_not _ _ hg q hq
 unfold badS at hb
 rw [if_pos hj.1] at hb
 unfold pc
 rw [if_pos hj.1]
 cases hpo : pO l notes defs q with
 | none => rw [hpo] at hb; cases hb
 | some p => exact jump_piece _ _ hx.1.1 hx.1.2 _ _ hj.2 p hpo
def mix (l : List I) (P : Nat → List I) (i q : Nat) : List I := if q < i then pj l P q else P q
theorem pj_len (l : List I) (P : Nat → List I) (h : ∀ q, isJ l q = true → P q = [rd_T43 l (q : Int)]) (q : Nat) : (pj l P q).length = (P q).length := by
 unfold pj
 split
 ·
  rename_i hj; rw [h q hj]; rfl
 ·
  rfl
theorem mix_len (l : List I) (P : Nat → List I) (h : ∀ q, isJ l q = true → P q = [rd_T43 l (q : Int)]) (i q : Nat) : (mix l P i q).length = (P q).length := by
 unfold mix
 split
 ·
  exact pj_len l P h q
 ·
  rfl

theorem by_num (a b : Nat) (ha : a ≤ 1000000) (hb : b ≤ 1000000) : wrap64 (wrap64 ((a : Int) - b) - 1) = (a : Int) - b - 1 := by unfold wrap64; omega
theorem num8 {a n : Nat} (h : a < n) (hn : n ≤ 256) : 8 * a ≤ 1000000 := by omega
theorem fix_l1 (l : List I) (hP : Prog l) (hF : Formed l) (P : Nat → List I) (hPl : ∀ q, (P q).length ≤ 8) (hPj : ∀ q, isJ l q = true → P q = [rd_T43 l (q : Int)]) (R : List I × Int)
  (hR : Evt (fun k => (shape_Check.f k (cat (pj l P) l.length)).bind fun bt258 => (if bt258.2 = 0 then (some (cat (pj l P) l.length, 0)) else (some (([] : List I), 2)))) R) :
  ∀ (n i : Nat), i + n = l.length → Evt (fun k => fix_Fix.l1 k l (cat (mix l P i) l.length) (froms P l.length l.length) (l.length : Int) (i : Int)) R := by
 have hsm := hP.small
 have hm := hF.most
 have hfl := froms_length P l.length l.length
 intro n
 induction n with
 | zero =>
  intro i hi
  have e : i = l.length := by omega
  subst e
  rw [show cat (mix l P l.length) l.length = cat (pj l P) l.length from cat_congr _ _ _ (fun q hq => by unfold mix; rw [if_pos hq])]
  apply Evt.step2
  ·
   intro k
   simp only [fix_Fix.l1]
   rw [if_neg (by omega)]
  ·
   exact hR
 | succ n ih =>
  intro i hi
  have h : i < l.length := by omega
  have ew := wrap_succ l hP i (by omega)
  have hnext := ih (i + 1) (by omega)
  have htar := Target_eq l hP i h
  have skip : isJ l i = false → cat (mix l P (i + 1)) l.length = cat (mix l P i) l.length := by
   intro hj
   refine cat_congr _ _ _ (fun q hq => ?_)
   unfold mix
   by_cases h1 : q < i
   ·
    rw [if_pos (by omega), if_pos h1]
   ·
    by_cases e : q = i
    ·
     subst e
     rw [if_pos (by omega), if_neg (by omega)]
     unfold pj
     rw [hj, if_neg (by decide)]
    ·
     rw [if_neg (by omega), if_neg h1]
  apply Evt.step2
  ·
   intro k
   simp only [fix_Fix.l1]
   rw [if_pos (by omega)]
  ·
   refine Evt.bind htar ?_
   by_cases hb : i ∈ begins l
   ·
    rw [if_pos hb]
    cases hj : (jmp (rd_T43 l (i : Int))).2 with
    | false =>
     have hz : isJ l i = false := by unfold isJ; rw [hj, Bool.and_false]
     have ht : (tgt l i).2 = false := by unfold tgt; rw [if_neg (by rw [hj]; simp)]
     rw [skip hz] at hnext
     exact Evt.congr hnext (fun k => by rw [ht, if_neg (by decide), ew])
    | true =>
     have hz : isJ l i = true := by unfold isJ; rw [hj, decide_eq_true hb]; rfl
     obtain ⟨ht, hto⟩ := hF.jumps i h hb hj
     have hr := tgt_range l i ht
     have hof1 := froms_get P l.length i h
     have hof2 := froms_get P l.length (tgt l i).1.toNat (by omega)
     rw [Int.toNat_of_nonneg hr.1] at hof2
     have hmi : mix l P i i = [rd_T43 l (i : Int)] := by unfold mix; rw [if_neg (by omega)]; exact hPj i hz
     have hlen : (cat (mix l P i) i).length = (cat P i).length := cat_len_congr _ _ _ (fun q _ => mix_len l P hPj i q)
     obtain ⟨hat, hset⟩ := cat_at (mix l P i) i _ hmi l.length h
     rw [hlen] at hat hset
     obtain ⟨hrd, hlt⟩ := rd_get _ _ _ hat
     have hc1 := cat_le P hPl i
     have hc2 := cat_le P hPl (tgt l i).1.toNat
     have hby : wrap64 (wrap64 (((cat P (tgt l i).1.toNat).length : Int) - ((cat P i).length : Int)) - 1) = byJ l P i := by_num _ _ (Nat.le_trans hc2 (num8 (num3 hr.1 hr.2) hm)) (Nat.le_trans hc1 (num8 h hm))
     have hnew : ∀ v, v = fixJ (rd_T43 l (i : Int)) (byJ l P i) → (cat (mix l P i) l.length).set (cat P i).length v = cat (mix l P (i + 1)) l.length := by
      intro v hv
      rw [hset v]
      refine cat_congr _ _ _ (fun q hq => ?_)
      by_cases e : q = i
      ·
       subst e
       rw [if_pos rfl]
       unfold mix
       rw [if_pos (by omega)]
       unfold pj
       rw [if_pos hz, hv]
      ·
       rw [if_neg e]
       unfold mix
       by_cases h1 : q < i
       ·
        rw [if_pos h1, if_pos (by omega)]
       ·
        rw [if_neg h1, if_neg (by omega)]
     by_cases h133 : (rd_T43 l (i : Int)).f0 = 133
     ·
      have hnw := hnew ⟨(rd_T43 l (i : Int)).f0, (rd_T43 l (i : Int)).f1, (rd_T43 l (i : Int)).f2, (rd_T43 l (i : Int)).f3, wrap32 (byJ l P i)⟩ (by unfold fixJ; rw [if_pos h133])
      refine Evt.congr hnext (fun k => ?_)
      rw [ht, if_pos rfl, if_pos hr.1, if_pos (by omega), if_pos (by omega), if_pos (by omega), if_pos (by omega), if_pos h133, hof1, hof2, if_pos (by omega), if_pos (by omega), hrd, hby, Int.toNat_natCast, hnw, ew]
     ·
      have hnw := hnew ⟨(rd_T43 l (i : Int)).f0, (rd_T43 l (i : Int)).f1, (rd_T43 l (i : Int)).f2, IntKind.i16.wrap (byJ l P i), (rd_T43 l (i : Int)).f4⟩ (by unfold fixJ; rw [if_neg h133])
      refine Evt.congr hnext (fun k => ?_)
      rw [ht, if_pos rfl, if_pos hr.1, if_pos (by omega), if_pos (by omega), if_pos (by omega), if_pos (by omega), if_neg h133, hof1, hof2, if_pos (by omega), if_pos (by omega), hrd, hby, Int.toNat_natCast, hnw, ew]
   ·
    rw [if_neg hb]
    have hz : isJ l i = false := by unfold isJ; rw [decide_eq_false hb]; rfl
    rw [skip hz] at hnext
    exact Evt.congr hnext (fun k => by rw [if_neg (by decide), ew])

/-! ### what became of it is a list of instructions -/
theorem wrap32_range (n : Int) : -2147483648 ≤ wrap32 n ∧ wrap32 n < 2147483648 := by unfold wrap32; omega
theorem wrap16_range (n : Int) : -32768 ≤ IntKind.i16.wrap n ∧ IntKind.i16.wrap n < 32768 := by simp [IntKind.wrap, IntKind.bits, IntKind.signed]; omega
theorem splitL_ok (d v : Int) (h0 : 0 ≤ d) (h1 : d < 256) : ∀ z ∈ splitL d v, okI z := by
 intro z hz
 have a := wrap32_range (v % 4294967296)
 have b := wrap32_range ((v / 4294967296) % 4294967296)
 simp only [splitL, List.mem_cons, List.not_mem_nil, or_false] at hz
 rcases hz with rfl | rfl
 ·
  exact ⟨by simp, ⟨h0, h1⟩, by simp, by simp, a⟩
 ·
  exact ⟨by simp, by simp, by simp, by simp, b⟩
theorem piece_ok (x y : I) (hx : okI x) (n : Nt) (defs : List Df) (p : List I) (h : pieceO x y n defs = some p) : ∀ z ∈ p, okI z := by
 unfold pieceO at h
 split at h
 ·
  split at h
  ·
   rename_i v hv
   split at h
   ·
    cases h
   ·
    injection h with h
    intro z hz
    rw [← h, List.mem_singleton] at hz
    subst hz
    have : v = 8 ∨ v = 16 ∨ v = 0 ∨ v = 4 := by
     unfold ctxO at hv
     repeat' split at hv
     all_goals (first | (injection hv with hv; omega) | cases hv)
    exact ⟨hx.1, hx.2.1, hx.2.2.1, by dsimp only; omega, hx.2.2.2.2⟩
  ·
   cases h
 ·
  split at h
  ·
   split at h
   ·
    injection h with h
    rw [← h]
    exact splitL_ok _ _ hx.2.1.1 hx.2.1.2
   ·
    injection h with h
    intro z hz
    rw [← h, List.mem_singleton] at hz
    subst hz
    exact hx
  ·
   split at h
   ·
    injection h with h
    rw [← h]
    intro z hz
    have a := wrap32_range (rd_T80 defs (n.f2 - 1)).f3
    simp only [lookupL, List.mem_append, List.mem_cons, List.not_mem_nil, or_false] at hz
    rcases hz with ((rfl | rfl | rfl) | hz) | (rfl | rfl | rfl)
    ·
     unfold okI; decide
    ·
     exact ⟨by simp, by simp, by simp, by simp, a⟩
    ·
     unfold okI; decide
    ·
     exact splitL_ok _ _ (by decide) (by decide) z hz
    ·
     unfold okI; decide
    ·
     unfold okI; decide
    ·
     unfold okI; decide
   ·
    cases h
theorem okI_z : okI z43 := by unfold okI z43; decide
theorem okI_rd (l : List I) (hok : ∀ x ∈ l, okI x) (i : Int) : okI (rd_T43 l i) := by
 unfold rd_T43
 by_cases h : i.toNat < l.length
 ·
  have : l.getD i.toNat z43 = l[i.toNat] := by simp [h]
  rw [this]; exact hok _ (List.getElem_mem h)
 ·
  have : l.getD i.toNat z43 = z43 := by simp [List.getD, List.getElem?_eq_none (show l.length ≤ i.toNat by omega)]
  rw [this]; exact okI_z
theorem fixJ_ok (x : I) (hx : okI x) (b : Int) : okI (fixJ x b) := by
 unfold fixJ
 split
 ·
  exact ⟨hx.1, hx.2.1, hx.2.2.1, hx.2.2.2.1, wrap32_range b⟩
 ·
  exact ⟨hx.1, hx.2.1, hx.2.2.1, wrap16_range b, hx.2.2.2.2⟩
theorem out_prog (l : List I) (hP : Prog l) (notes : List Nt) (defs : List Df) (hm : l.length ≤ 256) (hJ : ∀ q, isJ l q = true → pc l notes defs q = [rd_T43 l (q : Int)]) : Prog (cat (pj l (pc l notes defs)) l.length) := by
 have h1 := cat_len_congr (pj l (pc l notes defs)) (pc l notes defs) l.length (fun q _ => pj_len l _ hJ q)
 have h2 := cat_le (pc l notes defs) (pc_le l notes defs) l.length
 refine ⟨by omega, fun z hz => ?_⟩
 simp only [cat, List.mem_flatten, List.mem_map] at hz
 obtain ⟨p, ⟨q, _, rfl⟩, hz⟩ := hz
 unfold pj at hz
 split at hz
 ·
  rw [List.mem_singleton] at hz
  subst hz
  exact fixJ_ok _ (okI_rd l hP.ok _) _
 ·
  unfold pc at hz
  split at hz
  ·
   cases hpo : pO l notes defs q with
   | none => rw [hpo] at hz; cases hz
   | some p => rw [hpo] at hz; exact piece_ok _ _ (okI_rd l hP.ok _) _ _ p hpo z hz
  ·
   cases hz

/-! ### Fix -/
def fixR (l : List I) (notes : List Nt) (defs : List Df) : List I × Int :=
 if (checkR l).2 = 0 then
  (if notes.length = l.length then
   (if anyFrom (badS l notes defs) l.length 0 = true then ([], 2)
   else if 256 < (cat (pc l notes defs) l.length).length then ([], 40)
   else if (checkR (cat (pj l (pc l notes defs)) l.length)).2 = 0 then (cat (pj l (pc l notes defs)) l.length, 0) else ([], 2))
  else ([], 2))
 else ([], (checkR l).2)
theorem Fix_eq (l : List I) (hP : Prog l) (notes : List Nt) (defs : List Df) (hd : defs.length ≤ 140737488355328) : Evt (fun k => fix_Fix.f k l notes defs) (fixR l notes defs) := by
 have hsm := hP.small
 unfold fix_Fix.f fixR
 refine Evt.bind (Check_eq l hP) ?_
 by_cases he : (checkR l).2 = 0
 ·
  rw [if_pos he]
  have hF := formed_of l he
  have hm := hF.most
  by_cases hn : notes.length = l.length
  ·
   rw [if_pos hn]
   refine Evt.congr (g' := fun k => (shape_Starts.f k l).bind fun t463 => if 0 ≤ (l.length : Int) then (if ((l.length : Int) : Int).toNat ≤ 35184372088832 then fix_Fix.l0 k l defs t463 [] (List.replicate ((l.length : Int) : Int).toNat 0) notes (notes.length : Int) 0 else none) else none) ?_ (fun k => by
     rw [if_pos he, if_pos (by omega)])
   refine Evt.bind (Evt.of _ fun k hk => Starts_eq l (by omega) hP.ok k hk) ?_
   refine Evt.congr (g' := fun k => fix_Fix.l0 k l defs (starts l) [] (froms (pc l notes defs) l.length 0) notes (notes.length : Int) 0) (fix_l0 l hP hm notes hn defs hd _ l.length 0 (by omega) (fun hg => ?_)) (fun k => by
     rw [if_pos (by omega), if_pos (by omega), Int.toNat_natCast, froms_zero])
   have hJ := pc_jump l hP notes defs hg
   have hO := out_prog l hP notes defs hm hJ
   by_cases hbig : 256 < (cat (pc l notes defs) l.length).length
   ·
    rw [if_pos hbig]
    exact Evt.congr (Evt.const _) (fun k => by rw [if_pos (by omega)])
   ·
    rw [if_neg hbig]
    have h1 := fix_l1 l hP hF (pc l notes defs) (pc_le l notes defs) hJ (if (checkR (cat (pj l (pc l notes defs)) l.length)).2 = 0 then (cat (pj l (pc l notes defs)) l.length, 0) else ([], 2)) (by
     refine Evt.bind (Check_eq _ hO) ?_
     by_cases h2 : (checkR (cat (pj l (pc l notes defs)) l.length)).2 = 0
     ·
      rw [if_pos h2]; exact Evt.congr (Evt.const _) (fun k => by rw [if_pos h2])
     ·
      rw [if_neg h2]; exact Evt.congr (Evt.const _) (fun k => by rw [if_neg h2])) l.length 0 (by omega)
    rw [show cat (mix l (pc l notes defs) 0) l.length = cat (pc l notes defs) l.length from cat_congr _ _ _ (fun q _ => by unfold mix; rw [if_neg (by omega)])] at h1
    exact Evt.congr h1 (fun k => by rw [if_neg (by omega)]; rfl)
  ·
   rw [if_neg hn]
   exact Evt.congr (Evt.const _) (fun k => by rw [if_pos he, if_neg (by omega)])
 ·
  rw [if_neg he]
  exact Evt.congr (Evt.const _) (fun k => by rw [if_neg he])
end Go.Proofs.Ytmijlibnembkaaa.Pure
