/- The document's Fix (layer 19) and the program's answer alike; the law FixMakes, in plain words. -/
import Derived.Test.YtmijlibnembkaaaMkQh
import Derived.Test.YtmijlibnembkaaaMkPAx22
namespace Go.Proofs.Ytmijlibnembkaaa.Pure
open Go.RowKit Go.Proofs.Ytmijlibnembkaaa.PA Go.Proofs.YtmijlibnembkaaaW.PrintWords Go.Proofs.YtmijlibnembkaaaW.PrintLast Go.Proofs.YtmijlibnembkaaaX
set_option linter.unusedVariables false
set_option linter.unusedSimpArgs false

theorem by_is (l : List I) (P : Nat → List I) (p : Nat) (hq : bg l p < l.length) (h1 : (P (bg l p)).length = 1) (hN : ∀ q, q ∉ begins l → P q = []) (tt : Nat) (htt : tt < l.length) (ht : (tgt l (bg l p)).1 = (tt : Int)) : 0 + sumC (cJ P (bg l p) tt) ((begins l).drop 0) = byJ l P (bg l p) := by
 have hf : sumC (cJ P (bg l p) tt) (begins l) = sumC (cJ P (bg l p) tt) (List.range l.length) := by
  conv => lhs; rw [begins_filter l]
  refine sum_filter _ _ (fun q h => ?_) _
  have := hN q (by simpa using h)
  unfold cJ
  rw [this]
  split
  ·
   rfl
  ·
   split <;> rfl
 rw [List.drop_zero, hf, sum_range, Nat.min_eq_right (Nat.le_of_lt htt), Nat.min_eq_right hq, ofs_succ, h1]
 unfold byJ
 rw [ht, Int.toNat_natCast]
 unfold ofs
 omega

theorem rf_l2 (l : List I) (hP : Prog l) (hF : Formed l) (P : Nat → List I) (hPl : ∀ q, (P q).length ≤ 8) (hPj : ∀ q, isJ l q = true → P q = [rd_T43 l (q : Int)]) (hN : ∀ q, q ∉ begins l → P q = []) (R : List I × Int)
  (hR : Evt (fun k => (posternref04_Check.f k (rowsTo l (pj l P) (begins l).length).flatten).bind fun bt402 => (if bt402.2 = 0 then (some ((rowsTo l (pj l P) (begins l).length).flatten, 0)) else (some (([] : List I), 2)))) R) :
  ∀ (f p : Nat), p + f = (begins l).length → Evt (fun k => posternref19_Fix.l2 k l (begI l) (RW l P p) (rowsTo l (pj l P) p).flatten (begI l) ((begI l).length : Int) (p : Int)) R := by
 have hsm := hP.small
 have hbl := begI_length l
 have hbn := begins_length l
 have hpj8 : ∀ q, (pj l P q).length ≤ 8 := fun q => by rw [pj_len l P hPj]; exact hPl q
 intro f
 induction f with
 | zero =>
  intro p hp
  have e : p = (begins l).length := by omega
  subst e
  apply Evt.step2
  ·
   intro k
   simp only [posternref19_Fix.l2]
   rw [if_neg (by omega)]
  ·
   exact hR
 | succ f ih =>
  intro p hp
  have ew : wrap64 ((p : Int) + 1) = ((p + 1 : Nat) : Int) := by unfold wrap64; omega
  have hpl : p < (begins l).length := by omega
  have hbm := bg_mem l p hpl
  have hq := begins_lt l _ hbm
  have hrl := RW_length l P p
  have hsz := rowsTo_size l (pj l P) hpj8 p
  have hrow := RW_get l P p p hpl
  rw [if_neg (Nat.lt_irrefl p)] at hrow
  have hrow1 := RW_get l P (p + 1) p hpl
  rw [if_pos (Nat.lt_succ_self p)] at hrow1
  have hnext := ih (p + 1) (by omega)
  have hcat : (rowsTo l (pj l P) (p + 1)).flatten = (rowsTo l (pj l P) p).flatten ++ pj l P (bg l p) := by
   rw [rowsTo_succ l (pj l P) p hpl, List.flatten_append]; simp
  have h8 := hpj8 (bg l p)
  have hfit : (rowsTo l (pj l P) p).flatten.length + (pj l P (bg l p)).length < 11728124029610 := by omega
  rw [hcat] at hnext
  apply Evt.step2
  ·
   intro k
   simp only [posternref19_Fix.l2]
   rw [if_pos (by omega), if_pos (by omega), if_pos (by omega), if_pos (by omega), rd_beg l p hpl]
  ·
   refine Evt.bind (Evt.of 1 fun k hk => rto l hP (bg l p) hq k hk) ?_
   cases hj : (jmp (rd_T43 l ((bg l p : Nat) : Int))).2 with
   | false =>
    have hz : isJ l (bg l p) = false := by unfold isJ; rw [hj, Bool.and_false]
    have h2 : (toR (rd_T43 l ((bg l p : Nat) : Int)) (bg l p)).2 = false := by unfold toR; rw [hj]; rfl
    have hpp : pj l P (bg l p) = P (bg l p) := by unfold pj; rw [hz, if_neg (by decide)]
    rw [RW_skip l P p hz] at hnext
    rw [hpp] at hnext hfit
    refine Evt.congr hnext (fun k => ?_)
    rw [h2, if_neg (by decide), hrow, if_pos hfit, ew]
   | true =>
    have hz : isJ l (bg l p) = true := by unfold isJ; rw [hj, decide_eq_true hbm]; rfl
    have h2 : (toR (rd_T43 l ((bg l p : Nat) : Int)) (bg l p)).2 = true := by unfold toR; rw [hj]; rfl
    obtain ⟨ht, hto⟩ := hF.jumps _ hq hbm hj
    have hr := tgt_range l _ ht
    have htl := num3 hr.1 hr.2
    have htt : (tgt l (bg l p)).1 = (((tgt l (bg l p)).1.toNat : Nat) : Int) := (Int.toNat_of_nonneg hr.1).symm
    have h1 : (toR (rd_T43 l ((bg l p : Nat) : Int)) (bg l p)).1 = (((tgt l (bg l p)).1.toNat : Nat) : Int) := by
     rw [← htt]
     have := toR_tgt l (bg l p)
     by_cases hc : (toR (rd_T43 l ((bg l p : Nat) : Int)) (bg l p)).2 = true ∧ 0 ≤ (toR (rd_T43 l ((bg l p : Nat) : Int)) (bg l p)).1 ∧ (toR (rd_T43 l ((bg l p : Nat) : Int)) (bg l p)).1 < l.length
     ·
      rw [this, if_pos hc]
     ·
      rw [this, if_neg hc] at ht; cases ht
    have hone := hPj _ hz
    rw [hone] at hrow
    have hby := by_is l P p hq (by rw [hone]; rfl) hN _ htl htt
    have hx0 : rd_T43 [rd_T43 l ((bg l p : Nat) : Int)] 0 = rd_T43 l ((bg l p : Nat) : Int) := rfl
    have hpp : pj l P (bg l p) = [fixJ (rd_T43 l ((bg l p : Nat) : Int)) (byJ l P (bg l p))] := by unfold pj; rw [hz, if_pos rfl]
    have hset := RW_set l P p hpl [fixJ (rd_T43 l ((bg l p : Nat) : Int)) (byJ l P (bg l p))] hpp.symm
    have h3 := rf_l3 l hP hF.most P hPl hPj p (bg l p) (tgt l (bg l p)).1.toNat (rowsTo l (pj l P) p).flatten R (begins l).length 0 0 (by omega) (by omega) (by omega)
    rw [hby] at h3
    refine Evt.congr (g' := fun k => posternref19_Fix.l3 k l (begI l) (RW l P p) (rowsTo l (pj l P) p).flatten (p : Int) ((bg l p : Nat) : Int) (((tgt l (bg l p)).1.toNat : Nat) : Int) 0 (begI l) ((begI l).length : Int) (p : Int) (begI l) ((begI l).length : Int) 0) (h3 ?_) (fun k => by rw [h2, if_pos rfl, h1])
    have hs0 : ∀ v, [rd_T43 l ((bg l p : Nat) : Int)].set (0 : Int).toNat v = [v] := fun v => rfl
    have hpos : (0 : Int) < (([rd_T43 l ((bg l p : Nat) : Int)] : List I).length : Int) := Int.zero_lt_one
    have hpr : (p : Int) < ((RW l P p).length : Int) := by omega
    by_cases h133 : (rd_T43 l ((bg l p : Nat) : Int)).f0 = 133
    ·
     have hfx : fixJ (rd_T43 l ((bg l p : Nat) : Int)) (byJ l P (bg l p)) = ⟨(rd_T43 l ((bg l p : Nat) : Int)).f0, (rd_T43 l ((bg l p : Nat) : Int)).f1, (rd_T43 l ((bg l p : Nat) : Int)).f2, (rd_T43 l ((bg l p : Nat) : Int)).f3, wrap32 (byJ l P (bg l p))⟩ := by unfold fixJ; rw [if_pos h133]
     apply Evt.step2
     ·
      intro k
      simp only [posternref19_Fix.l3]
      rw [if_neg (by omega), if_pos (Int.natCast_nonneg p), if_pos hpr, hrow, if_pos hpos, hx0, if_pos h133, Option.bind_some, Int.toNat_natCast, hs0, ← hfx, hset, hrow1, if_pos hfit, ew]
     ·
      exact hnext
    ·
     have hfx : fixJ (rd_T43 l ((bg l p : Nat) : Int)) (byJ l P (bg l p)) = ⟨(rd_T43 l ((bg l p : Nat) : Int)).f0, (rd_T43 l ((bg l p : Nat) : Int)).f1, (rd_T43 l ((bg l p : Nat) : Int)).f2, IntKind.i16.wrap (byJ l P (bg l p)), (rd_T43 l ((bg l p : Nat) : Int)).f4⟩ := by unfold fixJ; rw [if_neg h133]
     apply Evt.step2
     ·
      intro k
      simp only [posternref19_Fix.l3]
      rw [if_neg (by omega), if_pos (Int.natCast_nonneg p), if_pos hpr, hrow, if_pos hpos, hx0, if_neg h133, Option.bind_some, Int.toNat_natCast, hs0, ← hfx, hset, hrow1, if_pos hfit, ew]
     ·
      exact hnext

theorem bad_same (l : List I) (notes : List Nt) (defs : List Df) : anyFrom (badS l notes defs) l.length 0 = (anyFrom (badNN l notes) l.length 0 || (begins l).any (badO l notes defs)) := by
 apply bool_of_iff
 rw [Bool.or_eq_true, anyFrom_some, anyFrom_some, any_iff]
 constructor
 ·
  rintro ⟨q, _, hq, hb⟩
  unfold badS at hb
  by_cases hm : q ∈ begins l
  ·
   rw [if_pos hm] at hb; exact .inr ⟨q, hm, hb⟩
  ·
   rw [if_neg hm] at hb; exact .inl ⟨q, by omega, hq, by unfold badNN; rw [decide_eq_false hm, hb]; rfl⟩
 ·
  rintro (⟨q, _, hq, hb⟩ | ⟨q, hm, hb⟩)
  ·
   unfold badNN at hb
   rw [Bool.and_eq_true] at hb
   have hm : q ∉ begins l := by simpa using hb.1
   exact ⟨q, by omega, hq, by unfold badS; rw [if_neg hm]; exact hb.2⟩
  ·
   have := begins_lt l q hm
   exact ⟨q, by omega, by omega, by unfold badS; rw [if_pos hm]; exact hb⟩
theorem rowsTo_cat (l : List I) (P : Nat → List I) (hN : ∀ q, q ∉ begins l → P q = []) : (rowsTo l P (begins l).length).flatten = cat P l.length := by
 rw [cat_begins l P hN]
 unfold rowsTo
 rw [List.take_length]

theorem rFix_eq (l : List I) (hP : Prog l) (notes : List Nt) (defs : List Df) (hd : defs.length ≤ 140737488355328) : Evt (fun k => posternref19_Fix.f k l notes defs) (fixR l notes defs) := by
 have hsm := hP.small
 obtain ⟨q0, hc0⟩ := rcheck l hP
 unfold posternref19_Fix.f fixR
 refine Evt.bind hc0 ?_
 by_cases he : (checkR l).2 = 0
 ·
  rw [if_pos he]
  have hF := formed_of l he
  have hm := hF.most
  by_cases hn : notes.length = l.length
  ·
   rw [if_pos hn]
   refine Evt.congr (g' := fun k => (posternref04_Begin.f k l).bind fun t387 => posternref19_Fix.l0 k l notes defs t387 notes (notes.length : Int) 0) ?_ (fun k => by
     rw [if_pos he, if_pos (by omega)])
   refine Evt.bind (rbegin l hP) ?_
   rw [bad_same]
   have hNc : ∀ q, q ∉ begins l → pc l notes defs q = [] := fun q h => by unfold pc; rw [if_neg h]
   have hNj : ∀ q, q ∉ begins l → pj l (pc l notes defs) q = [] := fun q h => by
    unfold pj
    rw [show isJ l q = false from by unfold isJ; rw [decide_eq_false h]; rfl, if_neg (by decide)]
    exact hNc q h
   have e1 := rowsTo_cat l (pc l notes defs) hNc
   have e2 := rowsTo_cat l (pj l (pc l notes defs)) hNj
   have ere : ∀ (a b : Bool) (x y : List I × Int), (if (a || b) = true then x else y) = (if a = true then x else if b = true then x else y) := by
    intro a b x y; cases a <;> cases b <;> rfl
   rw [ere]
   refine rf_l0 l hP notes hn defs _ l.length 0 (by omega) (fun g1 => ?_)
   refine rf_l1 l hP notes hn defs hd _ (begins l).length 0 (by omega) (fun g2 => ?_)
   rw [List.drop_zero] at g2
   have hg : anyFrom (badS l notes defs) l.length 0 = false := by rw [bad_same, g1, g2]; rfl
   have hJ := pc_jump l hP notes defs hg
   have hO := out_prog l hP notes defs hm hJ
   obtain ⟨q1, hc1⟩ := rcheck _ hO
   rw [e1]
   by_cases hbig : 256 < (cat (pc l notes defs) l.length).length
   ·
    rw [if_pos hbig]
    exact Evt.congr (Evt.const _) (fun k => by rw [if_pos (by omega)])
   ·
    rw [if_neg hbig]
    have h2 := rf_l2 l hP hF (pc l notes defs) (pc_le l notes defs) hJ hNc (if (checkR (cat (pj l (pc l notes defs)) l.length)).2 = 0 then (cat (pj l (pc l notes defs)) l.length, 0) else ([], 2)) (by
     rw [e2]
     refine Evt.bind hc1 ?_
     by_cases h2 : (checkR (cat (pj l (pc l notes defs)) l.length)).2 = 0
     ·
      rw [if_pos h2]; exact Evt.congr (Evt.const _) (fun k => by rw [if_pos h2])
     ·
      rw [if_neg h2]; exact Evt.congr (Evt.const _) (fun k => by rw [if_neg h2])) (begins l).length 0 (by omega)
    rw [← RW_zero] at h2
    exact Evt.congr h2 (fun k => by rw [if_neg (by omega)]; rfl)
  ·
   rw [if_neg hn]
   exact Evt.congr (Evt.const _) (fun k => by rw [if_pos he, if_neg (by omega)])
 ·
  rw [if_neg he]
  exact Evt.congr (Evt.const _) (fun k => by rw [if_neg he])

/-! ### the law -/
theorem same_insts (l : List I) (hl : l.length ≤ 100000000000000) : Evt (fun k => posternref18_SameInsts.f k l l) true := by
 have loop : ∀ (n i : Nat), i + n = l.length → Evt (fun k => posternref18_SameInsts.l0 k l l (l.length : Int) (i : Int)) true := by
  intro n
  induction n with
  | zero =>
   intro i hi
   apply Evt.step2
   ·
    intro k
    simp only [posternref18_SameInsts.l0]
    rw [if_neg (by omega)]
   ·
    exact Evt.const _
  | succ n ih =>
   intro i hi
   have ew : wrap64 ((i : Int) + 1) = ((i + 1 : Nat) : Int) := by unfold wrap64; omega
   apply Evt.step2
   ·
    intro k
    simp only [posternref18_SameInsts.l0]
    rw [if_pos (by omega), if_pos (by omega), if_pos (by omega), if_pos (by omega), if_neg (by simp), ew]
   ·
    exact ih (i + 1) (by omega)
 unfold posternref18_SameInsts.f
 exact Evt.congr (loop l.length 0 (by omega)) (fun k => by rw [if_pos rfl]; rfl)
theorem same_notes (l : List Nt) (hl : l.length ≤ 100000000000000) : Evt (fun k => posternref18_SameNotes.f k l l) true := by
 have loop : ∀ (n i : Nat), i + n = l.length → Evt (fun k => posternref18_SameNotes.l0 k l l (l.length : Int) (i : Int)) true := by
  intro n
  induction n with
  | zero =>
   intro i hi
   apply Evt.step2
   ·
    intro k
    simp only [posternref18_SameNotes.l0]
    rw [if_neg (by omega)]
   ·
    exact Evt.const _
  | succ n ih =>
   intro i hi
   have ew : wrap64 ((i : Int) + 1) = ((i + 1 : Nat) : Int) := by unfold wrap64; omega
   apply Evt.step2
   ·
    intro k
    simp only [posternref18_SameNotes.l0]
    rw [if_pos (by omega), if_pos (by omega), if_pos (by omega), if_pos (by omega), if_neg (by simp), ew]
   ·
    exact ih (i + 1) (by omega)
 unfold posternref18_SameNotes.f
 exact Evt.congr (loop l.length 0 (by omega)) (fun k => by rw [if_pos rfl]; rfl)

theorem both_eq (l : List I) (hok : ∀ x ∈ l, okI x) (notes : List Nt) (defs : List Df) (hd : defs.length ≤ 140737488355328) : ∃ r : List I × Int, r.1.length ≤ 1000000 ∧ Evt (fun k => fix_Fix.f k l notes defs) r ∧ Evt (fun k => posternref19_Fix.f k l notes defs) r := by
 by_cases hb : l.length = 0 ∨ 256 < l.length
 ·
  refine ⟨([], 40), by simp, ?_, ?_⟩
  ·
   unfold fix_Fix.f
   exact Evt.bind (Check_big l hb) (Evt.congr (Evt.const _) (fun k => by rw [if_neg (by decide)]))
  ·
   have hc : Evt (fun k => posternref04_Check.f k l) (0, 40) := by
    unfold posternref04_Check.f
    refine Evt.congr (g' := fun k => posternref04_Check.j0 k l true) ?_ (fun k => ?_)
    ·
     apply Evt.step2
     ·
      intro k
      simp only [posternref04_Check.j0, if_true]
      rfl
     ·
      exact Evt.const _
    ·
     by_cases h0 : l.length = 0
     ·
      rw [if_pos (by omega)]
     ·
      rw [if_neg (by omega), show decide ((l.length : Int) > 256) = true from by simp; omega]
   unfold posternref19_Fix.f
   exact Evt.bind hc (Evt.congr (Evt.const _) (fun k => by rw [if_neg (by decide)]))
 ·
  have hP : Prog l := ⟨by omega, hok⟩
  refine ⟨fixR l notes defs, ?_, Fix_eq l hP notes defs hd, rFix_eq l hP notes defs hd⟩
  unfold fixR
  split
  ·
   split
   ·
    split
    ·
     simp
    ·
     rename_i hg
     split
     ·
      simp
     ·
      rename_i hbig
      split
      ·
       have hJ := pc_jump l hP notes defs (by simpa using hg)
       have h1 := cat_len_congr (pj l (pc l notes defs)) (pc l notes defs) l.length (fun q _ => pj_len l _ hJ q)
       dsimp only
       omega
      ·
       simp
   ·
    simp
  ·
   simp

theorem first19 : posternlaw19_first.f 80 = some true := by decide +kernel

theorem FixMakes (l : List I) (hok : ∀ x ∈ l, okI x) (hl : l.length * 12 ≤ 140737488351232) (notes : List Nt) (hn : notes.length * 16 ≤ 140737488351232) (defs : List Df) (hd : defs.length * 32 ≤ 140737488351232) : ∃ k, posternlaw19_FixMakes.f k l notes defs = some true := by
 have hfirst : Evt (fun k => posternlaw19_first.f k) true := ⟨80, fun k hk => up (fun k => posternlaw19_first.mono k) first19 k hk⟩
 obtain ⟨r, hr, h1, h2⟩ := both_eq l hok notes defs (by omega)
 have main : Evt (fun k => posternlaw19_FixMakes.f k l notes defs) true := by
  unfold posternlaw19_FixMakes.f
  refine Evt.bind hfirst ?_
  refine Evt.congr (g' := fun k => (fix_Fix.f k l notes defs).bind fun bt449 => (posternref19_Fix.f k l notes defs).bind fun bt453 => (if bt449.2 = bt453.2 then ((posternref18_SameInsts.f k bt449.1 bt453.1).bind fun t457 => (if t457 = true then ((posternref18_SameInsts.f k l l).bind fun t458 => (if t458 = true then ((posternref18_SameNotes.f k notes notes).bind fun t459 => (some t459)) else (some false))) else (some false))) else (some false))) ?_ (fun k => by
   rw [if_pos rfl, Option.bind_some, if_pos (by simp; omega), Option.bind_some, Option.bind_some, if_pos (by simp; omega), Option.bind_some, List.nil_append, List.nil_append])
  refine Evt.bind h1 (Evt.bind h2 ?_)
  refine Evt.congr (g' := fun k => (posternref18_SameInsts.f k r.1 r.1).bind fun t457 => (if t457 = true then ((posternref18_SameInsts.f k l l).bind fun t458 => (if t458 = true then ((posternref18_SameNotes.f k notes notes).bind fun t459 => (some t459)) else (some false))) else (some false))) ?_ (fun k => by rw [if_pos rfl])
  refine Evt.bind (same_insts r.1 (by omega)) ?_
  refine Evt.congr (g' := fun k => (posternref18_SameInsts.f k l l).bind fun t458 => (if t458 = true then ((posternref18_SameNotes.f k notes notes).bind fun t459 => (some t459)) else (some false))) ?_ (fun k => by rw [if_pos rfl])
  refine Evt.bind (same_insts l (by omega)) ?_
  refine Evt.congr (g' := fun k => (posternref18_SameNotes.f k notes notes).bind fun t459 => some t459) ?_ (fun k => by rw [if_pos rfl])
  exact Evt.bind (same_notes notes (by omega)) (Evt.const _)
 obtain ⟨k, hk⟩ := main
 exact ⟨k, hk k (Nat.le_refl _)⟩
/-- As the row hands it in. -/
theorem FixMakesRow (l : List I) (hok : ∀ x ∈ l, okI x) (hl : l.length * 12 ≤ 140737488351232) (notes : List Nt) {Q1 : Nt → Prop} (_ : ∀ x ∈ notes, Q1 x) (hn : notes.length * 16 ≤ 140737488351232) (defs : List Df) {Q2 : Df → Prop} (_ : ∀ x ∈ defs, Q2 x) (hd : defs.length * 32 ≤ 140737488351232) : ∃ k, posternlaw19_FixMakes.f k l notes defs = some true := FixMakes l hok hl notes hn defs hd
end Go.Proofs.Ytmijlibnembkaaa.Pure
