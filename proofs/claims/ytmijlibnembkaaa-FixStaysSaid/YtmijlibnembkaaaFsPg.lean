/- The law FixStays in plain words: a program without anything to fix stays as it is. -/
import Derived.Test.YtmijlibnembkaaaFsPf
namespace Go.Proofs.Ytmijlibnembkaaa.Pure
open Go.RowKit Go.Proofs.Ytmijlibnembkaaa.PA Go.Proofs.YtmijlibnembkaaaW.PrintWords Go.Proofs.YtmijlibnembkaaaW.PrintLast Go.Proofs.YtmijlibnembkaaaX
set_option linter.unusedVariables false
set_option linter.unusedSimpArgs false

theorem wrap32_range (n : Int) : -2147483648 ≤ wrap32 n ∧ wrap32 n < 2147483648 := by unfold wrap32; omega
theorem okI_z : okI z43 := by unfold okI z43; decide
theorem okI_rd (l : List I) (hok : ∀ x ∈ l, okI x) (i : Int) : okI (rd_T43 l i) := by
  unfold rd_T43
  by_cases h : i.toNat < l.length
  · have : l.getD i.toNat z43 = l[i.toNat] := by simp [h]
    rw [this]; exact hok _ (List.getElem_mem h)
  · have : l.getD i.toNat z43 = z43 := by simp [List.getD, List.getElem?_eq_none (show l.length ≤ i.toNat by omega)]
    rw [this]; exact okI_z
theorem out_prog (l : List I) (hP : Prog l) : Prog (outUp l l.length) := by
  refine ⟨by rw [outUp_length]; exact hP.small, fun x hx => ?_⟩
  obtain ⟨q, hq, rfl⟩ := List.mem_map.1 hx
  have h1 := okI_rd l hP.ok q
  unfold out1
  split
  · split
    · obtain ⟨_, a, _, _, b⟩ := h1
      exact ⟨by simp [wide1], a, by simp [wide1], by simp [wide1], b⟩
    · exact h1
  · have := wrap32_range ((((rd_T43 l (q : Int)).f4 % 4294967296 + (if (rd_T43 l ((q - 1 : Nat) : Int)).f2 = 1 then 65536 else 0)) % 4294967296))
    exact ⟨by simp [wide2], by simp [wide2], by simp [wide2], by simp [wide2], this⟩

theorem Fix_zero (l : List I) (hok : ∀ x ∈ l, okI x) (defs : List S80) (hbig : l.length ≤ 35184372088832) :
    (∃ e : Int, e ≠ 0 ∧ Evt (fun k => fix_Fix.f k l (notes0 l.length) defs) ([], e)) ∨
    (Prog l ∧ Formed l ∧ Evt (fun k => fix_Fix.f k l (notes0 l.length) defs) (outUp l l.length, 0)) := by
  by_cases hb : l.length = 0 ∨ 256 < l.length
  · refine .inl ⟨40, by decide, ?_⟩
    unfold fix_Fix.f
    refine Evt.bind (Check_big l hb) ?_
    exact Evt.congr (Evt.const _) (fun k => by rw [if_neg (by decide)])
  · have hP : Prog l := ⟨by omega, hok⟩
    by_cases he : (checkR l).2 = 0
    · have hF := formed_of l he
      have hO := out_prog l hP
      have hc := Check_eq _ hO
      have main : ∀ R, Evt (fun k => (shape_Check.f k (outUp l l.length)).bind fun bt480 => (if bt480.2 = 0 then (some (outUp l l.length, 0)) else (some (([] : List I), 2)))) R → Evt (fun k => fix_Fix.f k l (notes0 l.length) defs) R := by
        intro R hR
        unfold fix_Fix.f
        refine Evt.bind (Check_eq l hP) ?_
        have hloop := fix_loop l hP hF defs R (fix_jumps l hP hF R hR l.length 0 (by omega) (by omega))
        rw [fromUp_zero] at hloop
        refine Evt.congr (g' := fun k => (shape_Starts.f k l).bind fun t463 => if 0 ≤ (l.length : Int) then (if ((l.length : Int) : Int).toNat ≤ 35184372088832 then fix_Fix.l0 k l defs t463 [] (List.replicate ((l.length : Int) : Int).toNat 0) (notes0 l.length) ((notes0 l.length).length : Int) 0 else none) else none) ?_ (fun k => by
          rw [if_pos he, if_pos (by simp)])
        refine Evt.bind (Evt.of _ fun k hk => Starts_eq l (by omega) hok k hk) ?_
        refine Evt.congr hloop (fun k => ?_)
        rw [if_pos (by omega), if_pos (by omega), Int.toNat_natCast]
        rfl
      by_cases h2 : (checkR (outUp l l.length)).2 = 0
      · refine .inr ⟨hP, hF, main _ ?_⟩
        refine Evt.bind hc ?_
        exact Evt.congr (Evt.const _) (fun k => by rw [if_pos h2])
      · refine .inl ⟨2, by decide, main _ ?_⟩
        refine Evt.bind hc ?_
        exact Evt.congr (Evt.const _) (fun k => by rw [if_neg h2])
    · refine .inl ⟨(checkR l).2, he, ?_⟩
      unfold fix_Fix.f
      refine Evt.bind (Check_eq l hP) ?_
      exact Evt.congr (Evt.const _) (fun k => by rw [if_neg he])

/-- Of each slot, what the law asks of what it became. -/
def Slot (l : List I) (i : Nat) : Prop :=
  (i ∈ begins l ∧ (rd_T43 l i).f0 ≠ 24) ∨
  (i ∈ begins l ∧ (rd_T43 l i).f0 = 24 ∧ i + 1 < l.length ∧ i + 1 ∉ begins l ∧ (rd_T43 l i).f2 ≤ 1 ∧ (rd_T43 l i).f3 = 0) ∨
  (i ∉ begins l ∧ 0 < i ∧ (rd_T43 l ((i - 1 : Nat) : Int)).f0 = 24 ∧ (rd_T43 l i).f0 = 0 ∧ (rd_T43 l i).f1 = 0 ∧ (rd_T43 l i).f2 = 0 ∧ (rd_T43 l i).f3 = 0)
theorem slots (l : List I) (hF : Formed l) : ∀ i, i < l.length → Slot l i := by
  have h := walk_back l hF.plain (fun p => ∀ i, p ≤ i → i < l.length → Slot l i) (fun i h1 h2 => by omega) (fun p hp hb he hfb => ?_)
  · intro i hi; exact h i (by omega) hi
  · refine ⟨fun h1 hn i hi hl => ?_, fun h2 hp1 hnb hn i hi hl => ?_⟩
    · by_cases e : i = p
      · subst e; exact .inl ⟨hb, narrow_here l i hp he h1⟩
      · exact hn i (by omega) hl
    · obtain ⟨h24, hs, ho, hz⟩ := wide_here l p hp1 he h2
      by_cases e : i = p
      · subst e; exact .inr (.inl ⟨hb, h24, hp1, hnb, hs, ho⟩)
      · by_cases e1 : i = p + 1
        · subst e1; exact .inr (.inr ⟨hnb, by omega, by simpa using h24, hz⟩)
        · exact hn i (by omega) hl

theorem stays_loop (l : List I) (hP : Prog l) (hF : Formed l) : ∀ (n i : Nat), l.length - i ≤ n → i ≤ l.length →
    Evt (fun k => posternlaw19_FixStays.l0 k l (outUp l l.length) ((outUp l l.length).length : Int) (i : Int)) true := by
  have hsm := hP.small
  have hol := outUp_length l l.length
  intro n
  induction n with
  | zero =>
    intro i hn hi
    apply Evt.step2
    · intro k
      simp only [posternlaw19_FixStays.l0]
      rw [if_neg (by omega)]
    · exact Evt.const _
  | succ n ih =>
    intro i hn hi
    by_cases h : i < l.length
    · have ew := wrap_succ l hP i hi
      have hnext := ih (i + 1) (by omega) (by omega)
      have hx := okI_rd l hP.ok i
      have hro := outUp_rd l i h
      -- what the second slot of a map's load became
      have two : ∀ b : Bool, b = false → Evt (fun k => posternlaw19_FixStays.j2 k l (outUp l l.length) ((outUp l l.length).length : Int) (i : Int) b) true := by
        intro b hb
        subst hb
        apply Evt.step2
        · intro k
          simp only [posternlaw19_FixStays.j2]
          rw [if_neg (by decide), ew]
        · exact hnext
      have same : out1 l i = rd_T43 l i → Evt (fun k => posternlaw19_FixStays.j1 k l (outUp l l.length) (i : Int) ((outUp l l.length).length : Int) (i : Int) false (rd_T43 l i).f0 (rd_T43 l i).f1 (rd_T43 l i).f2 (rd_T43 l i).f3 (rd_T43 l i).f4) true := by
        intro hs
        apply Evt.step2
        · intro k
          simp only [posternlaw19_FixStays.j1]
          rw [if_neg (by decide), if_pos (by omega), if_pos (by omega), hro, hs, if_neg (by simp), ew]
        · exact hnext
      have key : Evt (fun k => if (rd_T43 l i).f0 = 24 then (posternlaw19_FixStays.j1 k l (outUp l l.length) (i : Int) ((outUp l l.length).length : Int) (i : Int) ((rd_T43 l i).f2 == 1) (rd_T43 l i).f0 (rd_T43 l i).f1 (rd_T43 l i).f2 (rd_T43 l i).f3 (rd_T43 l i).f4) else (posternlaw19_FixStays.j1 k l (outUp l l.length) (i : Int) ((outUp l l.length).length : Int) (i : Int) false (rd_T43 l i).f0 (rd_T43 l i).f1 (rd_T43 l i).f2 (rd_T43 l i).f3 (rd_T43 l i).f4)) true := by
        rcases slots l hF i h with ⟨hb, h24⟩ | ⟨hb, h24, hi1, hnb, hsrc, hoff⟩ | ⟨hnb, hi0, hp24, z0, z1, z2, z3⟩
        · refine Evt.congr (same ?_) (fun k => by rw [if_neg h24])
          unfold out1; rw [if_pos hb, if_neg h24]
        · have h1 : out1 l i = wide1 (rd_T43 l i) := by unfold out1; rw [if_pos hb, if_pos h24]
          have ho1 : rd_T43 (outUp l l.length) ((i + 1 : Nat) : Int) = wide2 (rd_T43 l i) (rd_T43 l ((i + 1 : Nat) : Int)) := by
            rw [outUp_rd l (i + 1) hi1]; unfold out1; rw [if_neg hnb]; simp
          by_cases h2 : (rd_T43 l i).f2 = 1
          · refine Evt.congr (g' := fun k => posternlaw19_FixStays.j1 k l (outUp l l.length) (i : Int) ((outUp l l.length).length : Int) (i : Int) true (rd_T43 l i).f0 (rd_T43 l i).f1 (rd_T43 l i).f2 (rd_T43 l i).f3 (rd_T43 l i).f4) ?_ (fun k => by rw [if_pos h24, h2]; rfl)
            apply Evt.step2
            · intro k
              simp only [posternlaw19_FixStays.j1]
              rw [if_pos trivial, if_pos (by omega), if_pos (by omega), hro, h1, if_pos (by rfl), if_pos (by rfl), if_pos (by rfl), if_pos (by rfl), ew, if_pos (by omega), if_pos (by omega), if_pos (by omega), ho1]
            · refine two _ ?_
              simp only [wide2, wideHi, h2, if_true, bne_eq_false_iff_eq]
              unfold wrap32; omega
          · refine Evt.congr (g' := fun k => posternlaw19_FixStays.j1 k l (outUp l l.length) (i : Int) ((outUp l l.length).length : Int) (i : Int) false (rd_T43 l i).f0 (rd_T43 l i).f1 (rd_T43 l i).f2 (rd_T43 l i).f3 (rd_T43 l i).f4) (same ?_) (fun k => by rw [if_pos h24, show ((rd_T43 l i).f2 == 1) = false by simpa using h2])
            have h20 : (rd_T43 l i).f2 = 0 := by have := hx.2.2.1; omega
            rw [h1]
            unfold wide1
            rw [← h24, ← hoff]
            conv => lhs; rw [hoff]
            rw [← h20]
            conv => rhs; rw [show rd_T43 l (i : Int) = ⟨(rd_T43 l i).f0, (rd_T43 l i).f1, (rd_T43 l i).f2, (rd_T43 l i).f3, (rd_T43 l i).f4⟩ from rfl]
            rw [hoff, h20]
        · have h24 : (rd_T43 l i).f0 ≠ 24 := by rw [z0]; decide
          have h1 : out1 l i = wide2 (rd_T43 l ((i - 1 : Nat) : Int)) (rd_T43 l i) := by unfold out1; rw [if_neg hnb]
          have ew1 : wrap64 ((i : Int) - 1) = ((i - 1 : Nat) : Int) := by unfold wrap64; omega
          by_cases h2 : (rd_T43 l ((i - 1 : Nat) : Int)).f2 = 1
          · refine Evt.congr (g' := fun k => posternlaw19_FixStays.j1 k l (outUp l l.length) (i : Int) ((outUp l l.length).length : Int) (i : Int) false (rd_T43 l i).f0 (rd_T43 l i).f1 (rd_T43 l i).f2 (rd_T43 l i).f3 (rd_T43 l i).f4) ?_ (fun k => by rw [if_neg h24])
            apply Evt.step2
            · intro k
              simp only [posternlaw19_FixStays.j1]
              rw [if_neg (by decide), if_pos (by omega), if_pos (by omega)]
            · refine Evt.congr hnext (fun k => ?_)
              rw [if_neg (show ¬ ((i : Int) = 0) by omega), ew1, if_pos (show (0 : Int) ≤ ((i - 1 : Nat) : Int) by omega), if_pos (show ((i - 1 : Nat) : Int) < (l.length : Int) by omega), if_pos hp24, if_pos h2, ew, ite_self]
          · refine Evt.congr (same ?_) (fun k => by rw [if_neg h24])
            rw [h1]
            unfold wide2 wideHi
            rw [if_neg h2]
            have : wrap32 (((rd_T43 l i).f4 % 4294967296 + 0) % 4294967296) = (rd_T43 l i).f4 := by
              have := hx.2.2.2.2; unfold wrap32; omega
            rw [this]
            conv => rhs; rw [show rd_T43 l (i : Int) = ⟨(rd_T43 l i).f0, (rd_T43 l i).f1, (rd_T43 l i).f2, (rd_T43 l i).f3, (rd_T43 l i).f4⟩ from rfl, z0, z1, z2, z3]
      apply Evt.step2
      · intro k
        simp only [posternlaw19_FixStays.l0]
        rw [if_pos (by omega), if_pos (by omega), if_pos (by omega)]
      · exact key
    · apply Evt.step2
      · intro k
        simp only [posternlaw19_FixStays.l0]
        rw [if_neg (by omega)]
      · exact Evt.const _

theorem first19 : posternlaw19_first.f 80 = some true := by decide +kernel

theorem FixStays (l : List I) (hok : ∀ x ∈ l, okI x) (hl : l.length * 12 ≤ 140737488351232) (defs : List S80) : ∃ k, posternlaw19_FixStays.f k l defs = some true := by
  have hfirst : Evt (fun k => posternlaw19_first.f k) true := ⟨80, fun k hk => up (fun k => posternlaw19_first.mono k) first19 k hk⟩
  have main : Evt (fun k => posternlaw19_FixStays.f k l defs) true := by
    unfold posternlaw19_FixStays.f
    refine Evt.bind hfirst ?_
    refine Evt.congr (g' := fun k => (fix_Fix.f k l (notes0 l.length) defs).bind fun bt595 => (if bt595.2 = 0 then (if (bt595.1.length : Int) = (l.length : Int) then (posternlaw19_FixStays.l0 k l bt595.1 (bt595.1.length : Int) 0) else (some false)) else (some ((bt595.1.length : Int) == 0)))) ?_ (fun k => by
      rw [if_pos rfl, if_pos (by omega), if_pos (by omega), Int.toNat_natCast])
    rcases Fix_zero l hok defs (by omega) with ⟨e, he, hf⟩ | ⟨hP, hF, hf⟩
    · refine Evt.bind hf ?_
      exact Evt.congr (Evt.const _) (fun k => by rw [if_neg he]; rfl)
    · refine Evt.bind hf ?_
      refine Evt.congr (stays_loop l hP hF l.length 0 (by omega) (by omega)) (fun k => ?_)
      rw [if_pos rfl, if_pos (by rw [outUp_length])]
      rfl
  obtain ⟨k, hk⟩ := main
  exact ⟨k, hk k (Nat.le_refl _)⟩
/-- As the row hands it in. -/
theorem FixStaysRow (l : List I) (hok : ∀ x ∈ l, okI x) (hl : l.length * 12 ≤ 140737488351232) (defs : List S80) {Q : S80 → Prop} {B : Nat} (_ : ∀ x ∈ defs, Q x) (_ : defs.length * B ≤ 140737488351232) : ∃ k, posternlaw19_FixStays.f k l defs = some true := FixStays l hok hl defs
end Go.Proofs.Ytmijlibnembkaaa.Pure
