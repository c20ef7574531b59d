/- Plain facts on the printed fix.Fix where no note says anything; the law FixStays, in plain words. -/
import Derived.Test.YtmijlibnembkaaaFsPw
import Derived.Test.YtmijlibnembkaaaFsPAx19
import Derived.Test.YtmijlibnembkaaaFsPAx23
namespace Go.Proofs.Ytmijlibnembkaaa.Pure
open Go.RowKit Go.Proofs.Ytmijlibnembkaaa.PA Go.Proofs.YtmijlibnembkaaaW.PrintWords Go.Proofs.YtmijlibnembkaaaW.PrintLast Go.Proofs.YtmijlibnembkaaaX
set_option linter.unusedVariables false
set_option linter.unusedSimpArgs false

theorem Check_big (l : List I) (h : l.length = 0 ∨ 256 < l.length) : Evt (fun k => shape_Check.f k l) (0, 40) := by
  unfold shape_Check.f
  refine Evt.congr (g' := fun k => shape_Check.j0 k l true) ?_ (fun k => ?_)
  · apply Evt.step2
    · intro k
      simp only [shape_Check.j0, if_true]
      rfl
    · exact Evt.const _
  · by_cases h0 : l.length = 0
    · rw [if_pos (by omega)]
    · rw [if_neg (by omega), show decide ((l.length : Int) > 256) = true from by simp; omega]

/-! ### numbers of two slots -/
theorem or_u64 (a b : Nat) (ha : a < 4294967296) (hb : b < 4294967296) : Go.bits .or .u64 (a : Int) ((b * 4294967296 : Nat) : Int) = ((a + b * 4294967296 : Nat) : Int) := by
  have hw : ∀ n : Int, 0 ≤ n → n < 2 ^ 64 → IntKind.u64.wrap n = n := by
    intro n h0 h1
    simp only [IntKind.wrap, IntKind.bits, IntKind.signed]
    simp
    omega
  have h := (bits_nat .u64 64 (by decide) hw a (b * 4294967296) (by omega) (by omega)).2
  rw [h]
  have : a ||| b * 4294967296 = b * 4294967296 + a := by
    have := Nat.shiftLeft_add_eq_or_of_lt (i := 32) (b := a) (by omega) b
    rw [Nat.shiftLeft_eq] at this
    rw [Nat.or_comm]
    exact this.symm
  rw [this]
  omega
theorem Long_eq (x y : I) : insn_Long.f x.f0 x.f1 x.f2 x.f3 x.f4 y.f0 y.f1 y.f2 y.f3 y.f4 = some (x.f4 % 4294967296 + y.f4 % 4294967296 * 4294967296) := by
  unfold insn_Long.f
  have h := or_u64 (x.f4 % 4294967296).toNat (y.f4 % 4294967296).toNat (by omega) (by omega)
  rw [show (((x.f4 % 4294967296).toNat : Nat) : Int) = x.f4 % 4294967296 by omega, show (((y.f4 % 4294967296).toNat * 4294967296 : Nat) : Int) = y.f4 % 4294967296 * 4294967296 by omega] at h
  rw [h]
  congr 1
  omega
theorem wrap_u64 (n : Int) : IntKind.u64.wrap n = n % 18446744073709551616 := by simp [IntKind.wrap, IntKind.bits, IntKind.signed]

/-- What a wide load becomes where no note says anything. -/
def wideHi (x y : I) : Int := wrap32 ((y.f4 % 4294967296 + (if x.f2 = 1 then 65536 else 0)) % 4294967296)
def wide1 (x : I) : I := ⟨24, x.f1, 0, 0, x.f4⟩
def wide2 (x y : I) : I := ⟨0, 0, 0, 0, wideHi x y⟩

theorem split_plain (x y : I) (hx : okI x) (h2 : x.f2 ≠ 1) : insn_Split.f x.f1 0 (x.f4 % 4294967296 + y.f4 % 4294967296 * 4294967296) = some [wide1 x, wide2 x y] := by
  obtain ⟨_, _, _, _, h4⟩ := hx
  unfold insn_Split.f wide1 wide2 wideHi
  rw [if_neg h2]
  have e1 : wrap32 ((x.f4 % 4294967296 + y.f4 % 4294967296 * 4294967296) % 4294967296) = x.f4 := by unfold wrap32; omega
  have e2 : ((x.f4 % 4294967296 + y.f4 % 4294967296 * 4294967296) / 4294967296) % 4294967296 = (y.f4 % 4294967296 + 0) % 4294967296 := by omega
  rw [e1, e2]
theorem split_map (x y : I) (hx : okI x) (h2 : x.f2 = 1) : insn_Split.f x.f1 0 (IntKind.u64.wrap (x.f4 % 4294967296 + y.f4 % 4294967296 * 4294967296 + 281474976710656)) = some [wide1 x, wide2 x y] := by
  obtain ⟨_, _, _, _, h4⟩ := hx
  unfold insn_Split.f wide1 wide2 wideHi
  rw [if_pos h2, wrap_u64]
  have e1 : wrap32 (((x.f4 % 4294967296 + y.f4 % 4294967296 * 4294967296 + 281474976710656) % 18446744073709551616) % 4294967296) = x.f4 := by unfold wrap32; omega
  have e2 : ((x.f4 % 4294967296 + y.f4 % 4294967296 * 4294967296 + 281474976710656) % 18446744073709551616) / 4294967296 % 4294967296 = (y.f4 % 4294967296 + 65536) % 4294967296 := by omega
  rw [e1, e2]

theorem becomes_j0 (k : Nat) (l : List I) (p : Nat) (defs : List S80) (b : Bool) (h : p < l.length) (hsm : l.length < 1000000) (hx : okI (rd_T43 l p)) (hwide : (rd_T43 l p).f0 = 24 → p + 1 < l.length) :
    fix_becomes.j0 (k + 1) l p defs b false false 0 (rd_T43 l p).f0 (rd_T43 l p).f1 (rd_T43 l p).f2 (rd_T43 l p).f3 (rd_T43 l p).f4 =
      some (if (rd_T43 l p).f0 = 24 then [wide1 (rd_T43 l p), wide2 (rd_T43 l p) (rd_T43 l ((p + 1 : Nat) : Int))] else [rd_T43 l p], 0) := by
  have ew : wrap64 ((p : Int) + 1) = ((p + 1 : Nat) : Int) := by unfold wrap64; omega
  simp only [fix_becomes.j0, insn_Wide.f, Option.bind_some, Bool.false_eq_true, if_false, if_true, ew]
  by_cases h24 : (rd_T43 l p).f0 = 24
  · have hp1 := hwide h24
    rw [if_pos (by simp [h24]), if_pos (by omega), if_pos (by omega), Long_eq, Option.bind_some, if_pos h24]
    by_cases h2 : (rd_T43 l p).f2 = 1
    · rw [if_pos h2, split_map _ _ hx h2, Option.bind_some]
    · rw [if_neg h2, split_plain _ _ hx h2, Option.bind_some]
  · rw [if_neg (by simpa using h24), if_neg h24]
theorem becomes_eq (l : List I) (p : Nat) (defs : List S80) (h : p < l.length) (hsm : l.length < 1000000) (hx : okI (rd_T43 l p)) (hwide : (rd_T43 l p).f0 = 24 → p + 1 < l.length) (k : Nat) (hk : 1 ≤ k) :
    fix_becomes.f k l p false false 0 defs =
      some (if (rd_T43 l p).f0 = 24 then [wide1 (rd_T43 l p), wide2 (rd_T43 l p) (rd_T43 l ((p + 1 : Nat) : Int))] else [rd_T43 l p], 0) := by
  obtain ⟨k, rfl⟩ : ∃ m, k = m + 1 := ⟨k - 1, by omega⟩
  simp only [fix_becomes.f]
  rw [if_pos (by omega), if_pos (by omega)]
  by_cases h1 : (rd_T43 l p).f0 = 133
  · rw [if_pos h1]
    by_cases h2 : (rd_T43 l p).f2 = 0
    · rw [if_pos h2]; exact becomes_j0 k l p defs _ h hsm hx hwide
    · rw [if_neg h2]; exact becomes_j0 k l p defs _ h hsm hx hwide
  · rw [if_neg h1]; exact becomes_j0 k l p defs _ h hsm hx hwide

/-! ### what the program becomes -/
def out1 (l : List I) (q : Nat) : I := if q ∈ begins l then (if (rd_T43 l q).f0 = 24 then wide1 (rd_T43 l q) else rd_T43 l q) else wide2 (rd_T43 l ((q - 1 : Nat) : Int)) (rd_T43 l q)
def outUp (l : List I) (p : Nat) : List I := (List.range p).map (out1 l)
def fromUp (l : List I) (p : Nat) : List Int := (List.range l.length).map fun q => if q < p then (if q ∈ begins l then (q : Int) else (q : Int) + 1) else 0
theorem outUp_length (l : List I) (p : Nat) : (outUp l p).length = p := by simp [outUp]
theorem fromUp_length (l : List I) (p : Nat) : (fromUp l p).length = l.length := by simp [fromUp]
theorem outUp_succ (l : List I) (p : Nat) : outUp l (p + 1) = outUp l p ++ [out1 l p] := by simp [outUp, List.range_succ]
theorem fromUp_set (l : List I) (p : Nat) : (fromUp l p).set p (if p ∈ begins l then (p : Int) else (p : Int) + 1) = fromUp l (p + 1) := by
  apply List.ext_getElem
  · simp [fromUp]
  · intro j h1 h2
    rw [List.getElem_set]
    simp only [fromUp, List.getElem_map, List.getElem_range]
    by_cases e : p = j
    · subst e; simp
    · rw [if_neg e]
      by_cases hj : j < p
      · have h3 : j < p + 1 := by omega
        simp [hj, h3]
      · have h3 : ¬ j < p + 1 := by omega
        simp [hj, h3]
theorem fromUp_zero (l : List I) : fromUp l 0 = List.replicate l.length 0 := by
  apply List.ext_getElem
  · simp [fromUp]
  · intro j h1 h2
    simp [fromUp]
theorem fromUp_get (l : List I) (q : Nat) (h : q < l.length) (hb : q ∈ begins l) : rd (fromUp l l.length) (q : Int) = q := by
  simp [rd, fromUp, h, hb]

abbrev notes0 (n : Nat) : List S34 := List.replicate n z34
theorem notes0_rd (n p : Nat) : rd_T34 (notes0 n) (p : Int) = z34 := by
  simp only [rd_T34, notes0, Int.toNat_natCast, List.getD, List.getElem?_replicate]
  split <;> rfl

theorem fix_loop (l : List I) (hP : Prog l) (hF : Formed l) (defs : List S80) (R : List I × Int)
    (hR : Evt (fun k => fix_Fix.l1 k l (outUp l l.length) (fromUp l l.length) (l.length : Int) 0) R) :
    Evt (fun k => fix_Fix.l0 k l defs (starts l) (outUp l 0) (fromUp l 0) (notes0 l.length) ((notes0 l.length).length : Int) ((0 : Nat) : Int)) R := by
  have hsm := hP.small
  have hm := hF.most
  have hsl := starts_length l
  have hnl : (notes0 l.length).length = l.length := by simp
  refine walk_back l hF.plain (fun p => Evt (fun k => fix_Fix.l0 k l defs (starts l) (outUp l p) (fromUp l p) (notes0 l.length) ((notes0 l.length).length : Int) (p : Int)) R) ?_ ?_
  · apply Evt.step2
    · intro k
      simp only [fix_Fix.l0]
      rw [if_neg (by omega), if_neg (by rw [outUp_length]; omega)]
    · exact hR
  · intro p hp hb he hfb
    have hx := hP.at_ p hp
    have ew := wrap_succ l hP p (by omega)
    have hst := starts_get l p hp
    have hfl := fromUp_length l p
    have hol := outUp_length l p
    have hset := fromUp_set l p
    rw [if_pos hb] at hset
    have first : ∀ (L : List I), ((rd_T43 l p).f0 = 24 → p + 1 < l.length) → L = (if (rd_T43 l p).f0 = 24 then [wide1 (rd_T43 l p), wide2 (rd_T43 l p) (rd_T43 l ((p + 1 : Nat) : Int))] else [rd_T43 l p]) →
        Evt (fun k => fix_Fix.l0 k l defs (starts l) (outUp l p ++ L) (fromUp l (p + 1)) (notes0 l.length) ((notes0 l.length).length : Int) ((p + 1 : Nat) : Int)) R →
        Evt (fun k => fix_Fix.l0 k l defs (starts l) (outUp l p) (fromUp l p) (notes0 l.length) ((notes0 l.length).length : Int) (p : Int)) R := by
      intro L hw hL hnext
      have hLl : L.length ≤ 2 := by rw [hL]; split <;> simp
      apply Evt.step2
      · intro k
        simp only [fix_Fix.l0]
        rw [if_pos (by omega), if_pos (by omega), if_pos (by omega), if_pos (by omega), Option.bind_some, if_pos (by omega), hst, if_pos (by simp [hb]), notes0_rd, hol, Int.toNat_natCast, hset]
      · refine Evt.bind (Evt.of 1 fun k hk => becomes_eq l p defs hp hsm hx hw k hk) ?_
        rw [← hL]
        refine Evt.congr hnext (fun k => ?_)
        rw [if_pos rfl, if_pos (by dsimp only; omega), ew]
    refine ⟨fun h1 hnext => ?_, fun h2 hp1 hnb hnext => ?_⟩
    · have h24 := narrow_here l p hp he h1
      refine first [rd_T43 l p] (fun h => absurd h h24) (by rw [if_neg h24]) ?_
      have : outUp l (p + 1) = outUp l p ++ [rd_T43 l p] := by
        rw [outUp_succ]; unfold out1; rw [if_pos hb, if_neg h24]
      rw [← this]
      exact hnext
    · have h24 := (wide_here l p hp1 he h2).1
      refine first [wide1 (rd_T43 l p), wide2 (rd_T43 l p) (rd_T43 l ((p + 1 : Nat) : Int))] (fun _ => hp1) (by rw [if_pos h24]) ?_
      have ho : outUp l (p + 2) = outUp l p ++ [wide1 (rd_T43 l p), wide2 (rd_T43 l p) (rd_T43 l ((p + 1 : Nat) : Int))] := by
        rw [outUp_succ, outUp_succ]
        unfold out1
        rw [if_pos hb, if_pos h24, if_neg hnb]
        simp
      rw [← ho]
      clear h24 ho hx first hst hset ew hol hfl
      have hst1 := starts_get l (p + 1) hp1
      have ew1 := wrap_succ l hP (p + 1) (by omega)
      have hset1 := fromUp_set l (p + 1)
      rw [if_neg hnb] at hset1
      have hol2 := outUp_length l (p + 2)
      have hfl1 := fromUp_length l (p + 1)
      apply Evt.step2
      · intro k
        simp only [fix_Fix.l0]
        rw [if_pos (by omega), if_pos (by omega), if_pos (by omega), if_pos (by omega), Option.bind_some, if_pos (by omega), hst1, if_neg (by simp [hnb]), notes0_rd, if_neg (by decide), hol2, Int.toNat_natCast, show ((p + 2 : Nat) : Int) = ((p + 1 : Nat) : Int) + 1 by omega, hset1]
      · apply Evt.step2
        · intro k
          simp only [fix_Fix.j1]
          rw [if_neg (by decide), ew1]
        · exact hnext

theorem pair_eta {α β : Type} (p : α × β) : some (p.1, p.2) = some p := by cases p; rfl
theorem Target_eq (l : List I) (hP : Prog l) (i : Nat) (h : i < l.length) : Evt (fun k => shape_Target.f k l (i : Int)) (if i ∈ begins l then tgt l i else (0, false)) := by
  have hsm := hP.small
  unfold shape_Target.f
  refine Evt.congr (g' := fun k => (shape_Starts.f k l).bind fun t293 => if 0 ≤ (i : Int) then (if (i : Int) < (t293.length : Int) then (if rdOf false t293 (i : Int) = true then ((shape_target.f k l (i : Int)).bind fun bt297 => (some (bt297.1, bt297.2))) else (some (0, false))) else (none)) else (none)) ?_ (fun k => by rw [if_neg (by omega), if_neg (by omega)])
  refine Evt.bind (Evt.of _ fun k hk => Starts_eq l (by omega) hP.ok k hk) ?_
  have hsl := starts_length l
  have hst := starts_get l i h
  by_cases hb : i ∈ begins l
  · rw [if_pos hb]
    refine Evt.congr (g' := fun k => (shape_target.f k l (i : Int)).bind fun bt297 => (some (bt297.1, bt297.2))) ?_ (fun k => by rw [if_pos (by omega), if_pos (by omega), hst, if_pos (by simp [hb])])
    exact Evt.bind (Evt.of 1 fun k hk => target_eq l i h (by omega) hP.ok k hk) (Evt.congr (Evt.const (tgt l i)) (fun k => pair_eta _))
  · rw [if_neg hb]
    exact Evt.congr (Evt.const _) (fun k => by rw [if_pos (by omega), if_pos (by omega), hst, if_neg (by simp [hb])])

theorem jmp_not_wide (x : I) (h : (jmp x).2 = true) (h24 : x.f0 = 24) : False := by
  have h0 : clsB x.f0 = 0 := by rw [cls_eq x.f0 (by omega) (by omega)]; omega
  unfold jmp jumpsC at h
  rw [if_neg (fun hc => by rcases hc.1 with h5 | h6 <;> omega)] at h
  cases h
theorem set_same (L : List I) (q : Nat) (x : I) (h : q < L.length) (hx : rd_T43 L (q : Int) = x) : L.set q x = L := by
  have : x = L[q] := by rw [← hx]; simp [rd_T43, h]
  rw [this]; exact List.set_getElem_self h
theorem outUp_rd (l : List I) (q : Nat) (h : q < l.length) : rd_T43 (outUp l l.length) (q : Int) = out1 l q := by
  simp [rd_T43, outUp, h]

theorem num1 {T i J : Int} (h : T = i + 1 + J) (h0 : 0 ≤ i) (h1 : i < 1000000) (hJ : -2147483648 ≤ J ∧ J < 2147483648) : wrap64 (wrap64 (T - i) - 1) = J := by unfold wrap64; omega
theorem num2 {T : Int} {n m : Nat} (h : T < n) (e : m = n) : T < (m : Int) := by omega
theorem num3 {T : Int} {n : Nat} (h0 : 0 ≤ T) (h : T < n) : T.toNat < n := by omega
theorem wrap32_id {m : Int} (h : -2147483648 ≤ m ∧ m < 2147483648) : wrap32 m = m := by unfold wrap32; omega
theorem wrap16_id {m : Int} (h : -32768 ≤ m ∧ m < 32768) : IntKind.i16.wrap m = m := by simp [IntKind.wrap, IntKind.bits, IntKind.signed]; omega
theorem tgt_jmp (l : List I) (i : Nat) (ht : (tgt l i).2 = true) : (jmp (rd_T43 l i)).2 = true ∧ (tgt l i).1 = (i : Int) + 1 + (jmp (rd_T43 l i)).1 := by
  unfold tgt at ht ⊢
  split
  · rename_i hh; exact ⟨hh.1, rfl⟩
  · rename_i hh; rw [if_neg hh] at ht; cases ht
theorem jmp_is (x : I) (h : (jmp x).2 = true) : (jmp x).1 = if x.f0 = 133 then x.f4 else x.f3 := by
  unfold jmp jumpsC at h ⊢
  by_cases hc : (clsB x.f0 = 5 ∨ clsB x.f0 = 6) ∧ x.f0 ≠ 149
  · rw [if_pos hc]; split <;> rfl
  · rw [if_neg hc] at h; cases h

theorem fix_jumps (l : List I) (hP : Prog l) (hF : Formed l) (R : List I × Int) (hR : Evt (fun k => (shape_Check.f k (outUp l l.length)).bind fun bt480 => (if bt480.2 = 0 then (some (outUp l l.length, 0)) else (some (([] : List I), 2)))) R) :
    ∀ (n i : Nat), l.length - i ≤ n → i ≤ l.length → Evt (fun k => fix_Fix.l1 k l (outUp l l.length) (fromUp l l.length) (l.length : Int) (i : Int)) R := by
  have hsm := hP.small
  have hfl := fromUp_length l l.length
  have hol := outUp_length l l.length
  intro n
  induction n with
  | zero =>
    intro i hn hi
    apply Evt.step2
    · intro k
      simp only [fix_Fix.l1]
      rw [if_neg (by omega)]
    · exact hR
  | succ n ih =>
    intro i hn hi
    by_cases h : i < l.length
    · have ew := wrap_succ l hP i hi
      have hnext := ih (i + 1) (by omega) (by omega)
      apply Evt.step2
      · intro k
        simp only [fix_Fix.l1]
        rw [if_pos (by omega)]
      · refine Evt.bind (Target_eq l hP i h) ?_
        by_cases hb : i ∈ begins l
        · rw [if_pos hb]
          cases ht : (tgt l i).2 with
          | false => exact Evt.congr hnext (fun k => by rw [if_neg (by decide), ew])
          | true =>
            have hA : (0 : Int) ≤ i := by omega
            have hB : (i : Int) < ((fromUp l l.length).length : Int) := by omega
            have hC : (i : Int) < (l.length : Int) := by omega
            have hD : (i : Int) < ((outUp l l.length).length : Int) := by omega
            have hD' : i < (outUp l l.length).length := by omega
            have hE : (i : Int) < 1000000 := by omega
            have hr := tgt_range l i ht
            have hj := tgt_jmp l i ht
            have hto := (hF.jumps i h hb hj.1).2
            have hrt : rd (fromUp l l.length) (tgt l i).1 = (tgt l i).1 := by
              have := fromUp_get l (tgt l i).1.toNat (num3 hr.1 hr.2) hto
              rwa [Int.toNat_of_nonneg hr.1] at this
            have hri := fromUp_get l i h hb
            have hx := hP.at_ i h
            have hbd := jmp_bound _ hx
            have h24 : (rd_T43 l i).f0 ≠ 24 := fun h24 => jmp_not_wide _ hj.1 h24
            have hro : rd_T43 (outUp l l.length) (i : Int) = rd_T43 l i := by
              rw [outUp_rd l i h]; unfold out1; rw [if_pos hb, if_neg h24]
            have hby : wrap64 (wrap64 ((tgt l i).1 - (i : Int)) - 1) = (jmp (rd_T43 l i)).1 := num1 hj.2 hA hE hbd
            rw [jmp_is _ hj.1] at hby
            by_cases h133 : (rd_T43 l i).f0 = 133
            · rw [if_pos h133] at hby
              refine Evt.congr hnext (fun k => ?_)
              rw [if_pos rfl, if_pos hr.1, if_pos (num2 hr.2 hfl), if_pos hA, if_pos hB, if_pos hC, if_pos h133, hrt, hri, if_pos hA, if_pos hD, hby, hro, wrap32_id hx.2.2.2.2, Int.toNat_natCast, set_same _ i _ hD' hro, ew]
            · rw [if_neg h133] at hby
              refine Evt.congr hnext (fun k => ?_)
              rw [if_pos rfl, if_pos hr.1, if_pos (num2 hr.2 hfl), if_pos hA, if_pos hB, if_pos hC, if_neg h133, hrt, hri, if_pos hA, if_pos hD, hby, hro, wrap16_id hx.2.2.2.1, Int.toNat_natCast, set_same _ i _ hD' hro, ew]
        · rw [if_neg hb]
          exact Evt.congr hnext (fun k => by rw [if_neg (by decide), ew])
    · apply Evt.step2
      · intro k
        simp only [fix_Fix.l1]
        rw [if_neg (by omega)]
      · exact hR
end Go.Proofs.Ytmijlibnembkaaa.Pure
