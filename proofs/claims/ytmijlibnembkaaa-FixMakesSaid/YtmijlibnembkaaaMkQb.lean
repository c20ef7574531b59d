/- Plain facts on the document's answer for layer 4: Begin, To, In, wrong, Of, Parts. -/
import Derived.Test.YtmijlibnembkaaaMkQa
namespace Go.Proofs.Ytmijlibnembkaaa.Pure
open Go.RowKit Go.Proofs.Ytmijlibnembkaaa.PA Go.Proofs.YtmijlibnembkaaaW.PrintWords Go.Proofs.YtmijlibnembkaaaW.PrintLast Go.Proofs.YtmijlibnembkaaaX
set_option linter.unusedVariables false
set_option linter.unusedSimpArgs false

def ints (ps : List Nat) : List Int := ps.map (fun q : Nat => (q : Int))
def begI (l : List I) : List Int := ints (begins l)

theorem rbegin_loop (l : List I) (hP : Prog l) : ∀ (n p : Nat) (acc : List Int), l.length - p ≤ n → p ≤ l.length → acc.length ≤ p →
  Evt (fun k => posternref04_Begin.l0 k l acc (p : Int)) (acc ++ ints (begFrom n (l.drop p) p)) := by
 have hsm := hP.small
 intro n
 induction n with
 | zero =>
  intro p acc hn hp ha
  refine Evt.step2 (g' := fun _ => some acc) (fun k => ?_) (by simpa [begFrom, ints] using Evt.const acc)
  simp only [posternref04_Begin.l0]
  rw [if_neg (by omega)]
 | succ n ih =>
  intro p acc hn hp ha
  by_cases h : p < l.length
  ·
   have hw := fun he => plainS_width (l.drop p) he
   have hlen : (l.drop p).length = l.length - p := by simp
   refine Evt.step2 (g' := fun k => (posternref02_Plain.f k l (p : Int)).bind fun bt304 => (if bt304.2 = 0 then (if acc.length < 17592186044416 then (posternref04_Begin.l0 k l (acc ++ [(p : Int)]) (wrap64 ((p : Int) + bt304.1))) else (none)) else (some acc))) (fun k => ?_) (Evt.bind (Evt.of 7 fun k hk => rplain l hP p h k hk) ?_)
   ·
    simp only [posternref04_Begin.l0]
    rw [if_pos (by omega)]
   ·
    simp only [begFrom]
    by_cases he : (plainS (l.drop p)).2 = 0
    ·
     have hw' := hw he
     rw [if_pos he]
     have ew : wrap64 ((p : Int) + (plainS (l.drop p)).1) = ((p + (plainS (l.drop p)).1.toNat : Nat) : Int) := by unfold wrap64; omega
     have := ih (p + (plainS (l.drop p)).1.toNat) (acc ++ [(p : Int)]) (by omega) (by omega) (by simp; omega)
     refine Evt.congr (g' := fun k => posternref04_Begin.l0 k l (acc ++ [(p : Int)]) ((p + (plainS (l.drop p)).1.toNat : Nat) : Int)) ?_ (fun k => by rw [if_pos he, if_pos (by omega), ew])
     rw [List.drop_drop]
     simpa [ints] using this
    ·
     rw [if_neg he]
     exact Evt.congr (by simpa [ints] using Evt.const acc) (fun k => by rw [if_neg he])
  ·
   have : p = l.length := by omega
   subst this
   refine Evt.step2 (g' := fun _ => some acc) (fun k => ?_) (by simpa [begFrom_nil, ints] using Evt.const acc)
   simp only [posternref04_Begin.l0]
   rw [if_neg (by omega)]
theorem rbegin (l : List I) (hP : Prog l) : Evt (fun k => posternref04_Begin.f k l) (begI l) := by
 unfold posternref04_Begin.f
 have := rbegin_loop l hP l.length 0 [] (by omega) (by omega) (by simp)
 simpa [begI, begins] using this

/-! ### To -/
def toR (x : I) (i : Nat) : Int × Bool := if (jmp x).2 = true then ((i : Int) + 1 + (jmp x).1, true) else (0, false)
theorem rto_aux (i : Nat) (hi : i < 1000000) (op d s o m c : Int) (h0 : 0 ≤ op) (h1 : op < 256) (hc : c = op % 8) (o0 : -32768 ≤ o) (o1 : o < 32768) (m0 : -2147483648 ≤ m) (m1 : m < 2147483648) (k : Nat) (b : Bool) (hb : b = (op == 133 && s == 1)) :
  posternref04_To.j0 (k + 1) (i : Int) op b op d s o m = some (if (jumpsC op c s o m).2 = true then ((i : Int) + 1 + (jumpsC op c s o m).1, true) else (0, false)) := by
 have ew : wrap64 ((i : Int) + 1) = (i : Int) + 1 := by unfold wrap64; omega
 have e4 : wrap64 m = m := by unfold wrap64; omega
 have e3 : wrap64 o = o := by unfold wrap64; omega
 have ew4 : wrap64 ((i : Int) + 1 + m) = (i : Int) + 1 + m := by unfold wrap64; omega
 have ew3 : wrap64 ((i : Int) + 1 + o) = (i : Int) + 1 + o := by unfold wrap64; omega
 have et : Int.tmod op 8 = c := by rw [Int.tmod_eq_emod_of_nonneg h0, hc]
 simp only [posternref04_To.j0, ew, e4, e3, ew4, ew3, et]
 clear ew e4 e3 ew4 ew3 et
 unfold jumpsC
 by_cases h133 : op = 133
 ·
  have h5 : c = 5 := by omega
  have h149 : op ≠ 149 := by omega
  rw [if_pos h133, if_pos (show (c = 5 ∨ c = 6) ∧ op ≠ 149 from ⟨.inl h5, h149⟩), if_pos h133]
  have hb' : b = (s == 1) := by rw [hb, show (op == 133) = true from by simpa using h133]; rfl
  rw [hb']
  cases s == 1 <;> rfl
 ·
  have hb' : b = false := by rw [hb, show (op == 133) = false from by simpa using h133]; rfl
  rw [hb', if_neg (by decide), if_neg h133]
  by_cases h149 : op = 149
  ·
   rw [if_pos h149, if_neg (show ¬ ((c = 5 ∨ c = 6) ∧ op ≠ 149) from fun h => h.2 h149)]; rfl
  ·
   rw [if_neg h149]
   by_cases h5 : c = 5
   ·
    rw [if_pos h5, if_pos (show (c = 5 ∨ c = 6) ∧ op ≠ 149 from ⟨.inl h5, h149⟩), if_neg h133]; rfl
   ·
    rw [if_neg h5]
    by_cases h6 : c = 6
    ·
     rw [if_pos h6, if_pos (show (c = 5 ∨ c = 6) ∧ op ≠ 149 from ⟨.inr h6, h149⟩), if_neg h133]; rfl
    ·
     rw [if_neg h6, if_neg (show ¬ ((c = 5 ∨ c = 6) ∧ op ≠ 149) from fun h => h.1.elim h5 h6)]; rfl
theorem rto (l : List I) (hP : Prog l) (i : Nat) (h : i < l.length) (k : Nat) (hk : 1 ≤ k) : posternref04_To.f k l (i : Int) = some (toR (rd_T43 l (i : Int)) i) := by
 obtain ⟨m, rfl⟩ : ∃ m, k = m + 1 := ⟨k - 1, by omega⟩
 have hsm := hP.small
 obtain ⟨⟨a0, a1⟩, _, _, ⟨o0, o1⟩, m0, m1⟩ := hP.at_ i h
 have ew : wrap64 (rd_T43 l (i : Int)).f0 = (rd_T43 l (i : Int)).f0 := by unfold wrap64; omega
 unfold posternref04_To.f toR jmp
 rw [if_pos (by omega), if_pos (by omega), ew]
 by_cases h133 : (rd_T43 l (i : Int)).f0 = 133
 ·
  rw [if_pos h133]
  exact rto_aux i (by omega) _ _ _ _ _ _ a0 a1 (cls_eq _ a0 a1) o0 o1 m0 m1 m _ (by rw [show ((rd_T43 l (i : Int)).f0 == 133) = true from by simpa using h133]; rfl)
 ·
  rw [if_neg h133]
  exact rto_aux i (by omega) _ _ _ _ _ _ a0 a1 (cls_eq _ a0 a1) o0 o1 m0 m1 m _ (by rw [show ((rd_T43 l (i : Int)).f0 == 133) = false from by simpa using h133]; rfl)
/-- To and the range together are the target. -/
theorem toR_tgt (l : List I) (i : Nat) : tgt l i = if (toR (rd_T43 l (i : Int)) i).2 = true ∧ 0 ≤ (toR (rd_T43 l (i : Int)) i).1 ∧ (toR (rd_T43 l (i : Int)) i).1 < l.length then toR (rd_T43 l (i : Int)) i else (0, false) := by
 unfold tgt toR
 by_cases h : (jmp (rd_T43 l (i : Int))).2 = true
 ·
  simp only [h, if_true, true_and]
 ·
  simp [h]

/-! ### In -/
theorem rin_loop (L : List Int) (hL : L.length < 1000000) (x : Int) : ∀ (f p : Nat), p + f = L.length → Evt (fun k => posternref04_In.l0 k x L (L.length : Int) (p : Int)) (decide (x ∈ L.drop p)) := by
 intro f
 induction f with
 | zero =>
  intro p hp
  refine Evt.step2 (g' := fun _ => some false) (fun k => ?_) (by rw [List.drop_eq_nil_of_le (by omega)]; simpa using Evt.const false)
  simp only [posternref04_In.l0]
  rw [if_neg (by omega)]
 | succ f ih =>
  intro p hp
  have ew : wrap64 ((p : Int) + 1) = ((p + 1 : Nat) : Int) := by unfold wrap64; omega
  have hd : L.drop p = rd L (p : Int) :: L.drop (p + 1) := by
   rw [List.drop_eq_getElem_cons (by omega)]
   simp [rd, show p < L.length by omega]
  have h2 := ih (p + 1) (by omega)
  refine Evt.step2 (g' := fun k => if rd L (p : Int) = x then some true else posternref04_In.l0 k x L (L.length : Int) ((p + 1 : Nat) : Int)) (fun k => ?_) ?_
  ·
   simp only [posternref04_In.l0, ew]
   rw [if_pos (by omega), if_pos (by omega), if_pos (by omega)]
  ·
   rw [hd]
   by_cases hx : rd L (p : Int) = x
   ·
    simp only [hx, if_true]
    simpa using Evt.const true
   ·
    simp only [hx, if_false]
    have hx' : ¬ x = rd L (p : Int) := fun e => hx e.symm
    have : decide (x ∈ rd L (p : Int) :: L.drop (p + 1)) = decide (x ∈ L.drop (p + 1)) := by simp [hx']
    rw [this]
    exact h2
theorem rin (L : List Int) (hL : L.length < 1000000) (x : Int) : Evt (fun k => posternref04_In.f k L x) (decide (x ∈ L)) := by
 unfold posternref04_In.f
 simpa using rin_loop L hL x L.length 0 (by omega)

/-! ### wrong -/
theorem kind_byte : byte (fun op => kindB op == op / 16 * 16 && regB op == (op / 8 % 2 == 1)) = true := by decide +kernel
theorem rwrong_aux (op d s o m c kd : Int) (r : Bool) (k : Nat) (hc : c = op % 8) (hkd : kd = op / 16) (hr : r = (op / 8 % 2 == 1)) (h0 : 0 ≤ op) (h1 : op < 256) :
  posternref04_wrong.f (k + 4) op d s o m = some (fieldC c (kd * 16) r d m) := by
 have ew : wrap64 op = op := by unfold wrap64; omega
 have et : Int.tmod op 8 = op % 8 := by rw [Int.tmod_eq_emod_of_nonneg h0]
 have ed : Int.tdiv op 16 = op / 16 := by rw [Int.tdiv_eq_ediv_of_nonneg h0]
 have e8 : Int.tdiv op 8 = op / 8 := by rw [Int.tdiv_eq_ediv_of_nonneg h0]
 have ew1 : wrap64 (op / 16) = op / 16 := by unfold wrap64; omega
 have ew2 : wrap64 (op / 8) = op / 8 := by unfold wrap64; omega
 have et2 : Int.tmod (op / 8) 2 = op / 8 % 2 := by rw [Int.tmod_eq_emod_of_nonneg (by omega)]
 have hc7 : 0 ≤ op % 8 ∧ op % 8 < 8 := by omega
 have hkw : wrap64 kd = kd := by rw [hkd]; exact ew1
 simp only [posternref04_wrong.f, ew, et, ed, e8, ew1, ew2, et2, ← hc, ← hkd, ← hr, hkw]
 rw [← hc] at hc7
 clear ew et ed e8 ew1 ew2 et2 hc hkw hkd hr
 have hj : ∀ b : Bool, (b = true ↔ d = 10 ∧ (c = 4 ∨ c = 7 ∨ c = 0 ∨ c = 1)) → posternref04_wrong.j0 (k + 4) c kd r b op d s o m = some (fieldC c (kd * 16) r d m) := by
  intro b hb
  have e3 : ∀ q, posternref04_wrong.j3 (k + 1) c q op d s o m = some (if q = true then (if c = 4 then (if m < 0 then true else decide (m > 31)) else (if m < 0 then true else decide (m > 63))) else false) := by
   intro q
   simp only [posternref04_wrong.j3]
   repeat' split
   all_goals rfl
  simp only [posternref04_wrong.j0, posternref04_wrong.j1, posternref04_wrong.j2, e3]
  unfold fieldC
  by_cases h1 : d = 10 ∧ (c = 4 ∨ c = 7 ∨ c = 0 ∨ c = 1)
  ·
   rw [if_pos (hb.2 h1), if_pos h1]
  ·
   have hbf : ¬ b = true := fun e => h1 (hb.1 e)
   rw [if_neg hbf, if_neg h1]
   have k3 : kd = 3 ↔ kd * 16 = 48 := by omega
   have k9 : kd = 9 ↔ kd * 16 = 144 := by omega
   have k6 : kd = 6 ↔ kd * 16 = 96 := by omega
   have k7 : kd = 7 ↔ kd * 16 = 112 := by omega
   have k12 : kd = 12 ↔ kd * 16 = 192 := by omega
   cases r
   ·
    by_cases c4 : c = 4
    ·
     by_cases q3 : kd = 3 <;> by_cases q9 : kd = 9 <;> by_cases q6 : kd = 6 <;> by_cases q7 : kd = 7 <;> by_cases q12 : kd = 12 <;>
      (first | (exfalso; omega) | (by_cases m0 : m < 0 <;> by_cases m31 : m > 31 <;> by_cases m63 : m > 63 <;> (first | (exfalso; omega) | simp [c4, q3, q9, q6, q7, q12, m0, m31, m63, ← k3, ← k9, ← k6, ← k7, ← k12])))
    ·
     by_cases c7 : c = 7
     ·
      by_cases q3 : kd = 3 <;> by_cases q9 : kd = 9 <;> by_cases q6 : kd = 6 <;> by_cases q7 : kd = 7 <;> by_cases q12 : kd = 12 <;>
       (first | (exfalso; omega) | (by_cases m0 : m < 0 <;> by_cases m63 : m > 63 <;> (first | (exfalso; omega) | simp [c7, q3, q9, q6, q7, q12, m0, m63, ← k3, ← k9, ← k6, ← k7, ← k12])))
     ·
      simp [c4, c7]
   ·
    by_cases c4 : c = 4
    ·
     simp [c4]
    ·
     by_cases c7 : c = 7
     ·
      simp [c4, c7]
     ·
      simp [c4, c7]
 by_cases hd : d = 10
 ·
  rw [if_pos hd]
  by_cases c0 : c = 0
  ·
   rw [if_pos c0]; exact hj true (by simp [hd, c0])
  ·
   rw [if_neg c0]
   by_cases c1 : c = 1
   ·
    rw [if_pos c1]; exact hj true (by simp [hd, c1])
   ·
    rw [if_neg c1]
    by_cases c4 : c = 4
    ·
     rw [if_pos c4]; exact hj true (by simp [hd, c4])
    ·
     rw [if_neg c4]; exact hj (c == 7) (by simp [hd, c0, c1, c4])
 ·
  rw [if_neg hd]; exact hj false (by simp [hd])
theorem rwrong (x : I) (hx : okI x) (k : Nat) (hk : 4 ≤ k) : posternref04_wrong.f k x.f0 x.f1 x.f2 x.f3 x.f4 = some (fieldB x) := by
 obtain ⟨m, rfl⟩ : ∃ m, k = m + 4 := ⟨k - 4, by omega⟩
 have hb := byte_all kind_byte x.f0 hx.1.1 hx.1.2
 simp only [Bool.and_eq_true, beq_iff_eq] at hb
 rw [rwrong_aux x.f0 x.f1 x.f2 x.f3 x.f4 _ _ _ m rfl rfl rfl hx.1.1 hx.1.2]
 unfold fieldB
 rw [cls_eq _ hx.1.1 hx.1.2, hb.1, hb.2]
end Go.Proofs.Ytmijlibnembkaaa.Pure
