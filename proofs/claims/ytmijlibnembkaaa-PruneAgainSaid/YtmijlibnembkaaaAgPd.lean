/- With all notes seen prune.Prune drops nothing. -/
import Derived.Test.YtmijlibnembkaaaAgPa
namespace Go.Proofs.Ytmijlibnembkaaa.Pure
open Go.RowKit Go.Proofs.Ytmijlibnembkaaa.PA Go.Proofs.YtmijlibnembkaaaW.PrintWords Go.Proofs.YtmijlibnembkaaaW.PrintLast Go.Proofs.YtmijlibnembkaaaX
set_option linter.unusedVariables false
set_option linter.unusedSimpArgs false

/-! ### each part ends in an exit or a jump -/
theorem firstEnd_none {l : List I} {pa : List Int} : ∀ (n j : Nat), firstEnd l pa n j = none → ∀ i, j ≤ i → i < j + n → endBad l pa i = false := by
  intro n
  induction n with
  | zero => intro j _ i h1 h2; omega
  | succ n ih =>
    intro j h i h1 h2
    simp only [firstEnd] at h
    by_cases hp : endBad l pa j = true
    · rw [if_pos hp] at h; cases h
    · rw [if_neg hp] at h
      by_cases e : i = j
      · subst e; simpa using hp
      · exact ih (j + 1) h i (by omega) (by omega)
theorem lastB_is (l : List I) (p : Nat) (hp : p ∈ begins l) : ∀ n, p ≤ n → (∀ q, p < q → q ≤ n → q ∉ begins l) → lastB l n = p := by
  intro n
  induction n with
  | zero => intro h _; have : p = 0 := by omega
            rw [this]; rfl
  | succ n ih =>
    intro h hq
    unfold lastB
    by_cases e : p = n + 1
    · rw [← e, if_pos hp]
    · rw [if_neg (hq (n + 1) (by omega) (Nat.le_refl _))]
      exact ih (by omega) (fun q h1 h2 => hq q h1 (by omega))
theorem ends_of (l : List I) (hP : Prog l) (h : (checkR l).2 = 0) : (rd_T43 l (lastB l (l.length - 1))).f0 = 149 ∨ (rd_T43 l (lastB l (l.length - 1))).f0 = 5 := by
  have hF := formed_of l h
  have hpos := hF.pos
  have hpa := parts_ok l hP (by omega)
  unfold checkR at h
  rw [if_neg (by have := hF.most; omega), hF.plain] at h
  simp only [orElse_] at h
  cases h1 : firstFrom (jumpBad l) l.length 0 with
  | some i => rw [h1] at h; simp [orElse43] at h
  | none =>
    rw [h1] at h
    cases h2 : firstFrom (crossBad l (parts l)) l.length 0 with
    | some i => rw [h2] at h; simp [orElse43] at h
    | none =>
      rw [h2] at h
      cases h3 : firstEnd l (parts l) (parts l).length 0 with
      | some i => rw [h3] at h; simp [orElse43, orElse44] at h
      | none =>
        have hlen : 0 < (parts l).length := by
          rcases Nat.eq_zero_or_pos (parts l).length with h0 | h0
          · exfalso
            unfold parts at h0
            rw [if_neg (by omega)] at h0
            have hm : (0 : Int) ∈ dd (isort (0 :: callsFrom l l.length 0)) := (dd_mem _ _).2 ((isort_mem _ _).2 (List.mem_cons_self))
            rw [List.length_eq_zero_iff.1 h0] at hm
            cases hm
          · exact h0
        have hb := firstEnd_none _ _ h3 ((parts l).length - 1) (by omega) (by omega)
        have he : endAt l (parts l) ((parts l).length - 1) = lastB l (l.length - 1) := by
          unfold endAt
          rw [if_neg (by omega)]
        unfold endBad at hb
        rw [he] at hb
        by_cases h149 : (rd_T43 l (lastB l (l.length - 1))).f0 = 149
        · exact .inl h149
        · by_cases h5 : (rd_T43 l (lastB l (l.length - 1))).f0 = 5
          · exact .inr h5
          · rw [decide_eq_true h149, decide_eq_true h5] at hb
            cases hb

/-! ### what is said of each instruction -/
def AllSeen (ns : List Nt) : Prop := ∀ i : Nat, i < ns.length → seen ns i = true
theorem verdC_all (x : I) (bh jb th : Bool) (hj : (jmp x).2 = true → jb = true) (ht : jb = true → th = true) (hb : bh = true ∨ x.f0 = 149 ∨ x.f0 = 5) :
    verdC x.f0 (condB x.f0) bh jb th = some (true, none) ∨ verdC x.f0 (condB x.f0) bh jb th = some (true, some false) := by
  unfold verdC
  by_cases h1 : x.f0 = 149
  · rw [if_pos h1]; exact .inl rfl
  · rw [if_neg h1]
    by_cases h2 : x.f0 = 5
    · have hc : clsB x.f0 = 5 := by rw [cls_eq _ (by omega) (by omega), h2]; rfl
      have hjm : (jmp x).2 = true := by
        unfold jmp jumpsC
        rw [if_pos ⟨.inl hc, h1⟩, if_neg (by omega)]
      rw [if_pos h2, if_pos (ht (hj hjm))]
      exact .inl rfl
    · rw [if_neg h2]
      have hbt : bh = true := by rcases hb with h | h | h
                                 · exact h
                                 · exact absurd h h1
                                 · exact absurd h h2
      cases hcd : condB x.f0
      · rw [if_neg (by decide), if_pos hbt]
        cases hjb : jb
        · rw [if_neg (by decide)]; exact .inl rfl
        · rw [if_pos rfl, if_pos (ht hjb)]; exact .inl rfl
      · have hjm : (jmp x).2 = true := by
          unfold condB condC at hcd
          simp only [Bool.and_eq_true, Bool.or_eq_true, decide_eq_true_eq, bne_iff_ne] at hcd
          unfold jmp jumpsC
          rw [if_pos ⟨hcd.1.1.1, h1⟩, if_neg hcd.1.2]
        have htt := ht (hj hjm)
        rw [if_pos rfl, if_pos htt, hbt, htt]
        exact .inr rfl
theorem verd_all (l : List I) (hP : Prog l) (h : (checkR l).2 = 0) (ns : List Nt) (hns : ns.length = l.length) (hs : AllSeen ns) (p : Nat) (hp : p < l.length) (hb : p ∈ begins l) (hlast : l.length ≤ p + wd (rd_T43 l p) → ∀ q, p < q → q ≤ l.length - 1 → q ∉ begins l) :
    ∃ a, verd l ns p = some (true, a) ∧ ∀ n, putA (List.replicate n false) p a = List.replicate n false := by
  have hF := formed_of l h
  have htr := tgt_range l p
  have e1 : (jmp (rd_T43 l p)).2 = true → (tgt l p).2 = true := fun hj => (hF.jumps p hp hb hj).1
  have e2 : (tgt l p).2 = true → thB l ns p = true := by
    intro ht
    obtain ⟨h0, h1⟩ := htr ht
    unfold thB
    rw [if_pos ht]
    have := hs (tgt l p).1.toNat (by omega)
    rw [Int.toNat_of_nonneg h0] at this
    exact this
  have e3 : bhW l ns p (wd (rd_T43 l p)) = true ∨ (rd_T43 l p).f0 = 149 ∨ (rd_T43 l p).f0 = 5 := by
    by_cases hw : p + wd (rd_T43 l p) < l.length
    · left
      unfold bhW
      rw [if_pos hw]
      exact hs _ (by omega)
    · right
      have hl := lastB_is l p hb (l.length - 1) (by omega) (hlast (by omega))
      have he := ends_of l hP h
      rw [hl] at he
      exact he
  rcases verdC_all (rd_T43 l p) _ _ _ e1 e2 e3 with hv | hv
  · exact ⟨none, hv, fun n => rfl⟩
  · exact ⟨some false, hv, fun n => by simp [putA]⟩

theorem rd_set_ne (T : List Int) (p q : Nat) (b : Int) (h : q ≠ p) : rd (T.set p b) (q : Int) = rd T (q : Int) := by
  simp only [rd, Int.toNat_natCast, List.getD, List.getElem?_set]
  rw [if_neg (fun e => h e.symm)]
theorem rd_set_eq (T : List Int) (p : Nat) (b : Int) (h : p < T.length) : rd (T.set p b) (p : Int) = b := by
  simp [rd, h]
theorem rdOf_ext (a b : List Bool) (h : a.length = b.length) (hr : ∀ q : Nat, q < a.length → rdOf false a (q : Int) = rdOf false b (q : Int)) : a = b := by
  refine List.ext_getElem h (fun i h1 h2 => ?_)
  have := hr i h1
  simpa [rdOf, h1, h2] using this

/-- The state ahead of slot p, where all is kept. -/
structure Ahead (l : List I) (p : Nat) (K : List Bool) (T : List Int) : Prop where
  kl : K.length = l.length
  tl : T.length = l.length + 1
  kept : ∀ q : Nat, q < l.length → rdOf false K (q : Int) = (decide (q < p) && decide (q ∈ begins l))
  dest : ∀ q : Nat, q < p → q < l.length → q ∈ begins l → rd T (q : Int) = (q : Int)
def Told (l : List I) (r : Res) : Prop := r.1 = starts l ∧ r.2.1 = List.replicate l.length false ∧ (∀ q : Nat, q < l.length → q ∈ begins l → rd r.2.2.1 (q : Int) = (q : Int)) ∧ r.2.2.2.2 = true

theorem Ahead.step {l : List I} {p : Nat} {K : List Bool} {T : List Int} (h : Ahead l p K T) (hp : p < l.length) (hb : p ∈ begins l) : Ahead l (p + 1) (K.set p true) (T.set p (p : Int)) := by
  refine ⟨by rw [List.length_set]; exact h.kl, by rw [List.length_set]; exact h.tl, fun q hq => ?_, fun q h1 h2 h3 => ?_⟩
  · by_cases e : q = p
    · subst e
      rw [rdOf_set K q true (by rw [h.kl]; exact hq)]
      simp [hb]
    · rw [rdOf_set_ne K p q true e, h.kept q hq]
      congr 1
      simp only [decide_eq_decide]; omega
  · by_cases e : q = p
    · subst e
      rw [rd_set_eq T q _ (by rw [h.tl]; omega)]
    · rw [rd_set_ne T p q _ e]
      exact h.dest q (by omega) h2 h3
theorem Ahead.skip {l : List I} {p : Nat} {K : List Bool} {T : List Int} (h : Ahead l p K T) (b : Int) (hb : p ∉ begins l) : Ahead l (p + 1) K (T.set p b) := by
  refine ⟨h.kl, by rw [List.length_set]; exact h.tl, fun q hq => ?_, fun q h1 h2 h3 => ?_⟩
  · rw [h.kept q hq]
    by_cases e : q = p
    · subst e; simp [hb]
    · congr 1
      simp only [decide_eq_decide]; omega
  · have e : q ≠ p := fun e => hb (e ▸ h3)
    rw [rd_set_ne T p q _ e]
    exact h.dest q (by omega) h2 h3

theorem mrun_on (l : List I) (ns : List Nt) (f p : Nat) (n : Int) (K A : List Bool) (T : List Int) (a : Option Bool) (hb : p ∈ begins l) (hs : seen ns p = true) (hv : verd l ns p = some (true, a)) :
    mrun l ns (f + 1) p n K A T = mrun l ns f (p + 1) (n + wd (rd_T43 l p)) (K.set p true) (putA A p a) (T.set p n) := by
  have e : mrun l ns (f + 1) p n K A T = (if (decide (p ∈ begins l) && seen ns p) = true then
      match verd l ns p with
      | none => (K.set p true, A, T.set p n, [0], false)
      | some (kp, a) => mrun l ns f (p + 1) (if kp = true then n + wd (rd_T43 l p) else n) (K.set p kp) (putA A p a) (T.set p n)
    else mrun l ns f (p + 1) n K A (T.set p n)) := rfl
  rw [e, if_pos (by rw [hs]; simp [hb])]
  simp only [hv, if_true]
theorem mrun_off (l : List I) (ns : List Nt) (f p : Nat) (n : Int) (K A : List Bool) (T : List Int) (hb : p ∉ begins l) :
    mrun l ns (f + 1) p n K A T = mrun l ns f (p + 1) n K A (T.set p n) := by
  have e : mrun l ns (f + 1) p n K A T = (if (decide (p ∈ begins l) && seen ns p) = true then
      match verd l ns p with
      | none => (K.set p true, A, T.set p n, [0], false)
      | some (kp, a) => mrun l ns f (p + 1) (if kp = true then n + wd (rd_T43 l p) else n) (K.set p kp) (putA A p a) (T.set p n)
    else mrun l ns f (p + 1) n K A (T.set p n)) := rfl
  rw [e, if_neg (by simp [hb])]

theorem mres_all (l : List I) (hP : Prog l) (h : (checkR l).2 = 0) (ns : List Nt) (hns : ns.length = l.length) (hs : AllSeen ns) : Told l (mres l ns) := by
  have hF := formed_of l h
  have key := walk_back l hF.plain (fun p => ∀ K T, Ahead l p K T → Told l (mrun l ns (l.length - p) p (p : Int) K (List.replicate l.length false) T)) (fun K T hA => ?_) (fun p hp hb he hfb => ⟨fun h1 hn K T hA => ?_, fun h2 hp1 hnb hn K T hA => ?_⟩)
  · have h0 := key (List.replicate l.length false) (List.replicate (l.length + 1) 0) ⟨by simp, by simp, fun q hq => by rw [rdOf_rep]; simp, fun q hq => by omega⟩
    simpa [mres] using h0
  · rw [Nat.sub_self]
    refine ⟨rdOf_ext _ _ (by rw [starts_length]; exact hA.kl) (fun q hq => ?_), rfl, fun q hq hb => ?_, rfl⟩
    · have hq' : q < l.length := by have := hA.kl; simp only [mrun] at hq; omega
      rw [starts_get l q hq']
      show rdOf false K (q : Int) = _
      rw [hA.kept q hq', decide_eq_true hq', Bool.true_and]
    · show rd (T.set l.length (l.length : Int)) (q : Int) = _
      rw [rd_set_ne T _ q _ (by omega)]
      exact hA.dest q hq hq hb
  · have hw : wd (rd_T43 l p) = 1 := by unfold wd; rw [if_neg (narrow_here l p hp he h1)]
    obtain ⟨a, hv, ha⟩ := verd_all l hP h ns hns hs p hp hb (fun hle q h1 h2 => by omega)
    have hn' := hn _ _ (hA.step hp hb)
    rw [show l.length - p = (l.length - (p + 1)) + 1 by omega, mrun_on l ns _ p _ K _ T a hb (hs p (by omega)) hv, ha, hw]
    exact hn'
  · obtain ⟨h24, _⟩ := wide_here l p hp1 he h2
    have hw : wd (rd_T43 l p) = 2 := by unfold wd; rw [if_pos h24]
    obtain ⟨a, hv, ha⟩ := verd_all l hP h ns hns hs p hp hb (fun hle q h1 h2 => by
      have : q = p + 1 := by omega
      rw [this]; exact hnb)
    have hn' := hn _ _ ((hA.step hp hb).skip ((p + 2 : Nat) : Int) hnb)
    rw [show l.length - p = (l.length - (p + 2) + 1) + 1 by omega, mrun_on l ns _ p _ K _ T a hb (hs p (by omega)) hv, ha, hw, mrun_off l ns _ (p + 1) _ _ _ _ hnb]
    exact hn'

/-! ### and the instructions are laid out as they were -/
theorem take_rdI (l : List I) (p : Nat) (h : p < l.length) : l.take p ++ [rd_T43 l (p : Int)] = l.take (p + 1) := by
  rw [List.take_add_one]
  simp [rd_T43, List.getElem?_eq_getElem h]
theorem take_rdN (l : List Nt) (p : Nat) (h : p < l.length) : l.take p ++ [rd_T34 l (p : Int)] = l.take (p + 1) := by
  rw [List.take_add_one]
  simp [rd_T34, List.getElem?_eq_getElem h]
theorem fixI_same (l : List I) (hP : Prog l) (hF : Formed l) (A : List Bool) (T : List Int) (hA : ∀ q, rdOf false A q = false) (hT : ∀ q : Nat, q < l.length → q ∈ begins l → rd T (q : Int) = (q : Int)) (p : Nat) (hp : p < l.length) (hb : p ∈ begins l) : fixI l A T p = rd_T43 l p := by
  unfold fixI
  rw [hA]
  have hsm := hP.small
  cases hj : (tgt l p).2
  · simp [fixC]
  · obtain ⟨hjm, ht⟩ := tgt_jmp l p hj
    obtain ⟨ht0, ht1⟩ := tgt_range l p hj
    have htb := (hF.jumps p hp hb hjm).2
    have hbd := jmp_bound _ (hP.at_ p hp)
    have hji := jmp_is _ hjm
    have hok := hP.at_ p hp
    have e1 : rd T (tgt l p).1 = (tgt l p).1 := by
      have := hT (tgt l p).1.toNat (by omega) htb
      rw [Int.toNat_of_nonneg ht0] at this
      exact this
    have e2 := hT p hp hb
    have hby : by_ T (tgt l p).1 p = (jmp (rd_T43 l p)).1 := by
      unfold by_
      rw [e1, e2]
      exact num1 ht (by omega) (by omega) hbd
    rw [hby, hji]
    simp only [fixC, if_true]
    by_cases h133 : (rd_T43 l p).f0 = 133
    · rw [if_pos h133, if_pos h133, wrap32_id hok.2.2.2.2]
    · rw [if_neg h133, if_neg h133, if_neg (by decide), wrap16_id hok.2.2.2.1]

theorem pout_all (l : List I) (hP : Prog l) (h : (checkR l).2 = 0) (ns : List Nt) (hns : ns.length = l.length) (A : List Bool) (T : List Int) (hA : ∀ q, rdOf false A q = false) (hT : ∀ q : Nat, q < l.length → q ∈ begins l → rd T (q : Int) = (q : Int)) :
    prun l ns (starts l) A T l.length 0 [] [] = (l, ns) := by
  have hF := formed_of l h
  have key := walk_back l hF.plain (fun p => prun l ns (starts l) A T (l.length - p) p (l.take p) (ns.take p) = (l, ns)) ?_ (fun p hp hb he hfb => ⟨fun h1 hn => ?_, fun h2 hp1 hnb hn => ?_⟩)
  · simpa using key
  · rw [Nat.sub_self]
    simp only [prun, List.take_length]
    rw [← hns, List.take_length]
  · rw [show l.length - p = (l.length - (p + 1)) + 1 by omega]
    simp only [prun]
    rw [starts_get l p hp, if_pos (by simp [hb]), fixI_same l hP hF A T hA hT p hp hb, if_neg (narrow_here l p hp he h1), take_rdI l p hp, take_rdN ns p (by omega)]
    exact hn
  · obtain ⟨h24, _⟩ := wide_here l p hp1 he h2
    rw [show l.length - p = (l.length - (p + 2) + 1) + 1 by omega]
    simp only [prun]
    rw [starts_get l p hp, if_pos (by simp [hb]), fixI_same l hP hF A T hA hT p hp hb, if_pos h24, take_rdI l p hp, take_rdN ns p (by omega), take_rdI l (p + 1) hp1, take_rdN ns (p + 1) (by omega), starts_get l (p + 1) hp1, if_neg (by simp [hnb])]
    exact hn

theorem prune_all (l : List I) (hok : ∀ x ∈ l, okI x) (h : (checkR l).2 = 0) (ns : List Nt) (hns : ns.length = l.length) (hs : AllSeen ns) : pruneR l ns = (l, ns, 0) := by
  have hF := formed_of l h
  have hP : Prog l := ⟨by have := hF.most; omega, hok⟩
  obtain ⟨h1, h2, h3, h4⟩ := mres_all l hP h ns hns hs
  have hpo : pout l ns = (l, ns) := by
    unfold pout
    rw [h1, h2]
    exact pout_all l hP h ns hns _ _ (rdOf_rep _) h3
  have h0 : seen ns 0 = true := hs 0 (by have := hF.pos; omega)
  unfold pruneR
  rw [if_pos h, if_pos ⟨hns, h0⟩, if_pos h4, hpo, if_pos h]
end Go.Proofs.Ytmijlibnembkaaa.Pure
