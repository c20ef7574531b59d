/- Plain facts on the printed functions of the layer shape: where instructions begin, jumps, fields. -/
import Derived.Test.YtmijlibnembkaaaMkPi
import Derived.Test.YtmijlibnembkaaaMkPAx6
import Derived.Test.YtmijlibnembkaaaMkPAx7
import Derived.Test.YtmijlibnembkaaaMkPAx8
namespace Go.Proofs.Ytmijlibnembkaaa.Pure
open Go.RowKit Go.Proofs.Ytmijlibnembkaaa.PA Go.Proofs.YtmijlibnembkaaaW.PrintWords Go.Proofs.YtmijlibnembkaaaW.PrintLast
set_option linter.unusedVariables false
set_option linter.unusedSimpArgs false

/-- Where instructions begin, in a list whose head stands at p. -/
def begFrom : Nat → List I → Nat → List Nat
 | 0, _, _ => []
 | n + 1, s, p => if (plainS s).2 = 0 then p :: begFrom n (s.drop (plainS s).1.toNat) (p + (plainS s).1.toNat) else []
def begins (l : List I) : List Nat := begFrom l.length l 0
def setAll (a : List Bool) (ps : List Nat) : List Bool := ps.foldl (fun b p => b.set p true) a
def starts (l : List I) : List Bool := setAll (List.replicate l.length false) (begins l)

theorem plainX_width (kn ok : Bool) (x : I) (t : List I) (h : (plainX kn ok x t).2 = 0) : ((plainX kn ok x t).1 = 1 ∨ ((plainX kn ok x t).1 = 2 ∧ t ≠ [])) := by
 unfold plainX at h ⊢
 repeat' split at h
 all_goals simp_all
theorem plainS_width (s : List I) (h : (plainS s).2 = 0) : ((plainS s).1 = 1 ∧ 1 ≤ s.length) ∨ ((plainS s).1 = 2 ∧ 2 ≤ s.length) := by
 cases s with
 | nil => simp [plainS] at h
 | cons x t =>
  rcases plainX_width _ _ x t h with h1 | ⟨h1, h2⟩
  ·
   exact .inl ⟨h1, by simp⟩
  ·
   refine .inr ⟨h1, ?_⟩
   cases t with
   | nil => exact absurd rfl h2
   | cons y t => simp
theorem plainS_nil : (plainS []).2 ≠ 0 := by simp [plainS]

theorem begFrom_nil (n p : Nat) : begFrom n [] p = [] := by
 cases n with
 | zero => rfl
 | succ n => simp only [begFrom]; rw [if_neg plainS_nil]

theorem Starts_loop (l : List I) (hl : l.length < 281474976710656) (hok : ∀ x ∈ l, okI x) : ∀ (n : Nat) (p : Nat) (acc : List Bool) (k : Nat), l.length - p ≤ n → p ≤ l.length → acc.length = l.length → n + 7 ≤ k →
  shape_Starts.l0 k l acc (p : Int) = some (setAll acc (begFrom n (l.drop p) p)) := by
 intro n
 induction n with
 | zero =>
  intro p acc k hn hp hacc hk
  obtain ⟨k, rfl⟩ : ∃ m, k = m + 1 := ⟨k - 1, by omega⟩
  simp only [shape_Starts.l0]
  rw [if_neg (by omega)]
  rfl
 | succ n ih =>
  intro p acc k hn hp hacc hk
  obtain ⟨k, rfl⟩ : ∃ m, k = m + 1 := ⟨k - 1, by omega⟩
  simp only [shape_Starts.l0]
  by_cases h : p < l.length
  ·
   rw [if_pos (by omega), plain_eq l p (by omega) hok k (by omega)]
   simp only [Option.bind_some, begFrom]
   by_cases he : (plainS (l.drop p)).2 = 0
   ·
    rw [if_pos he, if_pos he, if_pos (by omega), if_pos (by omega)]
    have hw := plainS_width _ he
    rw [List.length_drop] at hw
    have ew : wrap64 ((p : Int) + (plainS (l.drop p)).1) = ((p + (plainS (l.drop p)).1.toNat : Nat) : Int) := by
     unfold wrap64; omega
    rw [ew, ih _ _ _ (by omega) (by omega) (by simpa using hacc) (by omega)]
    simp only [setAll, List.foldl_cons, List.drop_drop, Int.toNat_natCast]
   ·
    rw [if_neg he, if_neg he]
    rfl
  ·
   rw [if_neg (by omega), List.drop_eq_nil_of_le (by omega), begFrom_nil]
   rfl

theorem Starts_eq (l : List I) (hl : l.length < 281474976710656) (hok : ∀ x ∈ l, okI x) (k : Nat) (hk : l.length + 7 ≤ k) : shape_Starts.f k l = some (starts l) := by
 unfold shape_Starts.f
 rw [if_pos (by omega), if_pos (by omega)]
 have := Starts_loop l hl hok l.length 0 (List.replicate l.length false) k (by omega) (by omega) (by simp) hk
 simpa [starts, begins] using this

theorem setAll_length (a : List Bool) (ps : List Nat) : (setAll a ps).length = a.length := by
 induction ps generalizing a with
 | nil => rfl
 | cons p ps ih => simp only [setAll, List.foldl_cons] at ih ⊢; rw [ih]; simp
theorem starts_length (l : List I) : (starts l).length = l.length := by simp [starts, setAll_length]
theorem setAll_get (ps : List Nat) : ∀ (a : List Bool) (i : Nat), i < a.length → (setAll a ps).getD i false = (a.getD i false || decide (i ∈ ps)) := by
 induction ps with
 | nil => intro a i _; simp [setAll]
 | cons p ps ih =>
  intro a i hi
  have := ih (a.set p true) i (by simpa using hi)
  simp only [setAll, List.foldl_cons] at this ⊢
  rw [this]
  by_cases e : p = i
  ·
   subst e
   simp [List.getD, List.getElem?_set, hi]
  ·
   have e' : ¬ (i = p) := fun h => e h.symm
   simp [List.getD, List.getElem?_set, e, e']
theorem starts_get (l : List I) (i : Nat) (hi : i < l.length) : rdOf false (starts l) (i : Int) = decide (i ∈ begins l) := by
 have := setAll_get (begins l) (List.replicate l.length false) i (by simpa using hi)
 simp only [rdOf, Int.toNat_natCast]
 unfold starts
 rw [this]
 simp [hi]

/-- By how much it jumps, or calls a part; whether it does. -/
def jumpsC (op c s o m : Int) : Int × Bool := if (c = 5 ∨ c = 6) ∧ op ≠ 149 then (if op = 133 then (m, s == 1) else (o, true)) else (0, false)
def jmp (x : I) : Int × Bool := jumpsC x.f0 (clsB x.f0) x.f2 x.f3 x.f4
theorem jumps_aux (k : Nat) (op d s o m c : Int) (hc : insn_Class.f op = some c) (ho : wrap64 o = o) (hm : wrap64 m = m) : shape_jumps.f (k + 1) op d s o m = some (jumpsC op c s o m) := by
 simp only [shape_jumps.f, shape_jumps.j0, hc, Option.bind_some, ho, hm]
 clear hc
 unfold jumpsC
 by_cases c5 : c = 5
 ·
  by_cases h149 : op = 149
  ·
   simp [c5, h149]
  ·
   by_cases h133 : op = 133
   ·
    simp [c5, h133]
   ·
    simp [c5, h149, h133]
 ·
  by_cases c6 : c = 6
  ·
   by_cases h149 : op = 149
   ·
    simp [c6, h149]
   ·
    by_cases h133 : op = 133
    ·
     simp [c6, h133]
    ·
     simp [c6, h149, h133]
  ·
   simp [c5, c6]
theorem jumps_eq (k : Nat) (hk : 1 ≤ k) (x : I) (hx : okI x) : shape_jumps.f k x.f0 x.f1 x.f2 x.f3 x.f4 = some (jmp x) := by
 obtain ⟨k, rfl⟩ : ∃ m, k = m + 1 := ⟨k - 1, by omega⟩
 obtain ⟨_, _, _, h3, h4⟩ := hx
 exact jumps_aux k _ _ _ _ _ _ rfl (by unfold wrap64; omega) (by unfold wrap64; omega)

/-- Where the instruction at a slot leads. -/
def tgt (l : List I) (i : Nat) : Int × Bool :=
 if (jmp (rd_T43 l i)).2 = true ∧ 0 ≤ (i : Int) + 1 + (jmp (rd_T43 l i)).1 ∧ (i : Int) + 1 + (jmp (rd_T43 l i)).1 < l.length then ((i : Int) + 1 + (jmp (rd_T43 l i)).1, true) else (0, false)

theorem rd_mem (l : List I) (i : Nat) (h : i < l.length) : rd_T43 l (i : Int) ∈ l := by
 simp [rd_T43, h]
theorem jmp_bound (x : I) (hx : okI x) : -2147483648 ≤ (jmp x).1 ∧ (jmp x).1 < 2147483648 := by
 obtain ⟨_, _, _, h3, h4⟩ := hx
 unfold jmp jumpsC
 split
 ·
  split <;> dsimp only <;> omega
 ·
  dsimp only; omega

theorem target_eq (l : List I) (i : Nat) (h : i < l.length) (hl : l.length < 281474976710656) (hok : ∀ x ∈ l, okI x) (k : Nat) (hk : 1 ≤ k) : shape_target.f k l (i : Int) = some (tgt l i) := by
 have hx := hok _ (rd_mem l i h)
 have hb := jmp_bound _ hx
 simp only [shape_target.f]
 rw [if_pos (by omega), if_pos (by omega), jumps_eq k hk _ hx]
 unfold tgt
 generalize jmp (rd_T43 l (i : Int)) = j at hb ⊢
 obtain ⟨by_, ok⟩ := j
 dsimp only at hb ⊢
 have e1 : wrap64 ((i : Int) + 1) = (i : Int) + 1 := by unfold wrap64; omega
 have e2 : wrap64 ((i : Int) + 1 + by_) = (i : Int) + 1 + by_ := by unfold wrap64; omega
 simp only [Option.bind_some, e1, e2]
 cases ok with
 | false => simp
 | true =>
  by_cases h1 : (i : Int) + 1 + by_ < 0
  ·
   have : ¬ (0 ≤ (i : Int) + 1 + by_) := by omega
   simp [h1, this]
  ·
   by_cases h2 : (i : Int) + 1 + by_ ≥ (l.length : Int)
   ·
    have h2' : ¬ ((i : Int) + 1 + by_ < (l.length : Int)) := by omega
    simp [h1, h2, h2']
   ·
    have h1' : 0 ≤ (i : Int) + 1 + by_ := by omega
    have h2' : (i : Int) + 1 + by_ < (l.length : Int) := by omega
    simp [h1, h2, h1', h2']

/-- Is something wrong with a plain instruction's fields? -/
def fieldC (c kd : Int) (r : Bool) (d m : Int) : Bool :=
 if d = 10 ∧ (c = 4 ∨ c = 7 ∨ c = 0 ∨ c = 1) then true
 else if ¬ (c = 4 ∨ c = 7) then false
 else if r = true then false
 else if kd = 48 ∨ kd = 144 then m == 0
 else if kd = 96 ∨ kd = 112 ∨ kd = 192 then (if m < 0 then true else if m > 63 then true else if c = 4 then decide (m > 31) else false)
 else false
def fieldB (x : I) : Bool := fieldC (clsB x.f0) (kindB x.f0) (regB x.f0) x.f1 x.f4
theorem field_aux (k : Nat) (op d s o m c kd : Int) (r : Bool) (hc : insn_Class.f op = some c) (hk : insn_Kind.f op = some kd) (hr : insn_ByReg.f op = some r) :
  shape_field.f (k + 4) op d s o m = some (fieldC c kd r d m) := by
 simp only [shape_field.f, shape_field.j0, shape_field.j1, shape_field.j2, shape_field.j3, hc, hk, hr, Option.bind_some]
 clear hc hk hr
 unfold fieldC
 by_cases hd : d = 10
 ·
  by_cases c4 : c = 4
  ·
   simp [hd, c4]
  ·
   by_cases c7 : c = 7
   ·
    simp [hd, c7]
   ·
    by_cases c0 : c = 0
    ·
     simp [hd, c0]
    ·
     by_cases c1 : c = 1
     ·
      simp [hd, c1]
     ·
      simp [hd, c4, c7, c0, c1]
 ·
  cases r with
  | true =>
   by_cases c4 : c = 4
   ·
    simp [hd, c4]
   ·
    by_cases c7 : c = 7
    ·
     simp [hd, c7]
    ·
     simp [hd, c4, c7]
  | false =>
   by_cases k48 : kd = 48
   ·
    by_cases c4 : c = 4
    ·
     simp [hd, c4, k48]
    ·
     by_cases c7 : c = 7
     ·
      simp [hd, c7, k48]
     ·
      simp [hd, c4, c7, k48]
   ·
    by_cases k144 : kd = 144
    ·
     by_cases c4 : c = 4
     ·
      simp [hd, c4, k144]
     ·
      by_cases c7 : c = 7
      ·
       simp [hd, c7, k144]
      ·
       simp [hd, c4, c7, k144]
    ·
     by_cases k3 : kd = 96 ∨ kd = 112 ∨ kd = 192
     ·
      rcases k3 with rfl | rfl | rfl
      ·
       by_cases m1 : m < 0 <;> by_cases m2 : 63 < m <;> by_cases c4 : c = 4
       all_goals (try simp [hd, c4, m1, m2])
       all_goals (by_cases c7 : c = 7 <;> simp [hd, c4, c7, m1, m2])
      ·
       by_cases m1 : m < 0 <;> by_cases m2 : 63 < m <;> by_cases c4 : c = 4
       all_goals (try simp [hd, c4, m1, m2])
       all_goals (by_cases c7 : c = 7 <;> simp [hd, c4, c7, m1, m2])
      ·
       by_cases m1 : m < 0 <;> by_cases m2 : 63 < m <;> by_cases c4 : c = 4
       all_goals (try simp [hd, c4, m1, m2])
       all_goals (by_cases c7 : c = 7 <;> simp [hd, c4, c7, m1, m2])
     ·
      have k96 : ¬ kd = 96 := fun h => k3 (.inl h)
      have k112 : ¬ kd = 112 := fun h => k3 (.inr (.inl h))
      have k192 : ¬ kd = 192 := fun h => k3 (.inr (.inr h))
      by_cases c4 : c = 4
      ·
       simp [hd, c4, k48, k144, k96, k112, k192]
      ·
       by_cases c7 : c = 7 <;> simp [hd, c4, c7, k48, k144, k96, k112, k192]
theorem field_eq (k : Nat) (hk : 4 ≤ k) (x : I) : shape_field.f k x.f0 x.f1 x.f2 x.f3 x.f4 = some (fieldB x) := by
 obtain ⟨k, rfl⟩ : ∃ m, k = m + 4 := ⟨k - 4, by omega⟩
 exact field_aux k _ _ _ _ _ _ _ _ rfl rfl rfl
end Go.Proofs.Ytmijlibnembkaaa.Pure
