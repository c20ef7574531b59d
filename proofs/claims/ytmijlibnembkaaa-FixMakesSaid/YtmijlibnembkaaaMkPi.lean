/- Plain facts on the printed functions of the layer insn: what each answers, with enough rounds. -/
import Derived.Test.YtmijlibnembkaaaMkPAx8
namespace Go.Proofs.Ytmijlibnembkaaa.Pure
open Go.RowKit Go.Proofs.Ytmijlibnembkaaa.PA Go.Proofs.YtmijlibnembkaaaW.PrintWords Go.Proofs.YtmijlibnembkaaaW.PrintLast

set_option linter.unusedVariables false
set_option linter.unusedSimpArgs false

abbrev I := S43
def okI (x : I) : Prop := (0 ≤ x.f0 ∧ x.f0 < 256) ∧ (0 ≤ x.f1 ∧ x.f1 < 256) ∧ (0 ≤ x.f2 ∧ x.f2 < 256) ∧ (-32768 ≤ x.f3 ∧ x.f3 < 32768) ∧ (-2147483648 ≤ x.f4 ∧ x.f4 < 2147483648)

/-- More rounds tell the same. -/
theorem up {α : Type} {g : Nat → Option α} (hm : ∀ k, LeO (g k) (g (k + 1))) {k : Nat} {r : α} (h : g k = some r) : ∀ k', k ≤ k' → g k' = some r := by
 intro k' hk
 obtain ⟨d, rfl⟩ : ∃ d, k' = k + d := ⟨k' - k, by omega⟩
 induction d with
 | zero => exact h
 | succ d ih => exact hm (k + d) r (ih (by omega))

def byte (P : Int → Bool) : Bool := (List.range 256).all fun n => P (n : Int)
theorem byte_all {P : Int → Bool} (h : byte P = true) (x : Int) (h0 : 0 ≤ x) (h1 : x < 256) : P x = true := by
 unfold byte at h
 rw [List.all_eq_true] at h
 have := h x.toNat (List.mem_range.2 (by omega))
 rwa [Int.toNat_of_nonneg h0] at this

def knownB (op : Int) : Bool := (insn_Known.f 3 op).getD false
theorem known_some : byte (fun op => (insn_Known.f 3 op).isSome) = true := by decide +kernel
theorem known_eq (op : Int) (h0 : 0 ≤ op) (h1 : op < 256) (k : Nat) (hk : 3 ≤ k) : insn_Known.f k op = some (knownB op) := by
 have h := byte_all known_some op h0 h1
 refine up (fun k => insn_Known.mono op k) (k := 3) ?_ k hk
 unfold knownB
 cases e : insn_Known.f 3 op with
 | none => rw [e] at h; cases h
 | some b => rfl

def clsB (op : Int) : Int := wrap64 (Go.bits .and .u8 op 7)
theorem cls_eq (op : Int) (h0 : 0 ≤ op) (h1 : op < 256) : clsB op = op % 8 := by
 unfold clsB
 rw [u8_and7 op h0 h1]
 unfold wrap64
 omega
/-- An 'and' of two bytes, as natural numbers. -/
theorem and_u8 (x : Int) (n : Nat) (h0 : 0 ≤ x) (h1 : x < 256) (hn : n < 256) : Go.bits .and .u8 x n = ((x.toNat &&& n : Nat) : Int) := by
 have h := (bits_nat .u8 8 (by decide) wraps_u8 x.toNat n (by omega) hn).1
 rwa [Int.toNat_of_nonneg h0] at h
def regB (op : Int) : Bool := (Go.bits .and .u8 op 8) != 0
def kindB (op : Int) : Int := wrap64 (Go.bits .and .u8 op 240)

/-- Which of Dst, Src, Off, Imm an operation uses. -/
def usesC (op c kd : Int) (r : Bool) : Bool × Bool × Bool × Bool :=
 if c = 0 then (true, true, false, true)
 else if c = 1 then (true, true, true, false)
 else if c = 3 then (true, true, true, false)
 else if c = 2 then (true, false, true, true)
 else if c = 4 then (if kd = 128 then (true, false, false, false) else (true, r, false, !r))
 else if c = 7 then (if kd = 128 then (true, false, false, false) else (true, r, false, !r))
 else if op = 5 then (false, false, true, false)
 else if op = 133 then (false, true, false, true)
 else if op = 149 then (false, false, false, false)
 else (true, r, true, !r)
def uses (op : Int) : Bool × Bool × Bool × Bool := usesC op (clsB op) (kindB op) (regB op)

theorem without_aux (k : Nat) (op d s o m c kd : Int) (r : Bool) (hc : insn_Class.f op = some c) (hk : insn_Kind.f op = some kd) (hr : insn_ByReg.f op = some r) :
  insn_without.f (k + 2) op d s o m = some (op, bif (usesC op c kd r).1 then 0 else d, bif (usesC op c kd r).2.1 then 0 else s, bif (usesC op c kd r).2.2.1 then 0 else o, bif (usesC op c kd r).2.2.2 then 0 else m) := by
 simp only [insn_without.f, insn_without.j0, insn_without.j1, hc, hk, hr, Option.bind_some]
 clear hc hk hr
 unfold usesC
 by_cases c0 : c = 0
 ·
  subst c0; simp
 by_cases c1 : c = 1
 ·
  subst c1; simp
 by_cases c3 : c = 3
 ·
  subst c3; simp
 by_cases c2 : c = 2
 ·
  subst c2; simp
 by_cases c4 : c = 4
 ·
  subst c4
  by_cases k8 : kd = 128
  ·
   simp [k8]
  ·
   cases r <;> simp [k8]
 by_cases c7 : c = 7
 ·
  subst c7
  by_cases k8 : kd = 128
  ·
   simp [k8]
  ·
   cases r <;> simp [k8]
 simp only [c0, c1, c2, c3, c4, c7, if_false]
 by_cases o5 : op = 5
 ·
  subst o5; simp [c3, c7]
 by_cases o133 : op = 133
 ·
  subst o133; simp [c3, c7]
 by_cases o149 : op = 149
 ·
  subst o149; simp [c3, c7]
 cases r <;> simp [o5, o133, o149, c3, c7]

theorem without_eq (k : Nat) (op d s o m : Int) : insn_without.f (k + 2) op d s o m = some (op, bif (uses op).1 then 0 else d, bif (uses op).2.1 then 0 else s, bif (uses op).2.2.1 then 0 else o, bif (uses op).2.2.2 then 0 else m) :=
 without_aux k op d s o m (clsB op) (kindB op) (regB op) rfl rfl rfl

theorem without_at (k : Nat) (hk : 2 ≤ k) (op d s o m : Int) : insn_without.f k op d s o m = some (op, bif (uses op).1 then 0 else d, bif (uses op).2.1 then 0 else s, bif (uses op).2.2.1 then 0 else o, bif (uses op).2.2.2 then 0 else m) := by
 obtain ⟨k, rfl⟩ : ∃ m, k = m + 2 := ⟨k - 2, by omega⟩
 exact without_eq k op d s o m

/-- Are the fields as they must be? (p, q, r, s: what is left of them without those that the operation uses.) -/
def fieldsX (p q r s : Int) (x : I) : Bool := (p == 0) && (q == 0) && (r == 0) && (s == 0) && decide (x.f1 ≤ 10) && decide (x.f2 ≤ 10) && !(x.f0 == 133 && decide (1 < x.f2))
def fieldsOk (x : I) : Bool := fieldsX (bif (uses x.f0).1 then 0 else x.f1) (bif (uses x.f0).2.1 then 0 else x.f2) (bif (uses x.f0).2.2.1 then 0 else x.f3) (bif (uses x.f0).2.2.2 then 0 else x.f4) x

/-- What a plain instruction at the head of a list is: its width, or the error. (kn: is the operation known?) -/
def plainX (kn ok : Bool) (x : I) (t : List I) : Int × Int :=
 if kn = true then (if ok = true then (if x.f0 = 24 then (if x.f2 ≤ 1 then (match t with | [] => (0, 42) | y :: _ => if y.f0 = 0 ∧ y.f1 = 0 ∧ y.f2 = 0 ∧ y.f3 = 0 then (2, 0) else (0, 42)) else (0, 42)) else (1, 0)) else (0, 42)) else (0, 41)
def plainS : List I → Int × Int
 | [] => (0, 2)
 | x :: t => plainX (knownB x.f0) (fieldsOk x) x t

theorem rd_drop (l : List I) (i : Nat) (h : i < l.length) : ∃ t, l.drop i = rd_T43 l (i : Int) :: t := by
 refine ⟨l.drop (i + 1), ?_⟩
 rw [List.drop_eq_getElem_cons h]
 simp [rd_T43, h]

theorem plain_aux (l : List I) (i : Nat) (hl : l.length < 4611686018427387904) (k : Nat) (x : I) (t : List I) (kn : Bool) (p q r s : Int) (hw : insn_without.f (k + 5) x.f0 x.f1 x.f2 x.f3 x.f4 = some (x.f0, p, q, r, s)) (hxx : rd_T43 l (i : Int) = x) (htl : t = l.drop (i + 1)) (h : i < l.length) :
  ((some kn).bind fun t114 => if t114 = true then (insn_without.f (k + 5) x.f0 x.f1 x.f2 x.f3 x.f4).bind fun bt115 => if (!bt115.fst == x.f0 || (!bt115.snd.fst == 0 || (!bt115.snd.snd.fst == 0 || (!bt115.snd.snd.snd.fst == 0 || !bt115.snd.snd.snd.snd == 0)))) = true then insn_Plain.j1 (k + 5) l (i : Int) true x.f0 x.f1 x.f2 x.f3 x.f4 else if x.f1 > 10 then insn_Plain.j1 (k + 5) l (i : Int) true x.f0 x.f1 x.f2 x.f3 x.f4 else insn_Plain.j1 (k + 5) l (i : Int) (decide (x.f2 > 10)) x.f0 x.f1 x.f2 x.f3 x.f4 else some (0, 41)) = some (plainX kn (fieldsX p q r s x) x t) := by
 have ew : wrap64 ((i : Int) + 1) = ((i + 1 : Nat) : Int) := by unfold wrap64; omega
 rw [hw]
 clear hw
 simp only [Option.bind_some]
 unfold plainX
 cases kn with
 | false => simp
 | true =>
  simp only [if_true, insn_Plain.j1, insn_Plain.j2, insn_Wide.f, Option.bind_some, ew]
  have hnext : ∀ y s, t = y :: s → rd_T43 l ((i + 1 : Nat) : Int) = y ∧ i + 1 < l.length := by
   intro y s hy
   have h1 : i + 1 < l.length := by
    rcases Nat.lt_or_ge (i + 1) l.length with h' | h'
    ·
     exact h'
    ·
     rw [htl, List.drop_eq_nil_of_le h'] at hy; cases hy
   refine ⟨?_, h1⟩
   obtain ⟨t2, h2⟩ := rd_drop l (i + 1) h1
   rw [htl, h2] at hy
   injection hy
  have hnil : t = [] → ((i + 1 : Nat) : Int) ≥ (l.length : Int) := by
   intro hn
   rw [htl] at hn
   have := List.drop_eq_nil_iff.1 hn
   omega
  unfold fieldsX
  by_cases hp : p = 0
  ·
   by_cases hq : q = 0
   ·
    by_cases hr : r = 0
    ·
     by_cases hs : s = 0
     ·
      subst hp hq hr hs
      by_cases h1 : x.f1 ≤ 10
      ·
       by_cases h2 : x.f2 ≤ 10
       ·
        have h1' : ¬ x.f1 > 10 := by omega
        have h2' : ¬ x.f2 > 10 := by omega
        by_cases h133 : x.f0 = 133
        ·
         by_cases h21 : x.f2 > 1
         ·
          simp [h1, h2, h1', h2', h133, h21]
         ·
          have h21' : ¬ (1 < x.f2) := h21
          simp [h1, h2, h1', h2', h133, h21']
        ·
         by_cases h24 : x.f0 = 24
         ·
          by_cases h21 : x.f2 > 1
          ·
           have h21' : ¬ (x.f2 ≤ 1) := by omega
           simp [h1, h2, h1', h2', h24, h21, h21']
          ·
           have h21' : x.f2 ≤ 1 := by omega
           have h21'' : ¬ (1 < x.f2) := h21
           cases t with
           | nil =>
            have := hnil rfl
            simp [h1, h2, h1', h2', h24, h21', h21'']
            intro hh
            omega
           | cons y t2 =>
            obtain ⟨hy, hlt⟩ := hnext y t2 rfl
            have hlt' : ((i + 1 : Nat) : Int) < (l.length : Int) := by omega
            have hge' : ¬ ((l.length : Int) ≤ ((i + 1 : Nat) : Int)) := by omega
            have h0' : (0 : Int) ≤ ((i + 1 : Nat) : Int) := by omega
            rw [hy]
            by_cases y0 : y.f0 = 0
            ·
             by_cases y1 : y.f1 = 0
             ·
              by_cases y2 : y.f2 = 0
              ·
               by_cases y3 : y.f3 = 0
               ·
                simp only [h1, h2, h1', h2', h24, h21', h21'', hlt', hge', h0', y0, y1, y2, y3, ge_iff_le, gt_iff_lt]; simp
               ·
                simp only [h1, h2, h1', h2', h24, h21', h21'', hlt', hge', h0', y0, y1, y2, y3, ge_iff_le, gt_iff_lt]; simp [y3]
              ·
               simp only [h1, h2, h1', h2', h24, h21', h21'', hlt', hge', h0', y0, y1, y2, ge_iff_le, gt_iff_lt]; simp [y2]
             ·
              simp only [h1, h2, h1', h2', h24, h21', h21'', hlt', hge', h0', y0, y1, ge_iff_le, gt_iff_lt]; simp [y1]
            ·
             simp only [h1, h2, h1', h2', h24, h21', h21'', hlt', hge', h0', y0, ge_iff_le, gt_iff_lt]; simp [y0]
         ·
          simp [h1, h2, h1', h2', h133, h24]
       ·
        have h1' : ¬ x.f1 > 10 := by omega
        have h2' : x.f2 > 10 := by omega
        simp [h1, h2, h1', h2']
      ·
       have h1' : x.f1 > 10 := by omega
       simp [h1, h1']
     ·
      simp [hs]
    ·
     simp [hr]
   ·
    simp [hq]
  ·
   simp [hp]

theorem plain_eq (l : List I) (i : Nat) (hl : l.length < 4611686018427387904) (hok : ∀ x ∈ l, okI x) (k : Nat) (hk : 6 ≤ k) : insn_Plain.f k l (i : Int) = some (plainS (l.drop i)) := by
 obtain ⟨k, rfl⟩ : ∃ m, k = m + 6 := ⟨k - 6, by omega⟩
 have e0 : ¬ ((i : Int) < 0) := by omega
 simp only [insn_Plain.f]
 rw [if_neg e0]
 simp only [insn_Plain.j0]
 by_cases h : i < l.length
 ·
  obtain ⟨t, ht⟩ := rd_drop l i h
  have hx : okI (rd_T43 l (i : Int)) := hok _ (List.mem_of_mem_drop (ht ▸ List.mem_cons_self))
  have e1 : ¬ ((i : Int) ≥ (l.length : Int)) := by omega
  have e2 : (i : Int) < (l.length : Int) := by omega
  have e3 : (0 : Int) ≤ i := by omega
  rw [ht]
  have htl : t = l.drop (i + 1) := by
   have := congrArg List.tail ht
   simpa using this.symm
  simp only [e1, decide_false, Bool.false_eq_true, if_false, if_pos e3, if_pos e2]
  rw [known_eq _ hx.1.1 hx.1.2 _ (by omega)]
  exact plain_aux l i hl k _ t _ _ _ _ _ (without_at _ (by omega) _ _ _ _ _) rfl htl h
 ·
  have e1 : (i : Int) ≥ (l.length : Int) := by omega
  rw [List.drop_eq_nil_of_le (by omega)]
  simp [e1, plainS]
end Go.Proofs.Ytmijlibnembkaaa.Pure
