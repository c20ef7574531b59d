/- What an instruction becomes (layer 19): the program's becomes and the document's One. -/
import Derived.Test.YtmijlibnembkaaaMkQe
import Derived.Test.YtmijlibnembkaaaMkPAx11
import Derived.Test.YtmijlibnembkaaaMkPAx20
namespace Go.Proofs.Ytmijlibnembkaaa.Pure
open Go.RowKit Go.Proofs.Ytmijlibnembkaaa.PA Go.Proofs.YtmijlibnembkaaaW.PrintWords Go.Proofs.YtmijlibnembkaaaW.PrintLast Go.Proofs.YtmijlibnembkaaaX
set_option linter.unusedVariables false
set_option linter.unusedSimpArgs false

abbrev Nt := S34
abbrev Df := S80

/-! ### numbers of two slots -/
theorem or_u64 (a b : Nat) (ha : a < 4294967296) (hb : b < 4294967296) : Go.bits .or .u64 (a : Int) ((b * 4294967296 : Nat) : Int) = ((a + b * 4294967296 : Nat) : Int) := by
 have hw : ∀ n : Int, 0 ≤ n → n < 2 ^ 64 → IntKind.u64.wrap n = n := by
  intro n h0 h1
  simp only [IntKind.wrap, IntKind.bits, IntKind.signed]
  simp
  omega
 have h := (bits_nat .u64 64 (by decide) hw a (b * 4294967296) (by omega) (by omega)).2
 rw [h]
 have : a ||| b * 4294967296 = b * 4294967296 + a := by
  have := Nat.shiftLeft_add_eq_or_of_lt (i := 32) (b := a) (by omega) b
  rw [Nat.shiftLeft_eq] at this
  rw [Nat.or_comm]
  exact this.symm
 rw [this]
 omega
def long (x y : I) : Int := x.f4 % 4294967296 + y.f4 % 4294967296 * 4294967296
theorem long_range (x y : I) : 0 ≤ long x y ∧ long x y < 18446744073709551616 := by unfold long; omega
theorem Long_eq (x y : I) : insn_Long.f x.f0 x.f1 x.f2 x.f3 x.f4 y.f0 y.f1 y.f2 y.f3 y.f4 = some (long x y) := by
 unfold insn_Long.f long
 have h := or_u64 (x.f4 % 4294967296).toNat (y.f4 % 4294967296).toNat (by omega) (by omega)
 rw [show (((x.f4 % 4294967296).toNat : Nat) : Int) = x.f4 % 4294967296 by omega, show (((y.f4 % 4294967296).toNat * 4294967296 : Nat) : Int) = y.f4 % 4294967296 * 4294967296 by omega] at h
 rw [h]
 congr 1
 omega
theorem rlong_eq (x y : I) : posternref02_Long.f x.f0 x.f1 x.f2 x.f3 x.f4 y.f0 y.f1 y.f2 y.f3 y.f4 = some (long x y) := by
 unfold posternref02_Long.f long
 congr 1
 omega
theorem wrap_u64 (n : Int) : IntKind.u64.wrap n = n % 18446744073709551616 := by simp [IntKind.wrap, IntKind.bits, IntKind.signed]
def splitL (d v : Int) : List I := [⟨24, d, 0, 0, wrap32 (v % 4294967296)⟩, ⟨0, 0, 0, 0, wrap32 ((v / 4294967296) % 4294967296)⟩]
theorem Split_eq (d v : Int) : insn_Split.f d 0 v = some (splitL d v) := rfl
theorem rwide_eq (d v : Int) (h0 : 0 ≤ v) (h1 : v < 18446744073709551616) : posternref19_wide.f d v = some (splitL d v) := by
 unfold posternref19_wide.f splitL
 rw [Int.tmod_eq_emod_of_nonneg h0, Int.tdiv_eq_ediv_of_nonneg h0, wrap_u64]
 have e1 : v % 4294967296 % 4294967296 = v % 4294967296 := by omega
 have e2 : v / 4294967296 % 18446744073709551616 % 4294967296 = v / 4294967296 % 4294967296 := by omega
 rw [e1, e2]

/-! ### what a lookup becomes -/
def place (m : Int) : Int := IntKind.u64.wrap (137438953472 + (IntKind.u64.wrap ((IntKind.u64.wrap m) * 4294967296)))
theorem place_range (m : Int) : 0 ≤ place m ∧ place m < 18446744073709551616 := by unfold place; rw [wrap_u64]; omega
theorem rplace_eq (m : Int) : posternref10_Place.f m 0 = some (place m) := by
 unfold posternref10_Place.f place
 simp only [wrap_u64]
 congr 1
 omega
def lookupL (m most : Int) : List I := [⟨97, 0, 2, 0, 0⟩, ⟨53, 0, 0, 5, wrap32 most⟩, ⟨103, 0, 0, 0, 12⟩] ++ splitL 1 (place m) ++ [⟨15, 0, 1, 0, 0⟩, ⟨5, 0, 0, 1, 0⟩, ⟨183, 0, 0, 0, 0⟩]
theorem splitL_length (d v : Int) : (splitL d v).length = 2 := rfl
theorem lookup_eq (m a b c most : Int) : fix_lookup.f m a b c most = some (lookupL m most) := by
 unfold fix_lookup.f lookupL
 rw [Split_eq, Option.bind_some, Option.bind_some]
 unfold place
 generalize hs : splitL 1 (IntKind.u64.wrap (137438953472 + (IntKind.u64.wrap ((IntKind.u64.wrap m) * 4294967296)))) = s
 have hl : s.length = 2 := by rw [← hs]; rfl
 simp only [List.length_append, List.length_cons, List.length_nil, hl, Option.bind_some]
 rw [if_pos (by decide), if_pos (by decide)]

/-! ### becomes -/
def ctxO (o : Int) : Option Int := if o = 0 then some 8 else if o = 8 then some 16 else if o = 16 then some 0 else if o = 20 then some 4 else none
theorem context_eq (o : Int) : fix_context.f o = some (match ctxO o with | some v => (v, true) | none => (0, false)) := by
 unfold fix_context.f ctxO
 repeat' split
 all_goals simp_all
def pieceO (x y : I) (n : Nt) (defs : List Df) : Option (List I) :=
 if n.f1 = true then
  (match ctxO x.f3 with
  | some v => if x.f0 % 8 < 1 ∨ x.f0 % 8 > 3 ∨ n.f2 ≠ 0 then none else some [⟨x.f0, x.f1, x.f2, v, x.f4⟩]
  | none => none)
 else if n.f2 = 0 then (if x.f0 = 24 then some (splitL x.f1 (if x.f2 = 1 then IntKind.u64.wrap (long x y + 281474976710656) else long x y)) else some [⟨x.f0, x.f1, x.f2, x.f3, x.f4⟩])
 else if (x.f0 = 133 ∧ x.f2 = 0 ∧ x.f4 = 1) ∧ 0 ≤ n.f2 ∧ n.f2 ≤ (defs.length : Int) ∧ (rd_T80 defs (n.f2 - 1)).f0 = 0 then some (lookupL (n.f2 - 1) (rd_T80 defs (n.f2 - 1)).f3)
 else none
def pieceR (o : Option (List I)) : List I × Int := match o with | some p => (p, 0) | none => ([], 2)
def pieceB (o : Option (List I)) : List I × Bool := match o with | some p => (p, true) | none => ([], false)

theorem size_byte : byte (fun op => !knownB op || (match insn_Size.f 5 op with | some v => (v == 0) == (decide (op % 8 < 1) || decide (op % 8 > 3)) | none => false)) = true := by decide +kernel
theorem size_eq (op : Int) (h0 : 0 ≤ op) (h1 : op < 256) (hkn : knownB op = true) (k : Nat) (hk : 5 ≤ k) : ∃ v, insn_Size.f k op = some v ∧ (v = 0 ↔ (op % 8 < 1 ∨ op % 8 > 3)) := by
 have h := byte_all size_byte op h0 h1
 rw [hkn] at h
 cases hs : insn_Size.f 5 op with
 | none => rw [hs] at h; cases h
 | some v =>
  refine ⟨v, up (fun k => insn_Size.mono op k) hs k hk, ?_⟩
  rw [hs] at h
  simp only [Bool.not_true, Bool.false_or, beq_iff_eq] at h
  rw [← beq_iff_eq, h]
  simp

theorem becomes_j0 (k : Nat) (l : List I) (q : Nat) (defs : List Df) (b : Bool) (n : Nt) (x y : I) (hq : q < l.length) (hsm : l.length < 1000000) (h0 : 0 ≤ x.f0) (h1 : x.f0 < 256) (hkn : knownB x.f0 = true)
  (hy : rd_T43 l ((q + 1 : Nat) : Int) = y) (hw : x.f0 = 24 → q + 1 < l.length) (hb : b = true ↔ (x.f0 = 133 ∧ x.f2 = 0 ∧ x.f4 = 1)) (hd : defs.length ≤ 140737488355328) :
  fix_becomes.j0 (k + 6) l (q : Int) defs b n.f0 n.f1 n.f2 x.f0 x.f1 x.f2 x.f3 x.f4 = some (pieceR (pieceO x y n defs)) := by
 have ew : wrap64 ((q : Int) + 1) = ((q + 1 : Nat) : Int) := by unfold wrap64; omega
 obtain ⟨sz, hsz, hz⟩ := size_eq x.f0 h0 h1 hkn (k + 5) (by omega)
 simp only [fix_becomes.j0, ew, hy, hsz, context_eq, Long_eq, Split_eq, lookup_eq, insn_Wide.f, Option.bind_some]
 unfold pieceO
 by_cases hc : n.f1 = true
 ·
  rw [if_pos hc, if_pos hc]
  cases ctxO x.f3 with
  | none => rfl
  | some v =>
   dsimp only
   rw [if_pos rfl]
   by_cases hs0 : sz = 0
   ·
    rw [if_pos hs0, if_pos (by have := hz.1 hs0; omega)]; rfl
   ·
    have := fun h => hs0 (hz.2 h)
    rw [if_neg hs0]
    by_cases hm : n.f2 = 0
    ·
     rw [if_pos hm, if_neg (by omega)]; rfl
    ·
     rw [if_neg hm, if_pos (by omega)]; rfl
 ·
  rw [if_neg hc, if_neg hc]
  by_cases hm : n.f2 = 0
  ·
   rw [if_pos hm, if_pos hm]
   by_cases h24 : x.f0 = 24
   ·
    have := hw h24
    rw [if_pos (by simpa using h24), if_pos (by omega), if_pos (by omega), if_pos h24]
    by_cases h2 : x.f2 = 1
    ·
     rw [if_pos h2, if_pos h2]; rfl
    ·
     rw [if_neg h2, if_neg h2]; rfl
   ·
    rw [if_neg (by simpa using h24), if_neg h24]; rfl
  ·
   rw [if_neg hm, if_neg hm]
   by_cases hbt : b = true
   ·
    rw [if_pos hbt]
    have hb' := hb.1 hbt
    by_cases hneg : n.f2 < 0
    ·
     rw [if_pos hneg, if_neg (by omega)]; rfl
    ·
     rw [if_neg hneg]
     by_cases hbig : n.f2 > (defs.length : Int)
     ·
      rw [if_pos hbig, if_neg (by omega)]; rfl
     ·
      have ew2 : wrap64 (n.f2 - 1) = n.f2 - 1 := by unfold wrap64; omega
      rw [if_neg hbig, ew2, if_pos (by omega), if_pos (by omega)]
      by_cases hk : (rd_T80 defs (n.f2 - 1)).f0 = 0
      ·
       rw [if_pos hk, if_pos ⟨hb', by omega, by omega, hk⟩]; rfl
      ·
       rw [if_neg hk, if_neg (fun h => hk h.2.2.2)]; rfl
   ·
    rw [if_neg hbt, if_neg (fun h => hbt (hb.2 h.1))]; rfl
theorem becomes_eq (k : Nat) (hk : 7 ≤ k) (l : List I) (q : Nat) (defs : List Df) (n : Nt) (x y : I) (hq : q < l.length) (hsm : l.length < 1000000) (h0 : 0 ≤ x.f0) (h1 : x.f0 < 256) (hkn : knownB x.f0 = true)
  (hx : rd_T43 l (q : Int) = x) (hy : rd_T43 l ((q + 1 : Nat) : Int) = y) (hw : x.f0 = 24 → q + 1 < l.length) (hd : defs.length ≤ 140737488355328) :
  fix_becomes.f k l (q : Int) n.f0 n.f1 n.f2 defs = some (pieceR (pieceO x y n defs)) := by
 obtain ⟨k, rfl⟩ : ∃ m, k = m + 1 + 6 := ⟨k - 7, by omega⟩
 unfold fix_becomes.f
 rw [if_pos (by omega), if_pos (by omega), hx]
 have J := fun b hb => becomes_j0 (k + 1) l q defs b n x y hq hsm h0 h1 hkn hy hw hb hd
 by_cases a : x.f0 = 133
 ·
  rw [if_pos a]
  by_cases c : x.f2 = 0
  ·
   rw [if_pos c]; exact J _ (by simp [a, c])
  ·
   rw [if_neg c]; exact J _ (by simp [c])
 ·
  rw [if_neg a]; exact J _ (by simp [a])

/-! ### One -/
theorem rone_loop (x : I) (n : Nt) (k : Nat) : posternref19_One.l0 (k + 5) (-1) [0, 8, 16, 20] 4 0 n.f0 n.f1 n.f2 x.f0 x.f1 x.f2 x.f3 x.f4 =
  some (pieceB (match ctxO x.f3 with | some v => if Int.tmod x.f0 8 < 1 ∨ Int.tmod x.f0 8 > 3 ∨ n.f2 ≠ 0 then none else some [⟨x.f0, x.f1, x.f2, v, x.f4⟩] | none => none)) := by
 have r0 : rd [0, 8, 16, 20] 0 = 0 := rfl
 have r1 : rd [0, 8, 16, 20] 1 = 8 := rfl
 have r2 : rd [0, 8, 16, 20] 2 = 16 := rfl
 have r3 : rd [0, 8, 16, 20] 3 = 20 := rfl
 have w0 : wrap64 (0 + 1) = 1 := by unfold wrap64; omega
 have w1 : wrap64 (1 + 1) = 2 := by unfold wrap64; omega
 have w2 : wrap64 (2 + 1) = 3 := by unfold wrap64; omega
 have w3 : wrap64 (3 + 1) = 4 := by unfold wrap64; omega
 have hlen : (([0, 8, 16, 20] : List Int).length : Int) = 4 := rfl
 have fin : ∀ (j v : Int), 0 ≤ j → j < 4 → rd [8, 16, 0, 4] j = v → posternref19_One.l0 (k + 1) j [0, 8, 16, 20] 4 4 n.f0 n.f1 n.f2 x.f0 x.f1 x.f2 x.f3 x.f4 = some (pieceB (if Int.tmod x.f0 8 < 1 ∨ Int.tmod x.f0 8 > 3 ∨ n.f2 ≠ 0 then none else some [⟨x.f0, x.f1, x.f2, v, x.f4⟩])) := by
  intro j v hj0 hj4 hv
  simp only [posternref19_One.l0]
  rw [if_neg (by decide), if_neg (by omega)]
  by_cases c1 : Int.tmod x.f0 8 < 1
  ·
   rw [if_pos c1, if_pos (.inl c1)]; rfl
  ·
   rw [if_neg c1]
   by_cases c2 : Int.tmod x.f0 8 > 3
   ·
    rw [if_pos c2, if_pos (.inr (.inl c2))]; rfl
   ·
    rw [if_neg c2]
    by_cases c3 : n.f2 = 0
    ·
     rw [if_pos c3, if_neg (by omega), Option.bind_some, if_pos hj0, if_pos (show j < (([8, 16, 0, 4] : List Int).length : Int) from hj4), hv]; rfl
    ·
     rw [if_neg c3, if_pos (.inr (.inr c3))]; rfl
 have none_ : posternref19_One.l0 (k + 1) (-1) [0, 8, 16, 20] 4 4 n.f0 n.f1 n.f2 x.f0 x.f1 x.f2 x.f3 x.f4 = some (pieceB none) := by
  simp only [posternref19_One.l0]
  rw [if_neg (by decide), if_pos (by decide)]; rfl
 have s0 : ∀ j, posternref19_One.l0 (k + 5) j [0, 8, 16, 20] 4 0 n.f0 n.f1 n.f2 x.f0 x.f1 x.f2 x.f3 x.f4 = if x.f3 = 0 then posternref19_One.l0 (k + 4) 0 [0, 8, 16, 20] 4 1 n.f0 n.f1 n.f2 x.f0 x.f1 x.f2 x.f3 x.f4 else posternref19_One.l0 (k + 4) j [0, 8, 16, 20] 4 1 n.f0 n.f1 n.f2 x.f0 x.f1 x.f2 x.f3 x.f4 := by
  intro j
  rw [show k + 5 = (k + 4) + 1 from rfl, posternref19_One.l0, if_pos (by decide), if_pos (by decide), hlen, if_pos (by decide), r0, w0]
 have s1 : ∀ j, posternref19_One.l0 (k + 4) j [0, 8, 16, 20] 4 1 n.f0 n.f1 n.f2 x.f0 x.f1 x.f2 x.f3 x.f4 = if x.f3 = 8 then posternref19_One.l0 (k + 3) 1 [0, 8, 16, 20] 4 2 n.f0 n.f1 n.f2 x.f0 x.f1 x.f2 x.f3 x.f4 else posternref19_One.l0 (k + 3) j [0, 8, 16, 20] 4 2 n.f0 n.f1 n.f2 x.f0 x.f1 x.f2 x.f3 x.f4 := by
  intro j
  rw [show k + 4 = (k + 3) + 1 from rfl, posternref19_One.l0, if_pos (by decide), if_pos (by decide), hlen, if_pos (by decide), r1, w1]
 have s2 : ∀ j, posternref19_One.l0 (k + 3) j [0, 8, 16, 20] 4 2 n.f0 n.f1 n.f2 x.f0 x.f1 x.f2 x.f3 x.f4 = if x.f3 = 16 then posternref19_One.l0 (k + 2) 2 [0, 8, 16, 20] 4 3 n.f0 n.f1 n.f2 x.f0 x.f1 x.f2 x.f3 x.f4 else posternref19_One.l0 (k + 2) j [0, 8, 16, 20] 4 3 n.f0 n.f1 n.f2 x.f0 x.f1 x.f2 x.f3 x.f4 := by
  intro j
  rw [show k + 3 = (k + 2) + 1 from rfl, posternref19_One.l0, if_pos (by decide), if_pos (by decide), hlen, if_pos (by decide), r2, w2]
 have s3 : ∀ j, posternref19_One.l0 (k + 2) j [0, 8, 16, 20] 4 3 n.f0 n.f1 n.f2 x.f0 x.f1 x.f2 x.f3 x.f4 = if x.f3 = 20 then posternref19_One.l0 (k + 1) 3 [0, 8, 16, 20] 4 4 n.f0 n.f1 n.f2 x.f0 x.f1 x.f2 x.f3 x.f4 else posternref19_One.l0 (k + 1) j [0, 8, 16, 20] 4 4 n.f0 n.f1 n.f2 x.f0 x.f1 x.f2 x.f3 x.f4 := by
  intro j
  rw [show k + 2 = (k + 1) + 1 from rfl, posternref19_One.l0, if_pos (by decide), if_pos (by decide), hlen, if_pos (by decide), r3, w3]
 have f0 := fin 0 8 (by decide) (by decide) rfl
 have f1 := fin 1 16 (by decide) (by decide) rfl
 have f2 := fin 2 0 (by decide) (by decide) rfl
 have f3 := fin 3 4 (by decide) (by decide) rfl
 clear fin
 unfold ctxO
 by_cases e0 : x.f3 = 0
 ·
  rw [s0, if_pos e0, s1, if_neg (by omega), s2, if_neg (by omega), s3, if_neg (by omega), f0, if_pos e0]
 ·
  rw [s0, if_neg e0, if_neg e0]
  by_cases e1 : x.f3 = 8
  ·
   rw [s1, if_pos e1, s2, if_neg (by omega), s3, if_neg (by omega), f1, if_pos e1]
  ·
   rw [s1, if_neg e1, if_neg e1]
   by_cases e2 : x.f3 = 16
   ·
    rw [s2, if_pos e2, s3, if_neg (by omega), f2, if_pos e2]
   ·
    rw [s2, if_neg e2, if_neg e2]
    by_cases e3 : x.f3 = 20
    ·
     rw [s3, if_pos e3, f3, if_pos e3]
    ·
     rw [s3, if_neg e3, none_, if_neg e3]
theorem rone_eq (k : Nat) (hk : 5 ≤ k) (l : List I) (q : Nat) (defs : List Df) (n : Nt) (x y : I) (hq : q < l.length) (hsm : l.length < 1000000) (h0 : 0 ≤ x.f0)
  (hx : rd_T43 l (q : Int) = x) (hy : rd_T43 l ((q + 1 : Nat) : Int) = y) (hw : x.f0 = 24 → q + 1 < l.length) (hd : defs.length ≤ 140737488355328) :
  posternref19_One.f k l (q : Int) n.f0 n.f1 n.f2 defs = some (pieceB (pieceO x y n defs)) := by
 obtain ⟨k, rfl⟩ : ∃ m, k = m + 5 := ⟨k - 5, by omega⟩
 have ew : wrap64 ((q : Int) + 1) = ((q + 1 : Nat) : Int) := by unfold wrap64; omega
 have hl := long_range x y
 unfold posternref19_One.f pieceO
 rw [if_pos (by omega), if_pos (by omega), hx, ew, hy, rlong_eq, Option.bind_some, Option.bind_some]
 by_cases hc : n.f1 = true
 ·
  rw [if_pos hc, if_pos hc]
  have := rone_loop x n k
  rw [Int.tmod_eq_emod_of_nonneg h0] at this
  exact this
 ·
  rw [if_neg hc, if_neg hc]
  by_cases hm : n.f2 = 0
  ·
   rw [if_pos hm, if_pos hm]
   by_cases h24 : x.f0 = 24
   ·
    have := hw h24
    rw [if_pos h24, if_pos (by omega), if_pos (by omega), if_pos h24]
    by_cases h2 : x.f2 = 1
    ·
     rw [if_pos h2, if_pos h2, rwide_eq _ _ (by rw [wrap_u64]; omega) (by rw [wrap_u64]; omega)]; rfl
    ·
     rw [if_neg h2, if_neg h2, rwide_eq _ _ hl.1 hl.2]; rfl
   ·
    rw [if_neg h24, if_neg h24]; rfl
  ·
   rw [if_neg hm, if_neg hm]
   have J : ∀ b, posternref19_One.j1 (k + 5) defs b n.f0 n.f1 n.f2 = if b = true then some (pieceB none) else (if 0 ≤ wrap64 (n.f2 - 1) then (if wrap64 (n.f2 - 1) < (defs.length : Int) then some (pieceB (some (lookupL (wrap64 (n.f2 - 1)) (rd_T80 defs (wrap64 (n.f2 - 1))).f3))) else none) else none) := by
    intro b
    simp only [posternref19_One.j1, rplace_eq, Option.bind_some]
    have hp := place_range (wrap64 (n.f2 - 1))
    rw [rwide_eq _ _ hp.1 hp.2, Option.bind_some]
    unfold lookupL
    generalize hs : splitL 1 (place (wrap64 (n.f2 - 1))) = s
    have hl : s.length = 2 := by rw [← hs]; rfl
    simp only [List.length_append, List.length_cons, List.length_nil, hl, Option.bind_some]
    simp only [show (0 + 1 + 1 + 1 + 2 < 11728124029610) from by decide, show (0 + 1 + 1 + 1 + 2 + (0 + 1 + 1 + 1) < 11728124029610) from by decide, if_true]
    rfl
   have bad : ∀ (h : ¬ ((x.f0 = 133 ∧ x.f2 = 0 ∧ x.f4 = 1) ∧ 0 ≤ n.f2 ∧ n.f2 ≤ (defs.length : Int) ∧ (rd_T80 defs (n.f2 - 1)).f0 = 0)), posternref19_One.j1 (k + 5) defs true n.f0 n.f1 n.f2 = some (pieceB (if (x.f0 = 133 ∧ x.f2 = 0 ∧ x.f4 = 1) ∧ 0 ≤ n.f2 ∧ n.f2 ≤ (defs.length : Int) ∧ (rd_T80 defs (n.f2 - 1)).f0 = 0 then some (lookupL (n.f2 - 1) (rd_T80 defs (n.f2 - 1)).f3) else none)) := by
    intro h
    rw [J, if_pos rfl, if_neg h]
   by_cases a : x.f0 = 133
   ·
    rw [if_pos a]
    by_cases c : x.f2 = 0
    ·
     rw [if_pos c]
     by_cases d : x.f4 = 1
     ·
      rw [if_pos d]
      by_cases hneg : n.f2 < 0
      ·
       rw [if_pos hneg]; exact bad (by omega)
      ·
       rw [if_neg hneg]
       by_cases hbig : n.f2 > (defs.length : Int)
       ·
        rw [if_pos hbig]; exact bad (by omega)
       ·
        have ew2 : wrap64 (n.f2 - 1) = n.f2 - 1 := by unfold wrap64; omega
        rw [if_neg hbig, ew2, if_pos (by omega), if_pos (by omega)]
        by_cases hk : (rd_T80 defs (n.f2 - 1)).f0 = 0
        ·
         have hg : (x.f0 = 133 ∧ x.f2 = 0 ∧ x.f4 = 1) ∧ 0 ≤ n.f2 ∧ n.f2 ≤ (defs.length : Int) ∧ (rd_T80 defs (n.f2 - 1)).f0 = 0 := ⟨⟨a, c, d⟩, by omega, by omega, hk⟩
         rw [if_pos hg, J, ew2, show ((rd_T80 defs (n.f2 - 1)).f0 != 0) = false from by simpa using hk, if_neg (by decide), if_pos (by omega), if_pos (by omega)]
        ·
         rw [show ((rd_T80 defs (n.f2 - 1)).f0 != 0) = true from by simpa using hk]
         exact bad (fun h => hk h.2.2.2)
     ·
      rw [if_neg d]; exact bad (fun h => d h.1.2.2)
    ·
     rw [if_neg c]; exact bad (fun h => c h.1.2.1)
   ·
    rw [if_neg a]; exact bad (fun h => a h.1.1)
end Go.Proofs.Ytmijlibnembkaaa.Pure
