/- The second machine's laws: two numbers laid by four moves each: what the words are, what the run must be right about, what stands in the registers. -/
import Derived.Test.YtbepakbjinhjcaaGreatDoorKb
namespace Go.Proofs.YtbepakbjinhjcaaGreatDoor.W23
open Go Go.Proofs.YtbepakbjinhjcaaGreatDoor.Ev
set_option linter.unusedVariables false
set_option linter.unusedSimpArgs false
noncomputable section
theorem or_add {b q : Nat} (i : Nat) (hq : q = 2 ^ i) (a : Nat) (h : b < q) : (a * q) ||| b = a * q + b := by
  subst hq
  rw [Nat.mul_comm]; exact (Nat.two_pow_add_eq_or_of_lt h a).symm
theorem or_add' {b q : Nat} (i : Nat) (hq : q = 2 ^ i) (a : Nat) (h : b < q) : b ||| (a * q) = a * q + b := by rw [Nat.or_comm]; exact or_add i hq a h
theorem and_low {x m : Nat} (n q : Nat) (hq : q = 2 ^ n) (hx : x < q) (hm : m % q = q - 1) : x &&& m = x := by
  subst hq
  have h1 : (x &&& m) % 2 ^ n = x &&& m := Nat.mod_eq_of_lt (Nat.lt_of_le_of_lt Nat.and_le_left hx)
  rw [← h1, Nat.and_mod_two_pow, hm, Nat.and_two_pow_sub_one_eq_mod, Nat.mod_mod, Nat.mod_eq_of_lt hx]
/-! ### Plain numbers -/
theorem a1 {n : Nat} (h : n < 65536) : n % 4294967296 % 65536 % 4294967296 * 32 % 4294967296 = n * 32 := by omega
theorem a2 {n : Nat} (h : n < 65536) : n * 32 < 2097152 := by omega
theorem a3 {m n : Nat} (h : n < 65536) (g : m < 4) : (m * 2097152 + n * 32) % 4294967296 = (m * 65536 + n) * 32 := by omega
theorem a4 {m n r : Nat} (h : n < 65536) (g : m < 4) (hr : r < 32) : ((m * 65536 + n) * 32 + r) % 4294967296 = (m * 65536 + n) * 32 + r := by omega
theorem a5 {m n r : Nat} (h : n < 65536) (g : m < 4) (hr : r < 32) : (m * 65536 + n) * 32 + r < 8388608 := by omega
theorem a6 {q m n r : Nat} (hq : q < 512) (h : n < 65536) (g : m < 4) (hr : r < 32) : (q * 8388608 + ((m * 65536 + n) * 32 + r)) % 4294967296 = q * 8388608 + m * 2097152 + r + 32 * n := by omega
theorem c0 (x : Nat) : x / 1 % 256 * 1 % 18446744073709551616 = x % 256 := by omega
theorem c1 (x : Nat) : x / 256 % 256 * 256 % 18446744073709551616 = x / 256 % 256 * 256 := by omega
theorem c2 (x : Nat) : x / 65536 % 256 * 65536 % 18446744073709551616 = x / 65536 % 256 * 65536 := by omega
theorem c3 (x : Nat) : x / 16777216 % 256 * 16777216 % 18446744073709551616 = x / 16777216 % 256 * 16777216 := by omega
theorem d0 (x : Nat) : x % 256 % 18446744073709551616 = x % 256 := by omega
theorem d1 (x : Nat) : (x / 256 % 256 * 256 + x % 256) % 18446744073709551616 = x % 65536 := by omega
theorem d2 (x : Nat) : (x / 65536 % 256 * 65536 + x % 65536) % 18446744073709551616 = x % 16777216 := by omega
theorem d3 {x : Nat} (h : x < 4294967296) : (x / 16777216 % 256 * 16777216 + x % 16777216) % 18446744073709551616 % 4294967296 = x := by omega
theorem g0 {a : Nat} (h : a < 65536) : a % 18446744073709551616 * 1 % 18446744073709551616 = a := by omega
theorem g1 {a : Nat} (h : a < 65536) : a % 18446744073709551616 * 65536 % 18446744073709551616 = a * 65536 := by omega
theorem g2 {a : Nat} (h : a < 65536) : a % 18446744073709551616 * 4294967296 % 18446744073709551616 = a * 4294967296 := by omega
theorem g3 {a : Nat} (h : a < 65536) : a % 18446744073709551616 * 281474976710656 % 18446744073709551616 = a * 281474976710656 := by omega
theorem g4 {a : Nat} (h : a < 65536) : a % 18446744073709551616 = a := by omega
theorem g5 {a b : Nat} (h : a < 65536) (g : b < 65536) : (b * 65536 + a) % 18446744073709551616 = b * 65536 + a := by omega
theorem g6 {a b : Nat} (h : a < 65536) (g : b < 65536) : b * 65536 + a < 4294967296 := by omega
theorem g7 {a b : Nat} (h : a < 4294967296) (g : b < 65536) : (b * 4294967296 + a) % 18446744073709551616 = b * 4294967296 + a := by omega
theorem g8 {a b : Nat} (h : a < 4294967296) (g : b < 65536) : b * 4294967296 + a < 281474976710656 := by omega
theorem g9 {a b : Nat} (h : a < 281474976710656) (g : b < 65536) : (b * 281474976710656 + a) % 18446744073709551616 = b * 281474976710656 + a := by omega
theorem g10 {v : Nat} (h : v < 18446744073709551616) : v / 281474976710656 % 65536 * 281474976710656 + (v / 4294967296 % 65536 * 4294967296 + (v / 65536 % 65536 * 65536 + v % 65536)) = v := by omega
/-! ### Operations upon numbers that are not below 0 -/
theorem or32 (x y : Nat) : orQ .u32 (.ofNat x) (.ofNat y) = .ofNat ((x ||| y) % 4294967296) := rfl
theorem or64 (x y : Nat) : orQ .u64 (.ofNat x) (.ofNat y) = .ofNat ((x ||| y) % 18446744073709551616) := rfl
theorem and32 (x y : Nat) : andQ .u32 (.ofNat x) (.ofNat y) = .ofNat ((x &&& y) % 4294967296) := rfl
theorem and64 (x y : Nat) : andQ .u64 (.ofNat x) (.ofNat y) = .ofNat ((x &&& y) % 18446744073709551616) := rfl
theorem xor64 (x y : Nat) : xorQ .u64 (.ofNat x) (.ofNat y) = .ofNat ((x ^^^ y) % 18446744073709551616) := rfl
theorem nand64 (x y : Nat) : nandQ .u64 (.ofNat x) (.ofNat y) = .ofNat ((x &&& (2 ^ 64 - 1 - y % 2 ^ 64)) % 18446744073709551616) := rfl
theorem wu8 (x : Nat) : wrapQ .u8 (.ofNat x) = .ofNat (x % 256) := rfl
theorem wu32 (x : Nat) : wrapQ .u32 (.ofNat x) = .ofNat (x % 4294967296) := rfl
theorem wu64 (x : Nat) : wrapQ .u64 (.ofNat x) = .ofNat (x % 18446744073709551616) := rfl
theorem shl32 (x : Nat) {s : Nat} (q : Nat) (hq : q = 2 ^ s) (h : s ≤ 32) : shlQ .u32 (.ofNat x) (.ofNat s) = .ofNat (x * q % 4294967296) := by
  subst hq
  have : lowQ .u32 s = s := by rw [lowQ_eq]; exact Nat.min_eq_left h
  exact congrArg (fun z => wrapQ .u32 (Int.ofNat (Nat.mul x (Nat.pow 2 z)))) this
theorem shl64 (x : Nat) {s : Nat} (q : Nat) (hq : q = 2 ^ s) (h : s ≤ 64) : shlQ .u64 (.ofNat x) (.ofNat s) = .ofNat (x * q % 18446744073709551616) := by
  subst hq
  have : lowQ .u64 s = s := by rw [lowQ_eq]; exact Nat.min_eq_left h
  exact congrArg (fun z => wrapQ .u64 (Int.ofNat (Nat.mul x (Nat.pow 2 z)))) this
theorem shr64 (x : Nat) {s : Nat} (q : Nat) (hq : q = 2 ^ s) (h : s ≤ 64) : shrQ .u64 (.ofNat x) (.ofNat s) = .ofNat (x / q) := by
  subst hq
  have : lowQ .u64 s = s := by rw [lowQ_eq]; exact Nat.min_eq_left h
  exact congrArg (fun z => Int.ofNat (Nat.div x (Nat.pow 2 z))) this
/-- A part of a number, as the law takes it. -/
def pt (v k : Nat) : Nat := v / 2 ^ (16 * k) % 65536
def shV (v k : Nat) : Int := match k with
  | 0 => .ofNat v
  | k + 1 => shrQ .u64 (.ofNat v) (.ofNat (16 * (k + 1)))
def immQ (v k : Nat) : Int := wrapQ .i64 (andQ .u64 (shV v k) (.ofNat 65535))
/-- The word that is made of it. -/
def wordQ (c kb r : Nat) (v k : Nat) : Int := orQ .u32 (.ofNat c) (orQ .u32 (orQ .u32 (.ofNat kb) (shlQ .u32 (andQ .u32 (wrapQ .u32 (immQ v k)) (.ofNat 65535)) (.ofNat 5))) (.ofNat r))
def byQ (w : Int) (s : Nat) : Int := shlQ .u64 (wrapQ .u64 (wrapQ .u8 (shrQ .u64 (wrapQ .u64 w) (.ofNat s)))) (.ofNat s)
/-- A word as four bytes, and read again. -/
def bk (w : Int) : Int := wrapQ .u32 (orQ .u64 (orQ .u64 (orQ .u64 (orQ .u64 (.ofNat 0) (byQ w 0)) (byQ w 8)) (byQ w 16)) (byQ w 24))
theorem pt_lt (v k : Nat) : pt v k < 65536 := Nat.mod_lt _ (by decide)
theorem ofn {a b : Nat} (h : a = b) : Int.ofNat a = Int.ofNat b := congrArg Int.ofNat h
theorem land16 (x : Nat) : x &&& 65535 = x % 65536 := land_low x 16
theorem imm_eq {v k : Nat} (hk : k < 4) : immQ v k = .ofNat (pt v k) := by
  have e : shV v k = .ofNat (v / 2 ^ (16 * k)) := by
    rcases k with _ | _ | _ | _ | k
    · exact ofn (by simp)
    · exact shr64 v _ rfl (by decide)
    · exact shr64 v _ rfl (by decide)
    · exact shr64 v _ rfl (by decide)
    · omega
  unfold immQ pt
  rw [e, and64, land16]
  generalize v / 2 ^ (16 * k) = z
  rw [w64 (by omega)]
  exact ofn (by omega)
theorem word_eq {c kb r v k : Nat} (hk : k < 4) (hr : r < 32) (hkb : kb % 2097152 = 0) (hkb2 : kb < 8388608) (hc : c % 8388608 = 0) (hc2 : c < 4294967296) : wordQ c kb r v k = .ofNat (c + kb + r + 32 * pt v k) := by
  have hp := pt_lt v k
  unfold wordQ
  rw [imm_eq hk]
  generalize pt v k = n at hp
  obtain ⟨m, hm, rfl⟩ : ∃ m, m < 4 ∧ kb = m * 2097152 := ⟨kb / 2097152, by omega, by omega⟩
  obtain ⟨q, hq, rfl⟩ : ∃ q, q < 512 ∧ c = q * 8388608 := ⟨c / 8388608, by omega, by omega⟩
  rw [wu32, and32, land16, shl32 _ 32 (by decide) (by decide), or32, a1 hp, or_add 21 (by decide) m (a2 hp), a3 hp hm, or32, or_add 5 (by decide) _ hr, a4 hp hm hr, or32, or_add 23 (by decide) q (a5 hp hm hr), a6 hq hp hm hr]
theorem by_eq {x s : Nat} (q : Nat) (hq : q = 2 ^ s) (hx : x < 4294967296) (h : s ≤ 64) : byQ (.ofNat x) s = .ofNat (x / q % 256 * q % 18446744073709551616) := by
  unfold byQ
  rw [wu64, shr64 _ q hq h, wu8, wu64, shl64 _ q hq h, Nat.mod_eq_of_lt (show x < 18446744073709551616 by omega)]
  refine ofn ?_
  rw [Nat.mod_eq_of_lt (show x / q % 256 < 18446744073709551616 by omega)]
theorem bk_eq {x : Nat} (h : x < 4294967296) : bk (.ofNat x) = .ofNat x := by
  unfold bk
  rw [by_eq 1 (by decide) h (by decide), by_eq 256 (by decide) h (by decide), by_eq 65536 (by decide) h (by decide), by_eq 16777216 (by decide) h (by decide)]
  rw [c0, c1, c2, c3, or64, Nat.zero_or, d0, or64, or_add' 8 (by decide) _ (Nat.mod_lt x (by decide)), d1, or64, or_add' 16 (by decide) _ (Nat.mod_lt x (by decide)), d2, or64, or_add' 24 (by decide) _ (Nat.mod_lt x (by decide)), wu32, d3 h]

/-! ### What the run must be right about -/
def neg (w h : Int) : Bool := bif eqQ w h then false else true
structure Pt where
  W : Int
  h : Nat
  n : Nat
  v : Int
def sq (p : Pt) : Bool := bif !(true && (true && (true && (true && (true && (true && (true && (true && (Int.ofNat p.n == p.v && true))))))))) then false else true
def encC (cl : List Int) : List Nat → List Pt → List Bool
  | _, [] => []
  | pre, p :: t => cl.map (neg p.W) ++ (pre.map (fun h => neg p.W (.ofNat h)) ++ (eqQ p.W (.ofNat p.h) :: sq p :: encC cl (pre ++ [p.h]) t))
def runC (cl : List Int) : List Nat → List Pt → List Bool
  | _, [] => []
  | pre, p :: t => cl.map (neg (bk p.W)) ++ (pre.map (fun h => neg (bk p.W) (.ofNat h)) ++ (eqQ (bk p.W) (.ofNat p.h) :: runC cl (pre ++ [p.h]) t))
def ptz (r v : Nat) : Pt := ⟨wordQ 3531603968 0 r v 0, zw r (pt v 0), pt v 0, immQ v 0⟩
def ptk (k r v : Nat) : Pt := ⟨wordQ 4068474880 (2097152 * k) r v k, kw k r (pt v k), pt v k, immQ v k⟩
def parts (A B : Nat) : List Pt := [ptz 1 A, ptk 1 1 A, ptk 2 1 A, ptk 3 1 A, ptz 2 B, ptk 1 2 B, ptk 2 2 B, ptk 3 2 B]
def Good (p : Pt) : Prop := p.W = .ofNat p.h ∧ p.v = .ofNat p.n ∧ p.h < 4294967296
theorem neg_true {a b : Int} (h : a ≠ b) : neg a b = true := by
  unfold neg
  rw [neQ_eq]; simpa using h
theorem eqQ_self (a : Int) : eqQ a a = true := by rw [eqQ_eq]; simp
theorem encC_all {cl : List Int} : ∀ (l : List Pt) (pre : List Nat), (∀ p ∈ l, Good p) → (∀ p ∈ l, ∀ c ∈ cl, (Int.ofNat p.h) ≠ c) → (pre ++ l.map Pt.h).Pairwise (· ≠ ·) → ∀ t ∈ encC cl pre l, t = true := by
  intro l
  induction l with
  | nil => intro pre _ _ _ t ht; simp [encC] at ht
  | cons p l ih =>
    intro pre hg hc hp t ht
    obtain ⟨g1, g2, g3⟩ := hg p (by simp)
    simp only [encC, List.mem_append, List.mem_map, List.mem_cons] at ht
    rcases ht with ⟨c, hc', rfl⟩ | ⟨h, hh, rfl⟩ | rfl | rfl | ht
    · rw [g1]; exact neg_true (hc p (by simp) c hc')
    · rw [g1]
      refine neg_true fun e => ?_
      have := (List.pairwise_append.1 hp).2.2 h hh p.h (by simp)
      exact this (Int.ofNat.inj e).symm
    · rw [g1]; exact eqQ_self _
    · simp [sq, g2]
    · exact ih (pre ++ [p.h]) (fun q hq => hg q (by simp [hq])) (fun q hq => hc q (by simp [hq])) (by simpa using hp) t ht
theorem runC_all {cl : List Int} : ∀ (l : List Pt) (pre : List Nat), (∀ p ∈ l, Good p) → (∀ p ∈ l, ∀ c ∈ cl, (Int.ofNat p.h) ≠ c) → (pre ++ l.map Pt.h).Pairwise (· ≠ ·) → ∀ t ∈ runC cl pre l, t = true := by
  intro l
  induction l with
  | nil => intro pre _ _ _ t ht; simp [runC] at ht
  | cons p l ih =>
    intro pre hg hc hp t ht
    obtain ⟨g1, g2, g3⟩ := hg p (by simp)
    have g4 : bk p.W = .ofNat p.h := by rw [g1]; exact bk_eq g3
    simp only [runC, List.mem_append, List.mem_map, List.mem_cons] at ht
    rcases ht with ⟨c, hc', rfl⟩ | ⟨h, hh, rfl⟩ | rfl | ht
    · rw [g4]; exact neg_true (hc p (by simp) c hc')
    · rw [g4]
      refine neg_true fun e => ?_
      have := (List.pairwise_append.1 hp).2.2 h hh p.h (by simp)
      exact this (Int.ofNat.inj e).symm
    · rw [g4]; exact eqQ_self _
    · exact ih (pre ++ [p.h]) (fun q hq => hg q (by simp [hq])) (fun q hq => hc q (by simp [hq])) (by simpa using hp) t ht
theorem ptz_good {r v : Nat} (hr : r < 32) : Good (ptz r v) := by
  have hp := pt_lt v 0
  refine ⟨?_, imm_eq (v := v) (k := 0) (by decide), ?_⟩
  · show wordQ 3531603968 0 r v 0 = _
    rw [word_eq (by decide) hr (by decide) (by decide) (by decide) (by decide)]
    exact congrArg Int.ofNat (by show _ = 3531603968 + r + 32 * pt v 0; omega)
  · show 3531603968 + r + 32 * pt v 0 < _; omega
theorem ptk_good {k r v : Nat} (hk : k < 4) (hr : r < 32) : Good (ptk k r v) := by
  have hp := pt_lt v k
  refine ⟨?_, imm_eq (v := v) hk, ?_⟩
  · show wordQ 4068474880 (2097152 * k) r v k = _
    rw [word_eq hk hr (by omega) (by omega) (by decide) (by decide)]
    rfl
  · show 4068474880 + 2097152 * k + r + 32 * pt v k < _; omega
theorem parts_good (A B : Nat) : ∀ p ∈ parts A B, Good p := by
  intro p hp
  simp only [parts, List.mem_cons, List.not_mem_nil, or_false] at hp
  rcases hp with rfl | rfl | rfl | rfl | rfl | rfl | rfl | rfl <;> first | exact ptz_good (by decide) | exact ptk_good (by decide) (by decide)
theorem parts_apart (A B : Nat) : ((parts A B).map Pt.h).Pairwise (· ≠ ·) := by
  have a0 := pt_lt A 0
  have a1 := pt_lt A 1
  have a2 := pt_lt A 2
  have a3 := pt_lt A 3
  have b0 := pt_lt B 0
  have b1 := pt_lt B 1
  have b2 := pt_lt B 2
  have b3 := pt_lt B 3
  simp only [parts, List.map, ptz, ptk, zw, kw, List.pairwise_cons, List.mem_cons, List.not_mem_nil, or_false, List.Pairwise.nil, and_true]
  refine ⟨?_, ?_, ?_, ?_, ?_, ?_, ?_, ?_⟩ <;> (intro x hx; first | exact hx.elim | (rcases hx with rfl | rfl | rfl | rfl | rfl | rfl | rfl <;> omega) | (rcases hx with rfl | rfl | rfl | rfl | rfl | rfl <;> omega) | (rcases hx with rfl | rfl | rfl | rfl | rfl <;> omega) | (rcases hx with rfl | rfl | rfl | rfl <;> omega) | (rcases hx with rfl | rfl | rfl <;> omega) | (rcases hx with rfl | rfl <;> omega) | (subst hx; omega))
/-- Words that are none of the moves'. -/
theorem parts_not {A B : Nat} {cl : List Int} (h : ∀ c ∈ cl, ∃ x : Nat, c = .ofNat x ∧ (x % 32 ≠ 1 ∧ x % 32 ≠ 2 ∨ x < 3531603968 ∨ 3533701152 ≤ x ∧ x < 4068474880)) : ∀ p ∈ parts A B, ∀ c ∈ cl, (Int.ofNat p.h) ≠ c := by
  intro p hp c hc e
  obtain ⟨x, rfl, hx⟩ := h c hc
  have e := Int.ofNat.inj e
  have a0 := pt_lt A 0
  have a1 := pt_lt A 1
  have a2 := pt_lt A 2
  have a3 := pt_lt A 3
  have b0 := pt_lt B 0
  have b1 := pt_lt B 1
  have b2 := pt_lt B 2
  have b3 := pt_lt B 3
  simp only [parts, List.mem_cons, List.not_mem_nil, or_false] at hp
  rcases hp with rfl | rfl | rfl | rfl | rfl | rfl | rfl | rfl <;> simp only [ptz, ptk, zw, kw] at e <;> omega
/-! ### What stands in the registers -/
def lay4 (a b c d : Nat) : Int := orQ .u64 (nandQ .u64 (orQ .u64 (nandQ .u64 (orQ .u64 (nandQ .u64 (shlQ .u64 (wrapQ .u64 (.ofNat a)) (.ofNat 0)) (.ofNat 4294901760)) (shlQ .u64 (wrapQ .u64 (.ofNat b)) (.ofNat 16))) (.ofNat 281470681743360)) (shlQ .u64 (wrapQ .u64 (.ofNat c)) (.ofNat 32))) (.ofNat 18446462598732840960)) (shlQ .u64 (wrapQ .u64 (.ofNat d)) (.ofNat 48))
def regQ (v : Nat) : Int := lay4 (pt v 0) (pt v 1) (pt v 2) (pt v 3)
theorem lay_eq {a b c d : Nat} (ha : a < 65536) (hb : b < 65536) (hc : c < 65536) (hd : d < 65536) : lay4 a b c d = .ofNat (d * 281474976710656 + (c * 4294967296 + (b * 65536 + a))) := by
  unfold lay4
  rw [wu64, wu64, wu64, wu64, shl64 _ 1 (by decide) (by decide), shl64 _ 65536 (by decide) (by decide), shl64 _ 4294967296 (by decide) (by decide), shl64 _ 281474976710656 (by decide) (by decide)]
  rw [g0 ha, g1 hb, g2 hc, g3 hd, nand64, and_low 16 65536 (by decide) ha (by decide), g4 ha, or64, or_add' 16 (by decide) _ ha, g5 ha hb, nand64, and_low 32 4294967296 (by decide) (g6 ha hb) (by decide), g5 ha hb, or64, or_add' 32 (by decide) _ (g6 ha hb), g7 (g6 ha hb) hc, nand64, and_low 48 281474976710656 (by decide) (g8 (g6 ha hb) hc) (by decide), g7 (g6 ha hb) hc, or64, or_add' 48 (by decide) _ (g8 (g6 ha hb) hc), g9 (g8 (g6 ha hb) hc) hd]
theorem reg_eq {v : Nat} (h : v < 18446744073709551616) : regQ v = .ofNat v := by
  unfold regQ
  rw [lay_eq (pt_lt _ _) (pt_lt _ _) (pt_lt _ _) (pt_lt _ _)]
  refine ofn ?_
  unfold pt
  have h0 : v / 2 ^ (16 * 0) = v := by simp
  have h1 : v / 2 ^ (16 * 1) = v / 65536 := rfl
  have h2 : v / 2 ^ (16 * 2) = v / 4294967296 := rfl
  have h3 : v / 2 ^ (16 * 3) = v / 281474976710656 := rfl
  rw [h0, h1, h2, h3]
  exact g10 h
end
end Go.Proofs.YtbepakbjinhjcaaGreatDoor.W23
