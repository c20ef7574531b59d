/- math/bits.Div64: the quotient and the rest. -/
import Derived.Test.YtipigcgegmedeaaGreatDb
import Derived.Test.YtipigcgegmedeaaGreatXh
namespace Go.Proofs.YtipigcgegmedeaaGreat.W21
open Go Go.RowKit Go.Proofs.YtipigcgegmedeaaGreat.Ev
set_option linter.unusedVariables false
noncomputable section
/-! ### Plain numbers -/
theorem lt_a {un y1 y0 : Nat} (h : un < y1 * 4294967296 + y0) (h0 : y0 < 4294967296) (h1 : 2147483648 ≤ y1) : un < y1 * 4294967298 := by
  have e : y1 * 4294967298 = y1 * 4294967296 + y1 * 2 := (Nat.mul_add y1 4294967296 2)
  rw [e]
  exact Nat.lt_of_lt_of_le h (Nat.add_le_add_left (by omega) _)
theorem lt_b {un u t r y1 k : Nat} (h : t + r = un) (h0 : r < y1) (h1 : u < 4294967296) : un * 4294967296 + u < (t + y1) * 4294967296 + k := by omega
theorem dig_start {Y un u : Nat} (h1 : 9223372036854775808 ≤ Y) (h2 : Y < 18446744073709551616) (hu : u < 4294967296) (hun : un < Y) : Dig (Y / 4294967296) (Y % 4294967296) un u (un / (Y / 4294967296)) (un - un / (Y / 4294967296) * (Y / 4294967296)) ∧ un - un / (Y / 4294967296) * (Y / 4294967296) < 4294967296 := by
  have e1 : Y / 4294967296 * 4294967296 + Y % 4294967296 = Y := by omega
  have g1 : Y / 4294967296 < 4294967296 := by omega
  have g2 : 2147483648 ≤ Y / 4294967296 := by omega
  have g3 : Y % 4294967296 < 4294967296 := by omega
  generalize Y / 4294967296 = y1 at *
  generalize Y % 4294967296 = y0 at *
  subst e1
  have hp : 0 < y1 := by omega
  have m1 := Nat.div_add_mod un y1
  have m2 := Nat.mod_lt un hp
  rw [Nat.mul_comm] at m1
  have hq : un / y1 ≤ 4294967297 := by
    have : un / y1 < 4294967298 := Nat.div_lt_of_lt_mul (lt_a hun g3 g2)
    exact Nat.le_of_lt_succ this
  generalize un / y1 = q at *
  generalize un % y1 = r' at *
  have hr' : r' < y1 := m2
  have er : un - q * y1 = r' := by rw [← m1, Nat.add_sub_cancel_left]
  rw [er]
  refine ⟨⟨g1, g3, hu, hun, m1, hq, ?_⟩, Nat.lt_trans hr' g1⟩
  have : (un * 4294967296 + u) / (y1 * 4294967296 + y0) < q + 1 := by
    refine Nat.div_lt_of_lt_mul ?_
    rw [Nat.mul_comm (y1 * 4294967296 + y0) (q + 1), dig_prod, Nat.add_mul, Nat.one_mul]
    exact lt_b m1 hr' hu
  exact Nat.le_of_lt_succ this
/-- The rest of a digit, reckoned modulo 2^64. -/
theorem rest_n {un u d Y : Nat} (hY : Y < 18446744073709551616) (hd : d = (un * 4294967296 + u) / Y) (h0 : 0 < Y) :
    wrapQ .u64 (subQ (wrapQ .u64 (addQ (wrapQ .u64 (mulQ (.ofNat un) 4294967296)) (.ofNat u))) (wrapQ .u64 (mulQ (.ofNat d) (.ofNat Y)))) = .ofNat ((un * 4294967296 + u) % Y) := by
  have e := Nat.div_add_mod (un * 4294967296 + u) Y
  have l := Nat.mod_lt (un * 4294967296 + u) h0
  rw [← hd, Nat.mul_comm] at e
  generalize (un * 4294967296 + u) % Y = m at *
  show wrapQ .u64 (subQ (wrapQ .u64 (addQ (wrapQ .u64 (.ofNat (un * 4294967296))) (.ofNat u))) (wrapQ .u64 (.ofNat (d * Y)))) = .ofNat m
  generalize d * Y = t at *
  simp only [wrapQ_eq, subQ_eq, addQ_eq, wrap_u64, Int.ofNat_eq_natCast]
  omega
theorem key_n {h l p a z q : Nat} (e : 18446744073709551616 * a + z = l * p) (hq : q = h * p + a) : (h * 18446744073709551616 + l) * p = q * 18446744073709551616 + z := by
  subst hq
  rw [Nat.add_mul, Nat.add_mul, Nat.mul_right_comm, ← e]
  omega
theorem all_n {un u2 z t1 t2 R : Nat} (s1 : t1 + u2 = un * 4294967296 + z / 4294967296) (s2 : t2 + R = u2 * 4294967296 + z % 4294967296) : un * 18446744073709551616 + z = t1 * 4294967296 + t2 + R := by omega
theorem fin_n {Q W y p R : Nat} (hp0 : 0 < p) (hy0 : 0 < y) (hRl : R < y * p) (all : W * p = Q * y * p + R) : Q = W / y ∧ R / p = W % y := by
  have hge : Q * y ≤ W := by
    refine Nat.le_of_mul_le_mul_right (c := p) ?_ hp0
    rw [all]; exact Nat.le_add_right _ _
  have hRp : R = (W - Q * y) * p := by rw [Nat.sub_mul, all, Nat.add_sub_cancel_left]
  have hlt : W - Q * y < y := by
    refine Nat.lt_of_mul_lt_mul_right (a := p) ?_
    rw [← hRp]; exact hRl
  have hW : W = y * Q + (W - Q * y) := by rw [Nat.mul_comm y Q]; exact (Nat.add_sub_cancel' hge).symm
  refine ⟨?_, ?_⟩
  · rw [hW, Nat.mul_add_div hy0, Nat.div_eq_of_lt hlt]; rfl
  · rw [hRp, Nat.mul_div_cancel _ hp0]
    conv => rhs; rw [hW]
    rw [Nat.mul_add_mod, Nat.mod_eq_of_lt hlt]
theorem digits {h l y s p Y un z d1 u2 d2 R : Nat} (hp : p = 2 ^ s) (hs : s ≤ 63) (hl : l < 18446744073709551616) (hh : h < y) (hY : Y = y * p) (hun : un = h * p + l / 2 ^ (64 - s)) (hz : z = l * p % 18446744073709551616)
    (hd1 : d1 = (un * 4294967296 + z / 4294967296) / Y) (hu2 : u2 = (un * 4294967296 + z / 4294967296) % Y) (hd2 : d2 = (u2 * 4294967296 + z % 4294967296) / Y) (hR : R = (u2 * 4294967296 + z % 4294967296) % Y) :
    un < Y ∧ u2 < Y ∧ d1 * 4294967296 + d2 = (h * 18446744073709551616 + l) / y ∧ R / p = (h * 18446744073709551616 + l) % y := by
  have hp0 : 0 < p := by rw [hp]; exact Nat.pow_pos (by decide)
  have hy0 : 0 < y := Nat.lt_of_le_of_lt (Nat.zero_le _) hh
  have hY0 : 0 < Y := by rw [hY]; exact Nat.mul_pos hy0 hp0
  have hpp : p * 2 ^ (64 - s) = 18446744073709551616 := by
    rw [hp, ← Nat.pow_add, show s + (64 - s) = 64 by omega]
  have hlo : l / 2 ^ (64 - s) < p := by
    refine Nat.div_lt_of_lt_mul ?_
    rw [Nat.mul_comm, hpp]; exact hl
  have e2 : l * p / 18446744073709551616 = l / 2 ^ (64 - s) := by
    rw [← hpp, Nat.mul_comm l p]
    exact Nat.mul_div_mul_left _ _ hp0
  have hun' : un < Y := by
    have : (h + 1) * p ≤ y * p := Nat.mul_le_mul_right p hh
    rw [Nat.add_mul, Nat.one_mul] at this
    rw [hY, hun]
    exact Nat.lt_of_lt_of_le (Nat.add_lt_add_left hlo _) this
  have hu2' : u2 < Y := by rw [hu2]; exact Nat.mod_lt _ hY0
  have key : (h * 18446744073709551616 + l) * p = un * 18446744073709551616 + z := by
    have e1 := Nat.div_add_mod (l * p) 18446744073709551616
    rw [e2, ← hz] at e1
    exact key_n e1 hun
  have s1 : d1 * Y + u2 = un * 4294967296 + z / 4294967296 := by
    have e := Nat.div_add_mod (un * 4294967296 + z / 4294967296) Y
    rw [← hd1, ← hu2, Nat.mul_comm] at e
    exact e
  have s2 : d2 * Y + R = u2 * 4294967296 + z % 4294967296 := by
    have e := Nat.div_add_mod (u2 * 4294967296 + z % 4294967296) Y
    rw [← hd2, ← hR, Nat.mul_comm] at e
    exact e
  have hRl : R < Y := by rw [hR]; exact Nat.mod_lt _ hY0
  have hQ : (d1 * 4294967296 + d2) * Y = (d1 * 4294967296 + d2) * y * p := by rw [hY, Nat.mul_assoc]
  have all : (h * 18446744073709551616 + l) * p = (d1 * 4294967296 + d2) * y * p + R := by
    rw [key, all_n s1 s2, ← hQ, Nat.add_mul, Nat.mul_right_comm]
  obtain ⟨f1, f2⟩ := fin_n hp0 hy0 (hY ▸ hRl) all
  exact ⟨hun', hu2', f1, f2⟩
end
end Go.Proofs.YtipigcgegmedeaaGreat.W21
