/- math/bits.Div64: its contract. -/
import Derived.Test.YtipigcgegmedeaaGreatDc
namespace Go.Proofs.YtipigcgegmedeaaGreat.W21
open Go Go.RowKit Go.Proofs.YtipigcgegmedeaaGreat.Ev
set_option linter.unusedVariables false
noncomputable section
set_option maxRecDepth 1000000
def jD (Y S y1 y0 un z2 u z4 q r d u2 q' r' d' : Nat) : List (Nat × Jp) := [(17, ⟨[], ix1, 135, va1 Y S y1 y0 un z2 u z4 q r, [], .exit 0, mkTs 135 (ixF1.zip (vaF1 Y S y1 y0 un z2 u z4 d)), []⟩), (24, ⟨[], ix2, 135, va2 Y S y1 y0 z4 d u2 q' r', [], .exit 2, mkTs 135 (ixF2.zip (vaF2 Y S y1 y0 z4 d u2 d')), []⟩)]
abbrev TL : Tb := [(104, .frm lenG)]
theorem TL_ok {R : Type} : Sound Tryz.prog (BSs TL : Specs R) := tb_cons (.inl len_sound) tb_nil
def divX (h l y : Nat) (J : List (Nat × Jp)) : W3 (AV × Blks) := fnXQ Tryz.prog 300 1 okl TL 30 (jpQ m3 1 J) Tryz.f80 [iN h, iN l, iN y] [] []
def restQ (un u d Y : Nat) : Int := wrapQ .u64 (subQ (wrapQ .u64 (addQ (wrapQ .u64 (mulQ (.ofNat un) 4294967296)) (.ofNat u))) (wrapQ .u64 (mulQ (.ofNat d) (.ofNat Y))))
def sQ (y : Nat) : Int := wrapQ .u64 (wrapQ .i64 (subQ 64 (.ofNat (Nat.log2 y + 1))))
def yQ (y : Nat) (s : Int) : Int := shlQ .u64 (.ofNat y) s
def uQ (h l : Nat) (s : Int) : Int := orQ .u64 (shlQ .u64 (.ofNat h) s) (shrQ .u64 (.ofNat l) (wrapQ .u64 (subQ 64 s)))
def vs1 (h l y : Nat) (s : Int) : List AV := [.int .u64 (yQ y s), .int .u64 s, .int .u64 (shrQ .u64 (yQ y s) 32), .int .u64 (andQ .u64 (yQ y s) 4294967295), .int .u64 (uQ h l s), .int .u64 (shlQ .u64 (.ofNat l) s), .int .u64 (shrQ .u64 (shlQ .u64 (.ofNat l) s) 32), .int .u64 (andQ .u64 (shlQ .u64 (.ofNat l) s) 4294967295),
  .int .u64 (quoQ .u64 (uQ h l s) (shrQ .u64 (yQ y s) 32)), .int .u64 (wrapQ .u64 (subQ (uQ h l s) (wrapQ .u64 (mulQ (quoQ .u64 (uQ h l s) (shrQ .u64 (yQ y s) 32)) (shrQ .u64 (yQ y s) 32)))))]
def vs2 (Y S y1 y0 z4 d : Nat) (x : Int) : List AV := [iN Y, iN S, iN y1, iN y0, iN z4, iN d, .int .u64 x, .int .u64 (quoQ .u64 x (.ofNat y1)), .int .u64 (wrapQ .u64 (subQ x (wrapQ .u64 (mulQ (quoQ .u64 x (.ofNat y1)) (.ofNat y1)))))]
theorem div_run (h l y Y S y1 y0 un z2 u z4 q r d u2 q' r' d' : Nat) : flw3 (divX h l y (jD Y S y1 y0 un z2 u z4 q r d u2 q' r' d')) [(0, false), (0, false), (0, false), (0, true), (0, false), (1, false), (0, false), (0, false), (1, false), (0, true), (0, false), (0, true)] [] =
    some ((.tuple [.int .u64 (wrapQ .u64 (addQ (wrapQ .u64 (mulQ (.ofNat d) 4294967296)) (.ofNat d'))), .int .u64 (shrQ .u64 (restQ u2 z4 d' Y) (.ofNat S))], []),
      [covT [] (va2 Y S y1 y0 z4 d u2 q' r') [] (vs2 Y S y1 y0 z4 d (restQ un u d Y)) [], noB (eqQ (.ofNat y1) 0), covT [] (va1 Y S y1 y0 un z2 u z4 q r) [] (vs1 h l y (sQ y)) [], noB (eqQ (shrQ .u64 (yQ y (sQ y)) 32) 0), noB (ltQ (sQ y) 0), noB (ltQ (wrapQ .u64 (subQ 64 (sQ y))) 0), noB (ltQ (sQ y) 0), noB (ltQ (sQ y) 0),
       ltQ 0 (.ofNat y) && ltQ (.ofNat y) 18446744073709551616, noB (eqQ (.ofNat h) 0), noB (bif ltQ (.ofNat h) (.ofNat y) then false else true), noB (eqQ (.ofNat y) 0)]) := by kernel_rfl
theorem div_zero (l y : Nat) : flw3 (divX 0 l y []) [(0, false), (0, false), (1, false), (0, false)] [] = some ((.tuple [.int .u64 (quoQ .u64 (.ofNat l) (.ofNat y)), .int .u64 (remQ (.ofNat l) (.ofNat y))], []), [noB (eqQ (.ofNat y) 0), noB (eqQ (.ofNat y) 0), noB (bif ltQ (.ofNat 0) (.ofNat y) then false else true), noB (eqQ (.ofNat y) 0)]) := by kernel_rfl
theorem ne_zero {n : Nat} (h : 0 < n) : noB (eqQ (.ofNat n) 0) = true := by
  have : eqQ (.ofNat n) 0 = decide (n = 0) := eqQ_nat n 0
  rw [this, decide_eq_false (by omega)]; rfl
theorem not_neg (n : Nat) : noB (ltQ (.ofNat n) 0) = true := by
  have : ltQ (.ofNat n) 0 = decide (n < 0) := ltQ_nat n 0
  rw [this, decide_eq_false (by omega)]; rfl
theorem less_t {a b : Nat} (h : a < b) : noB (bif ltQ (.ofNat a) (.ofNat b) then false else true) = true := by
  rw [ltQ_nat, decide_eq_true h]; rfl
theorem quo_n {a b : Nat} (h : a < 18446744073709551616) : quoQ .u64 (.ofNat a) (.ofNat b) = .ofNat (a / b) := by
  show wrapQ .u64 (.ofNat (a / b)) = _
  exact w64 (Nat.lt_of_le_of_lt (Nat.div_le_self a b) h)
theorem log_lt {y : Nat} (h0 : 0 < y) (hy : y < 18446744073709551616) : y.log2 < 64 := (Nat.log2_lt (Nat.ne_of_gt h0)).2 hy
theorem wi (z : Nat) (hz : z < 128) : wrapQ .i64 (.ofNat z) = .ofNat z := by
  rw [wrapQ_eq, wrap_i64]
  have : (Int.ofNat z) % 18446744073709551616 = z := Int.emod_eq_of_lt (by simp) (by simp only [Int.ofNat_eq_natCast]; omega)
  rw [this, if_neg (by omega)]; rfl
theorem s_n {y : Nat} (h0 : 0 < y) (hy : y < 18446744073709551616) : sQ y = .ofNat (63 - y.log2) := by
  have hL := log_lt h0 hy
  unfold sQ
  have e : subQ 64 (.ofNat (y.log2 + 1)) = .ofNat (63 - y.log2) := by
    have := subN (a := 64) (c := y.log2 + 1) (by omega)
    have e2 : 64 - (y.log2 + 1) = 63 - y.log2 := by omega
    rw [e2] at this
    exact this
  rw [e, wi _ (by omega)]
  exact w64 (by omega)
theorem shr32 (x : Nat) : shrQ .u64 (.ofNat x) 32 = .ofNat (x / 4294967296) := shr64 x (s := 32) 4294967296 (by decide) (by decide)
theorem mask32 {x : Nat} (h : x < 18446744073709551616) : andQ .u64 (.ofNat x) 4294967295 = .ofNat (x % 4294967296) := by
  have : andQ .u64 (.ofNat x) (.ofNat 4294967295) = .ofNat (x % 4294967296) := by rw [and64, land32, m1 (by omega)]
  exact this
theorem pow_le {y s p : Nat} (h0 : 0 < y) (hy : y < 18446744073709551616) (hs : s = 63 - y.log2) (hp : p = 2 ^ s) : 9223372036854775808 ≤ y * p ∧ y * p < 18446744073709551616 := by
  have hL := log_lt h0 hy
  have hp0 : 0 < p := by rw [hp]; exact Nat.pow_pos (by decide)
  have a1 : 2 ^ y.log2 ≤ y := (Nat.le_log2 (Nat.ne_of_gt h0)).1 (Nat.le_refl _)
  have a2 : y < 2 ^ (y.log2 + 1) := (Nat.log2_lt (Nat.ne_of_gt h0)).1 (Nat.lt_succ_self _)
  have b1 : 2 ^ y.log2 * p = 9223372036854775808 := by rw [hp, ← Nat.pow_add, hs, show y.log2 + (63 - y.log2) = 63 by omega]
  have b2 : 2 ^ (y.log2 + 1) * p = 18446744073709551616 := by rw [hp, ← Nat.pow_add, hs, show y.log2 + 1 + (63 - y.log2) = 64 by omega]
  exact ⟨b1 ▸ Nat.mul_le_mul_right p a1, b2 ▸ Nat.mul_lt_mul_of_pos_right a2 hp0⟩
theorem div_loc0 {l y : Nat} (h0 : 0 < y) (hl : l < 18446744073709551616) : LocOk Tryz.prog 0 80 [iN 0, iN l, iN y] [] (.tuple [iN (l / y), iN (l % y)]) [] := by
  have h := div_zero l y
  rw [quo_n hl] at h
  refine fnX_run okl_ok.symm TL_ok Tryz.func80 (jp_ok (l := []) fun x hx p hp => by simp at hp) (fun V => jp_ref []) h (AllT.mem ⟨ne_zero h0, ne_zero h0, less_t h0, ne_zero h0, trivial⟩) (cov_of rfl rfl ?_ rfl) rfl
  exact .tuple _ _ rfl fun i a b => match i, a, b with
    | 0, _, _ => .int _ _
    | 1, _, _ => .int _ _
    | i + 2, a, _ => absurd a (by simp)
theorem eY_n (Y : Nat) : Y / 4294967296 * 4294967296 + Y % 4294967296 = Y := by omega
theorem y1_pos {Y : Nat} (h : 9223372036854775808 ≤ Y) : 0 < Y / 4294967296 := by omega
theorem dd_lt {a b : Nat} (ha : a < 4294967296) (hb : b < 4294967296) : a * 4294967296 + b < 18446744073709551616 := by omega
theorem in_y {y : Nat} (h0 : 0 < y) (hy : y < 18446744073709551616) : (ltQ 0 (.ofNat y) && ltQ (.ofNat y) 18446744073709551616) = true := by
  rw [Bool.and_eq_true, ltQ_iff, ltQ_iff]
  exact ⟨by simp only [Int.ofNat_eq_natCast]; omega, by simp only [Int.ofNat_eq_natCast]; omega⟩
theorem div_loc1 {h l y : Nat} (hz : 0 < h) (hh : h < y) (hl : l < 18446744073709551616) (hy : y < 18446744073709551616) : LocOk Tryz.prog 0 80 [iN h, iN l, iN y] [] (.tuple [iN ((h * 18446744073709551616 + l) / y), iN ((h * 18446744073709551616 + l) % y)]) [] := by
  have h0 : 0 < y := Nat.lt_trans hz hh
  have hL := log_lt h0 hy
  have es := s_n h0 hy
  obtain ⟨s, hs⟩ : ∃ s, s = 63 - y.log2 := ⟨_, rfl⟩
  rw [← hs] at es
  obtain ⟨p, hp⟩ : ∃ p, p = 2 ^ s := ⟨_, rfl⟩
  have hs63 : s ≤ 63 := hs ▸ Nat.sub_le _ _
  have hs64 : s ≤ 64 := Nat.le_trans hs63 (by decide)
  obtain ⟨bY1, bY2⟩ := pow_le h0 hy hs hp
  obtain ⟨Y, hY⟩ : ∃ Y, Y = y * p := ⟨_, rfl⟩
  rw [← hY] at bY1 bY2
  have hp0 : 0 < p := by rw [hp]; exact Nat.pow_pos (by decide)
  have hpp : p * 2 ^ (64 - s) = 18446744073709551616 := by rw [hp, ← Nat.pow_add, show s + (64 - s) = 64 from Nat.add_sub_cancel' hs64]
  obtain ⟨t, ht⟩ : ∃ t, t = l / 2 ^ (64 - s) := ⟨_, rfl⟩
  have hlo : t < p := by
    rw [ht]
    refine Nat.div_lt_of_lt_mul ?_
    rw [Nat.mul_comm, hpp]; exact hl
  obtain ⟨un, hun⟩ : ∃ un, un = h * p + t := ⟨_, rfl⟩
  obtain ⟨z, hzz⟩ : ∃ z, z = l * p % 18446744073709551616 := ⟨_, rfl⟩
  have bz : z < 18446744073709551616 := by rw [hzz]; exact Nat.mod_lt _ (by decide)
  obtain ⟨d1, hd1⟩ : ∃ d, d = (un * 4294967296 + z / 4294967296) / Y := ⟨_, rfl⟩
  obtain ⟨u2, hu2⟩ : ∃ d, d = (un * 4294967296 + z / 4294967296) % Y := ⟨_, rfl⟩
  obtain ⟨d2, hd2⟩ : ∃ d, d = (u2 * 4294967296 + z % 4294967296) / Y := ⟨_, rfl⟩
  obtain ⟨R, hR⟩ : ∃ d, d = (u2 * 4294967296 + z % 4294967296) % Y := ⟨_, rfl⟩
  have hun' : un = h * p + l / 2 ^ (64 - s) := by rw [hun, ht]
  obtain ⟨f1, f2, f3, f4⟩ := digits hp hs63 hl hh hY hun' hzz hd1 hu2 hd2 hR
  have bz1 : z / 4294967296 < 4294967296 := Nat.div_lt_of_lt_mul bz
  have bz2 : z % 4294967296 < 4294967296 := Nat.mod_lt _ (by decide)
  have eY := eY_n Y
  obtain ⟨g1, g2⟩ := dig_start bY1 bY2 bz1 f1
  obtain ⟨k1, k2⟩ := dig_start bY1 bY2 bz2 f2
  have ed1 : dig (Y / 4294967296) (Y % 4294967296) un (z / 4294967296) = d1 := by unfold dig; rw [eY]; exact hd1.symm
  have ed2 : dig (Y / 4294967296) (Y % 4294967296) u2 (z % 4294967296) = d2 := by unfold dig; rw [eY]; exact hd2.symm
  have L1 := fun (a b : Nat) => loop1 (Y := Y) (S := s) (z2 := a) (z4 := b) g1 g2
  have L2 := fun (a b : Nat) => loop2 (Y := Y) (S := s) (z5 := a) k1 k2
  rw [ed1] at L1
  rw [ed2] at L2
  have hY0 : 0 < Y := Nat.lt_of_lt_of_le (by decide) bY1
  have y1pos := y1_pos bY1
  have unlt : un < 18446744073709551616 := Nat.lt_trans f1 bY2
  have u2lt : u2 < 18446744073709551616 := Nat.lt_trans f2 bY2
  have e1 : yQ y (.ofNat s) = .ofNat Y := by
    unfold yQ
    rw [shl64 y p hp hs64, ← hY, m1 bY2]
  have hhp : h * p < 18446744073709551616 := Nat.lt_of_le_of_lt (by rw [hun]; exact Nat.le_add_right _ _) unlt
  have e6 : wrapQ .u64 (subQ 64 (.ofNat s)) = .ofNat (64 - s) := by
    have : subQ 64 (.ofNat s) = .ofNat (64 - s) := subN (a := 64) hs64
    rw [this]; exact w64 (Nat.lt_of_le_of_lt (Nat.sub_le _ _) (by decide))
  have e2 : uQ h l (.ofNat s) = .ofNat un := by
    unfold uQ
    rw [shl64 h p hp hs64, m1 hhp, e6, shr64 l (2 ^ (64 - s)) rfl (Nat.sub_le _ _), ← ht, or64, Nat.or_comm, or_add' s hp h hlo, ← hun, m1 unlt]
  have e3 : shlQ .u64 (.ofNat l) (.ofNat s) = .ofNat z := by rw [shl64 l p hp hs64, ← hzz]
  have e4 : ∀ {v c : Nat}, v < 18446744073709551616 → quoQ .u64 (.ofNat v) (.ofNat c) = .ofNat (v / c) ∧ wrapQ .u64 (subQ (.ofNat v) (wrapQ .u64 (mulQ (.ofNat (v / c)) (.ofNat c)))) = .ofNat (v - v / c * c) := fun {v c} hv => by
    have hle := Nat.div_mul_le_self v c
    refine ⟨quo_n hv, ?_⟩
    have : mulQ (.ofNat (v / c)) (.ofNat c) = .ofNat (v / c * c) := rfl
    rw [this, w64 (Nat.lt_of_le_of_lt hle hv), subN hle]
    exact w64 (Nat.lt_of_le_of_lt (Nat.sub_le _ _) hv)
  have x1 : restQ un (z / 4294967296) d1 Y = .ofNat u2 := by rw [hu2]; exact rest_n bY2 hd1 hY0
  have x2 : restQ u2 (z % 4294967296) d2 Y = .ofNat R := by rw [hR]; exact rest_n bY2 hd2 hY0
  have c1 : vs1 h l y (.ofNat s) = va1 Y s (Y / 4294967296) (Y % 4294967296) un z (z / 4294967296) (z % 4294967296) (un / (Y / 4294967296)) (un - un / (Y / 4294967296) * (Y / 4294967296)) := by
    unfold vs1
    rw [e1, e2, e3, shr32, shr32, mask32 bY2, mask32 bz, (e4 unlt).1, (e4 unlt).2]
    rfl
  have c2 : vs2 Y s (Y / 4294967296) (Y % 4294967296) (z % 4294967296) d1 (.ofNat u2) = va2 Y s (Y / 4294967296) (Y % 4294967296) (z % 4294967296) d1 u2 (u2 / (Y / 4294967296)) (u2 - u2 / (Y / 4294967296) * (Y / 4294967296)) := by
    unfold vs2
    rw [(e4 u2lt).1, (e4 u2lt).2]
    rfl
  have run := div_run h l y Y s (Y / 4294967296) (Y % 4294967296) un z (z / 4294967296) (z % 4294967296) (un / (Y / 4294967296)) (un - un / (Y / 4294967296) * (Y / 4294967296)) d1 u2 (u2 / (Y / 4294967296)) (u2 - u2 / (Y / 4294967296) * (Y / 4294967296)) d2
  rw [es, x1, x2, e1, shr32, e6, c1, c2] at run
  have v1 : wrapQ .u64 (addQ (wrapQ .u64 (mulQ (.ofNat d1) 4294967296)) (.ofNat d2)) = .ofNat ((h * 18446744073709551616 + l) / y) := by
    have b1 : d1 < 4294967296 := ed1 ▸ dig_lt bz1 (by rw [eY]; exact f1)
    have b2 : d2 < 4294967296 := ed2 ▸ dig_lt bz2 (by rw [eY]; exact f2)
    have a1 : wrapQ .u64 (mulQ (.ofNat d1) 4294967296) = .ofNat (d1 * 4294967296) := w64 (Nat.lt_of_le_of_lt (Nat.le_add_right _ _) (dd_lt b1 b2))
    rw [a1, ← f3]
    exact w64 (dd_lt b1 b2)
  have v2 : shrQ .u64 (.ofNat R) (.ofNat s) = .ofNat ((h * 18446744073709551616 + l) % y) := by rw [shr64 R p hp hs64, f4]
  rw [v1, v2] at run
  have hin := in_y h0 hy
  refine fnX_run okl_ok.symm TL_ok Tryz.func80 (jp_ok fun x hx q hq hf => ?_) (fun V => jp_ref _) run (AllT.mem ⟨covT_true (cov_flat (d := 1) rfl), ne_zero y1pos, covT_true (cov_flat (d := 1) rfl), ne_zero y1pos, not_neg _, not_neg _, not_neg _, not_neg _, hin, ne_zero hz, less_t hh, ne_zero h0, trivial⟩) (cov_of rfl rfl ?_ rfl) rfl
  · rw [lps] at hx
    simp only [List.mem_cons, List.not_mem_nil, or_false] at hx
    simp only [jD, List.mem_cons, List.not_mem_nil, or_false] at hq
    rcases hx with rfl | rfl <;> rcases hq with rfl | rfl
    · exact ⟨L1 _ _, rfl⟩
    · rw [lp1_fr] at hf; exact absurd (show (24 : Nat) = 17 from hf) (by decide)
    · rw [lp2_fr] at hf; exact absurd (show (17 : Nat) = 24 from hf) (by decide)
    · exact ⟨L2 _ 0, rfl⟩
  · exact .tuple _ _ rfl fun i a b => match i, a, b with
      | 0, _, _ => .int _ _
      | 1, _, _ => .int _ _
      | i + 2, a, _ => absurd a (by simp)
/-- The quotient and the rest, so that no run reckons them. -/
def qS (h l y : Int) : Nat := Classical.choose (⟨_, rfl⟩ : ∃ q : Nat, q = (natQ h * 18446744073709551616 + natQ l) / natQ y)
def rS (h l y : Int) : Nat := Classical.choose (⟨_, rfl⟩ : ∃ q : Nat, q = (natQ h * 18446744073709551616 + natQ l) % natQ y)
theorem qS_eq (h l y : Int) : qS h l y = (natQ h * 18446744073709551616 + natQ l) / natQ y := Classical.choose_spec (⟨_, rfl⟩ : ∃ q : Nat, q = (natQ h * 18446744073709551616 + natQ l) / natQ y)
theorem rS_eq (h l y : Int) : rS h l y = (natQ h * 18446744073709551616 + natQ l) % natQ y := Classical.choose_spec (⟨_, rfl⟩ : ∃ q : Nat, q = (natQ h * 18446744073709551616 + natQ l) % natQ y)
/-- Of two words by a greater one. -/
def divG : Gt → List AV → W3 Frm := fun _ args => match args with
  | [.int .u64 h, .int .u64 l, .int .u64 y] => .br (ltQ h y) (.br (bif ltQ h 0 then false else bif ltQ l 0 then false else ltQ l 18446744073709551616 && ltQ y 18446744073709551616)
      (.val ⟨[], [.int .u64 h, .int .u64 l, .int .u64 y], [], .tuple [.int .u64 (.ofNat (qS h l y)), .int .u64 (.ofNat (rS h l y))], [], [], []⟩) .nil) .nil
  | _ => .nil
theorem frm_flat {f : FuncId} {g : Gt} {xs : List AV} {v : AV} {d : Nat} (hx : xs.all (flat d) = true) (h : LocOk Tryz.prog 0 f xs [] v []) : FrmOk Tryz.prog f g xs ⟨[], xs, [], v, [], [], []⟩ :=
  ⟨h, rfl, rfl, rfl, fun i j k h => by simp at h, rfl, fun i a b => frm_fresh.flat_ca d _ (List.all_eq_true.1 hx _ (List.getElem_mem _)), fun i n h => by simp at h, fun i h => by simp at h, fun i n B B0 h => by simp at h⟩
theorem div_sound {R : Type} : SoundSpec Tryz.prog 80 (enS (.frm divG) : Ev.Spec R) := by
  refine frm_sound ⟨Tryz.f80, Tryz.func80, by kernel_rfl, by kernel_rfl⟩ fun g args q hq => ?_
  unfold divG at hq
  split at hq
  · rename_i h l y
    have hq : (bif ltQ h y then (bif (bif ltQ h 0 then false else bif ltQ l 0 then false else ltQ l 18446744073709551616 && ltQ y 18446744073709551616) then some _ else none) else none) = some q := hq
    cases b1 : ltQ h y with
    | false => rw [b1] at hq; cases hq
    | true =>
      rw [b1, cond_true] at hq
      cases b2 : ltQ h 0 with
      | true => rw [b2] at hq; cases hq
      | false =>
        cases b3 : ltQ l 0 with
        | true => rw [b2, b3] at hq; cases hq
        | false =>
          rw [b2, b3] at hq
          cases b4 : ltQ l 18446744073709551616 && ltQ y 18446744073709551616 with
          | false => rw [b4] at hq; cases hq
          | true =>
            rw [b4] at hq
            simp only [cond_false, cond_true, Option.some.injEq] at hq
            subst hq
            rw [Bool.and_eq_true, ltQ_iff, ltQ_iff] at b4
            rw [ltQ_iff] at b1
            rw [ltQ_eq, decide_eq_false_iff_not] at b2 b3
            obtain ⟨h, rfl⟩ := Int.eq_ofNat_of_zero_le (Int.not_lt.1 b2)
            obtain ⟨l, rfl⟩ := Int.eq_ofNat_of_zero_le (Int.not_lt.1 b3)
            obtain ⟨y, rfl⟩ := Int.eq_ofNat_of_zero_le (a := y) (by omega)
            refine frm_flat (d := 1) rfl ?_
            rw [qS_eq, rS_eq]
            by_cases hz : h = 0
            · subst hz
              have := div_loc0 (l := l) (y := y) (by omega) (by omega)
              have e : natQ ((0 : Nat) : Int) * 18446744073709551616 + natQ (l : Int) = l := by
                show 0 * 18446744073709551616 + l = l
                omega
              rw [e]
              exact this
            · exact div_loc1 (h := h) (l := l) (y := y) (by omega) (by omega) (by omega) (by omega)
  · cases hq
end
end Go.Proofs.YtipigcgegmedeaaGreat.W21
