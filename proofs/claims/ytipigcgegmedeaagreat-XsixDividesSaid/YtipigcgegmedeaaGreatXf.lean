/- The first machine's laws (layer 21): what the bytes of some instructions are. -/
import Derived.Test.YtipigcgegmedeaaGreatXa
import Derived.Test.YtipigcgegmedeaaGreatHd
namespace Go.Proofs.YtipigcgegmedeaaGreat.W21
open Go Go.Proofs.YtipigcgegmedeaaGreat.Ev
noncomputable section
set_option maxRecDepth 1000000
def row (op kind : Int) (w : Bool) (d s size imm : Int) (l : List Int) : Row := ⟨.agg [.int .i64 op, .int .i64 kind, .bool w, .int .i64 d, .int .i64 s, .int .i64 size, .int .i64 imm], .tuple [.slice ⟨⟨0, 0⟩, 0, 0⟩ 1 l.length none, .bool true], [⟨l.length, [.ints .u8 (tbI l)], 0⟩]⟩
def rowB (S : Nat) (r : Row) : Bool := locB Tryz.prog 300 4 okl [] 30 11 [r.arg] [] 0 [⟨S, 0⟩] r.v (r.news.map some)
theorem rowB_ok {S : Nat} {r : Row} (h : true = rowB S r) : LocOk Tryz.prog 0 11 [r.arg] [] r.v (r.news.map some) := locB_ok okl_ok.symm tb_nil rfl h
def r0 : Row := row 1 0 true 0 0 4 0 [72, 199, 192, 0, 0, 0, 0]
theorem r0_ok : true = rowB 18 r0 := by kernel_rfl
def r1 : Row := row 2 7 false 1 2 0 0 [64, 57, 209]
theorem r1_ok : true = rowB 18 r1 := by kernel_rfl
def r2 : Row := row 2 7 true 1 2 0 0 [72, 57, 209]
theorem r2_ok : true = rowB 18 r2 := by kernel_rfl
def r3 : Row := row 14 3 false 0 0 1 7 [115, 7]
theorem r3_ok : true = rowB 20 r3 := by kernel_rfl
def r4 : Row := row 14 2 false 0 0 1 7 [114, 7]
theorem r4_ok : true = rowB 20 r4 := by kernel_rfl
def r5 : Row := row 14 5 false 0 0 1 7 [117, 7]
theorem r5_ok : true = rowB 20 r5 := by kernel_rfl
def r6 : Row := row 14 4 false 0 0 1 7 [116, 7]
theorem r6_ok : true = rowB 20 r6 := by kernel_rfl
def r7 : Row := row 14 7 false 0 0 1 7 [119, 7]
theorem r7_ok : true = rowB 20 r7 := by kernel_rfl
def r8 : Row := row 14 6 false 0 0 1 7 [118, 7]
theorem r8_ok : true = rowB 20 r8 := by kernel_rfl
def r9 : Row := row 14 13 false 0 0 1 7 [125, 7]
theorem r9_ok : true = rowB 20 r9 := by kernel_rfl
def r10 : Row := row 14 12 false 0 0 1 7 [124, 7]
theorem r10_ok : true = rowB 20 r10 := by kernel_rfl
def r11 : Row := row 14 15 false 0 0 1 7 [127, 7]
theorem r11_ok : true = rowB 20 r11 := by kernel_rfl
def r12 : Row := row 14 14 false 0 0 1 7 [126, 7]
theorem r12_ok : true = rowB 20 r12 := by kernel_rfl
def r13 : Row := row 3 1 true 0 0 0 1 [72, 129, 200, 1, 0, 0, 0]
theorem r13_ok : true = rowB 17 r13 := by kernel_rfl
def r14 : Row := row 3 1 true 0 0 0 2 [72, 129, 200, 2, 0, 0, 0]
theorem r14_ok : true = rowB 17 r14 := by kernel_rfl
def r15 : Row := row 3 1 true 0 0 0 4 [72, 129, 200, 4, 0, 0, 0]
theorem r15_ok : true = rowB 17 r15 := by kernel_rfl
def r16 : Row := row 3 1 true 0 0 0 8 [72, 129, 200, 8, 0, 0, 0]
theorem r16_ok : true = rowB 17 r16 := by kernel_rfl
def r17 : Row := row 3 1 true 0 0 0 16 [72, 129, 200, 16, 0, 0, 0]
theorem r17_ok : true = rowB 17 r17 := by kernel_rfl
def r18 : Row := row 3 1 true 0 0 0 32 [72, 129, 200, 32, 0, 0, 0]
theorem r18_ok : true = rowB 17 r18 := by kernel_rfl
def r19 : Row := row 3 1 true 0 0 0 64 [72, 129, 200, 64, 0, 0, 0]
theorem r19_ok : true = rowB 17 r19 := by kernel_rfl
def r20 : Row := row 3 1 true 0 0 0 128 [72, 129, 200, 128, 0, 0, 0]
theorem r20_ok : true = rowB 17 r20 := by kernel_rfl
def r21 : Row := row 3 1 true 0 0 0 256 [72, 129, 200, 0, 1, 0, 0]
theorem r21_ok : true = rowB 17 r21 := by kernel_rfl
def r22 : Row := row 3 1 true 0 0 0 512 [72, 129, 200, 0, 2, 0, 0]
theorem r22_ok : true = rowB 17 r22 := by kernel_rfl
def r23 : Row := row 17 0 false 0 0 0 0 [195]
theorem r23_ok : true = rowB 5 r23 := by kernel_rfl
def rows : List Row := [r0, r1, r2, r3, r4, r5, r6, r7, r8, r9, r10, r11, r12, r13, r14, r15, r16, r17, r18, r19, r20, r21, r22, r23]
theorem rows_ok : ∀ r ∈ rows, LocOk Tryz.prog 0 11 [r.arg] [] r.v (r.news.map some) := by
  intro r hr
  simp only [rows, List.mem_cons, List.not_mem_nil, or_false] at hr
  rcases hr with rfl | rfl | rfl | rfl | rfl | rfl | rfl | rfl | rfl | rfl | rfl | rfl | rfl | rfl | rfl | rfl | rfl | rfl | rfl | rfl | rfl | rfl | rfl | rfl
  · exact rowB_ok r0_ok
  · exact rowB_ok r1_ok
  · exact rowB_ok r2_ok
  · exact rowB_ok r3_ok
  · exact rowB_ok r4_ok
  · exact rowB_ok r5_ok
  · exact rowB_ok r6_ok
  · exact rowB_ok r7_ok
  · exact rowB_ok r8_ok
  · exact rowB_ok r9_ok
  · exact rowB_ok r10_ok
  · exact rowB_ok r11_ok
  · exact rowB_ok r12_ok
  · exact rowB_ok r13_ok
  · exact rowB_ok r14_ok
  · exact rowB_ok r15_ok
  · exact rowB_ok r16_ok
  · exact rowB_ok r17_ok
  · exact rowB_ok r18_ok
  · exact rowB_ok r19_ok
  · exact rowB_ok r20_ok
  · exact rowB_ok r21_ok
  · exact rowB_ok r22_ok
  · exact rowB_ok r23_ok
/-- A number into a register. -/
def byN (a : Int) (s : Nat) : Int := wrapQ .u8 (shrQ .u64 (wrapQ .u64 a) (.ofNat s))
def movA (d : Nat) (a : Int) : AV := .agg [.int .i64 1, .int .i64 0, .bool true, .int .i64 (.ofNat d), .int .i64 0, .int .i64 8, .int .i64 a]
def movL (r0 r1 : Int) (a : Int) : List Int := [r0, r1, byN a 0, byN a 8, byN a 16, byN a 24, byN a 32, byN a 40, byN a 48, byN a 56]
def movR (d : Nat) (a : Int) : Option ((AV × Blks) × List Bool) := flw3 (locQ Tryz.prog 300 4 okl [] 30 11 [movA d a] [] [⟨37, 0⟩]) [] []
def movV : AV := .tuple [.slice ⟨⟨0, 0⟩, 0, 0⟩ 1 10 none, .bool true]
theorem mov_loc {d : Nat} {r0 r1 : Int} {a : Int} (h1 : movR d a = some ((.tuple [.slice ⟨⟨37, 0⟩, 0, 0⟩ 1 10 none, .bool true], [some ⟨10, [.ints .u8 (colI (runB (movR d a) 0) 0)], 0⟩]), [])) (h2 : (List.range 10).map (tbI (movL r0 r1 a)) = (List.range 10).map (colI (runB (movR d a) 0) 0)) :
    LocOk Tryz.prog 0 11 [movA d a] [] movV [some ⟨10, [.ints .u8 (tbI (movL r0 r1 a))], 0⟩] := by
  refine loc_of_run okl_ok.symm tb_nil rfl h1 (fun t ht => by simp at ht) ⟨rfl, apartB_eq (by rfl), fun i x hi => ?_, fun i B0 hi => ?_⟩ rfl
  · cases i with
    | zero =>
      simp only [List.getElem?_cons_zero, Option.some.injEq] at hi
      subst hi
      exact ⟨_, rfl, covA_ca 3 _ _ rfl⟩
    | succ i => simp at hi
  · cases i with
    | zero =>
      simp only [List.getElem?_cons_zero, Option.some.injEq] at hi
      subst hi
      exact ⟨_, rfl, cb_ints (Nat.le_refl _) (map_range h2)⟩
    | succ i => simp at hi
theorem mov1_run (a : Int) : movR 1 a = some ((.tuple [.slice ⟨⟨37, 0⟩, 0, 0⟩ 1 10 none, .bool true], [some ⟨10, [.ints .u8 (colI (runB (movR 1 a) 0) 0)], 0⟩]), []) := by kernel_rfl
theorem mov1_col (a : Int) : (List.range 10).map (tbI (movL 72 185 a)) = (List.range 10).map (colI (runB (movR 1 a) 0) 0) := by kernel_rfl
theorem mov2_run (a : Int) : movR 2 a = some ((.tuple [.slice ⟨⟨37, 0⟩, 0, 0⟩ 1 10 none, .bool true], [some ⟨10, [.ints .u8 (colI (runB (movR 2 a) 0) 0)], 0⟩]), []) := by kernel_rfl
theorem mov2_col (a : Int) : (List.range 10).map (tbI (movL 72 186 a)) = (List.range 10).map (colI (runB (movR 2 a) 0) 0) := by kernel_rfl
theorem mov0_run (a : Int) : movR 0 a = some ((.tuple [.slice ⟨⟨37, 0⟩, 0, 0⟩ 1 10 none, .bool true], [some ⟨10, [.ints .u8 (colI (runB (movR 0 a) 0) 0)], 0⟩]), []) := by kernel_rfl
theorem mov0_col (a : Int) : (List.range 10).map (tbI (movL 72 184 a)) = (List.range 10).map (colI (runB (movR 0 a) 0) 0) := by kernel_rfl
theorem mov10_run (a : Int) : movR 10 a = some ((.tuple [.slice ⟨⟨37, 0⟩, 0, 0⟩ 1 10 none, .bool true], [some ⟨10, [.ints .u8 (colI (runB (movR 10 a) 0) 0)], 0⟩]), []) := by kernel_rfl
theorem mov10_col (a : Int) : (List.range 10).map (tbI (movL 73 186 a)) = (List.range 10).map (colI (runB (movR 10 a) 0) 0) := by kernel_rfl
def movG : AV → W3 Frm := fun x => match x with
  | .agg [.int .i64 o, .int .i64 k, .bool w, .int .i64 d, .int .i64 s, .int .i64 z, .int .i64 a] =>
    bif eqQ o 1 && eqQ k 0 && w && eqQ s 0 && eqQ z 8 then
      (bif eqQ d 1 then .val ⟨[], [movA 1 a], [], movV, [], [⟨10, [.ints .u8 (tbI (movL 72 185 a))], 0⟩], []⟩ else
      bif eqQ d 2 then .val ⟨[], [movA 2 a], [], movV, [], [⟨10, [.ints .u8 (tbI (movL 72 186 a))], 0⟩], []⟩ else
      bif eqQ d 0 then .val ⟨[], [movA 0 a], [], movV, [], [⟨10, [.ints .u8 (tbI (movL 72 184 a))], 0⟩], []⟩ else
      bif eqQ d 10 then .val ⟨[], [movA 10 a], [], movV, [], [⟨10, [.ints .u8 (tbI (movL 73 186 a))], 0⟩], []⟩ else .nil)
    else .nil
  | _ => .nil
theorem movG_ok (g : Gt) (x : AV) (q : Frm) (h : (movG x).den = some q) : FrmOk Tryz.prog 11 g [x] q := by
  unfold movG at h
  split at h
  · rename_i o k w d s z a
    cases hb : eqQ o 1 && eqQ k 0 && w && eqQ s 0 && eqQ z 8 with
    | false => rw [hb] at h; cases h
    | true =>
      rw [hb, cond_true] at h
      simp only [Bool.and_eq_true, eqQ_eq, beq_iff_eq] at hb
      obtain ⟨⟨⟨⟨rfl, rfl⟩, rfl⟩, rfl⟩, rfl⟩ := hb
      have key : ∀ (n : Nat), eqQ d (.ofNat n) = true → d = .ofNat n := fun n hn => by rw [eqQ_eq] at hn; exact eq_of_beq hn
      cases h1 : eqQ d 1 with
      | true =>
        rw [h1] at h; have h : some _ = some q := h; cases h
        cases key 1 h1
        exact frm_fresh (d := 1) rfl (mov_loc (mov1_run a) (mov1_col a))
      | false =>
        rw [h1, cond_false] at h
        cases h2 : eqQ d 2 with
        | true =>
          rw [h2] at h; have h : some _ = some q := h; cases h
          cases key 2 h2
          exact frm_fresh (d := 1) rfl (mov_loc (mov2_run a) (mov2_col a))
        | false =>
          rw [h2, cond_false] at h
          cases h3 : eqQ d 0 with
          | true =>
            rw [h3] at h; have h : some _ = some q := h; cases h
            cases key 0 h3
            exact frm_fresh (d := 1) rfl (mov_loc (mov0_run a) (mov0_col a))
          | false =>
            rw [h3, cond_false] at h
            cases h4 : eqQ d 10 with
            | true =>
              rw [h4] at h; have h : some _ = some q := h; cases h
              cases key 10 h4
              exact frm_fresh (d := 1) rfl (mov_loc (mov10_run a) (mov10_col a))
            | false => rw [h4] at h; cases h
  · cases h
def oneG : Gt → List AV → W3 Frm := rowsG rows movG
theorem one_sound {R : Type} : SoundSpec Tryz.prog 11 (enS (.frm oneG) : Ev.Spec R) := frm_sound ⟨Tryz.f11, Tryz.func11, by kernel_rfl, by kernel_rfl⟩ (rowsG_ok rows_ok movG_ok)
end
end Go.Proofs.YtipigcgegmedeaaGreat.W21
