/- The evaluator's store and a world of the model: when they are one, under a naming of the blocks. -/
import Derived.Test.YtipigcgegmedeaaGreatEa
namespace Go.Proofs.YtipigcgegmedeaaGreat.Ev
open Go
set_option linter.unusedVariables false
set_option linter.unusedSimpArgs false

/-- Where a name's block lies: the block, the first cell, the cells of a row, the cells of the block. -/
structure Loc where
  b : Nat
  o : Nat
  s : Nat
  n : Nat
abbrev Nam := Nm → Option Loc
def Nam.le (m m' : Nam) : Prop := ∀ n L, m n = some L → m' n = some L
theorem Nam.le_refl (m : Nam) : m.le m := fun _ _ h => h
theorem Nam.le_trans {a b c : Nam} (h : a.le b) (g : b.le c) : a.le c := fun n L e => g n L (h n L e)

inductive VR (m : Nam) : AV → Value → Prop where
  | undef (v) : VR m .undef v
  | bool (b) : VR m (.bool b) (.bool b)
  | int (k n) : VR m (.int k n) (.int k n)
  | str (s) : VR m (.str s) (.string ⟨⟨s⟩⟩)
  | nilp : VR m (.ptr none) (.pointer none)
  | ptr (a : Adr) (L : Loc) : m a.nm = some L → VR m (.ptr (some a)) (.pointer (some ⟨L.b, L.o + a.row * L.s + a.col, none⟩))
  | nils : VR m .nils (.slice none 0 0)
  | slice (a : Adr) (L : Loc) (es l : Nat) (c : Option Nat) (c' : Nat) : m a.nm = some L → l ≤ c.getD l → c.getD l ≤ c' → L.o + a.row * L.s + a.col + c' * es ≤ L.n → VR m (.slice a es l c) (.slice (some ⟨L.b, L.o + a.row * L.s + a.col, none⟩) l c')
  | eslice (x c) : VR m .eslice (.slice x 0 c)
  | agg (cs : List AV) (xs : List Value) : cs.length = xs.length → (∀ i (h : i < cs.length) (h' : i < xs.length), VR m cs[i] xs[i]) → VR m (.agg cs) (.agg ⟨xs⟩)
  | tuple (cs : List AV) (xs : List Value) : cs.length = xs.length → (∀ i (h : i < cs.length) (h' : i < xs.length), VR m cs[i] xs[i]) → VR m (.tuple cs) (.tuple ⟨xs⟩)
  | iface (t v x) : VR m v x → VR m (.iface t v) (.iface t x)
  | nilIface : VR m .nilIface .nilIface
  | nilFunc : VR m .nilFunc .nilFunc
  | func (f) : VR m (.func f) (.func (.func f) #[] #[])
  | cell (x) : x.oneCell' = true → VR m .cell x
theorem oneCell_ne {z : Value} (h : z.oneCell' = true) : (∀ c, z ≠ .agg c) ∧ ∀ c, z ≠ .tuple c := by cases z <;> simp [Value.oneCell'] at h ⊢

def CR (m : Nam) (cs : List AV) (xs : List Value) : Prop := cs.length = xs.length ∧ ∀ i (h : i < cs.length) (h' : i < xs.length), VR m cs[i] xs[i]

theorem VR.mono {m m' : Nam} (hm : m.le m') {v : AV} {x : Value} (h : VR m v x) : VR m' v x := by
  induction h with
  | undef v => exact .undef v
  | bool b => exact .bool b
  | int k n => exact .int k n
  | str s => exact .str s
  | nilp => exact .nilp
  | ptr a L h => exact .ptr a L (hm _ _ h)
  | nils => exact .nils
  | slice a L es l c c' h hl hc hn => exact .slice a L es l c c' (hm _ _ h) hl hc hn
  | eslice x c => exact .eslice x c
  | agg cs xs hl h ih => exact .agg cs xs hl ih
  | tuple cs xs hl h ih => exact .tuple cs xs hl ih
  | iface t v x h ih => exact .iface t v x ih
  | nilIface => exact .nilIface
  | nilFunc => exact .nilFunc
  | func f => exact .func f
  | cell x h => exact .cell x h
theorem CR.mono {m m' : Nam} (hm : m.le m') {cs : List AV} {xs : List Value} (h : CR m cs xs) : CR m' cs xs := ⟨h.1, fun i a b => (h.2 i a b).mono hm⟩

theorem VR_ofV (m : Nam) : ∀ (d : Nat) (x : Value), VR m (ofV d x) x := by
  intro d
  induction d with
  | zero =>
    intro x
    cases x with
    | bool b => exact .bool b
    | int k n => exact .int k n
    | string s => simp only [ofV]; exact .str _
    | pointer a => cases a <;> simp only [ofV] <;> constructor
    | slice a l c => cases a <;> cases l <;> cases c <;> simp only [ofV] <;> constructor
    | nilIface => exact .nilIface
    | nilFunc => exact .nilFunc
    | _ => simp only [ofV]; exact .undef _
  | succ d ih =>
    intro x
    cases x with
    | bool b => exact .bool b
    | int k n => exact .int k n
    | string s => simp only [ofV]; exact .str _
    | pointer a => cases a <;> simp only [ofV] <;> constructor
    | slice a l c => cases a <;> cases l <;> cases c <;> simp only [ofV] <;> constructor
    | nilIface => exact .nilIface
    | nilFunc => exact .nilFunc
    | agg cs => simp only [ofV]; exact .agg _ cs.toList (by simp) fun i h h' => by simpa using ih (cs[i]'(by simpa using h'))
    | tuple cs => simp only [ofV]; exact .tuple _ cs.toList (by simp) fun i h h' => by simpa using ih (cs[i]'(by simpa using h'))
    | iface t v => simp only [ofV]; exact .iface t _ _ (ih v)
    | _ => simp only [ofV]; exact .undef _

theorem allV_eq {m : Nam} {f : AV → Option Value} (hf : ∀ v x y, f v = some x → VR m v y → y = x) :
    ∀ (cs : List AV) (l xs : List Value), allV f cs = some l → cs.length = xs.length → (∀ i (h : i < cs.length) (h' : i < xs.length), VR m cs[i] xs[i]) → xs = l := by
  intro cs
  induction cs with
  | nil => intro l xs h hl _; simp only [allV, Option.some.injEq] at h; subst h; simpa using hl.symm
  | cons a t ih =>
    intro l xs h hl hv
    simp only [allV] at h
    split at h
    · rename_i v hv'
      split at h
      · rename_i l' hl'
        cases h
        cases xs with
        | nil => simp at hl
        | cons x xs =>
          have h0 := hf a v x hv' (hv 0 (by simp) (by simp))
          have h1 := ih l' xs hl' (by simpa using hl) fun i h h' => hv (i + 1) (by simpa using h) (by simpa using h')
          rw [h0, h1]
      · cases h
    · cases h
theorem toV_eq {m : Nam} : ∀ (d : Nat) (v : AV) (x y : Value), toV d v = some x → VR m v y → y = x := by
  intro d
  induction d with
  | zero =>
    intro v x y h hv
    cases hv <;> simp only [toV, Option.some.injEq, reduceCtorEq] at h <;> first | exact h | cases h
  | succ d ih =>
    intro v x y h hv
    cases hv with
    | agg cs xs hl hx =>
      simp only [toV] at h
      split at h
      · rename_i l hl'
        cases h
        rw [allV_eq (fun v x y => ih v x y) cs l xs hl' hl hx]
      · cases h
    | tuple cs xs hl hx =>
      simp only [toV] at h
      split at h
      · rename_i l hl'
        cases h
        rw [allV_eq (fun v x y => ih v x y) cs l xs hl' hl hx]
      · cases h
    | iface t v x' hx =>
      simp only [toV] at h
      split at h
      · rename_i l hl'
        cases h
        rw [ih _ _ _ hl' hx]
      · cases h
    | _ => simp only [toV, Option.some.injEq, reduceCtorEq] at h <;> first | exact h | cases h

theorem semE_run {P : Program} {α : Type} : ∀ (s : Sem α) (a : α) (w : World), semE P s = some a → s.run P w = .ok a w
  | .pure b, a, w, h => by simp only [semE, Option.some.injEq] at h; subst h; rfl
  | .program k, a, w, h => by simp only [semE] at h; simp only [Sem.run]; exact semE_run (k P) a w h
  | .load .., _, _, h | .store .., _, _, h | .new .., _, _, h | .shape .., _, _, h | .freeze .., _, _, h | .frozen .., _, _, h | .getObj .., _, _, h
  | .setObj .., _, _, h | .choose .., _, _, h | .sys .., _, _, h | .mark .., _, _, h | .halt .., _, _, h => by simp [semE] at h

theorem VR.cells {m : Nam} {v : AV} {x : Value} (h : VR m v x) (hv : ∀ a ∈ v.cells, a.lone = true) : CR m v.cells x.cells.toList ∧ ∀ y ∈ x.cells.toList, (∀ c, y ≠ .agg c) ∧ ∀ c, y ≠ .tuple c := by
  have one : ∀ {v : AV} {x : Value}, VR m v x → v.lone = true → CR m [v] [x] ∧ ∀ y ∈ [x], (∀ c, y ≠ .agg c) ∧ ∀ c, y ≠ .tuple c := by
    intro v x h hl
    refine ⟨⟨rfl, fun i a b => ?_⟩, ?_⟩
    · have : i = 0 := by simpa using a
      subst this; simpa using h
    · intro y hy
      have : y = x := by simpa using hy
      subst this
      cases h <;> first | (rename_i h; exact oneCell_ne h) | (simp [AV.lone] at hl ⊢; done)
  cases h with
  | agg cs xs hl hx =>
    refine ⟨⟨by simpa [AV.cells, Value.cells] using hl, fun i a b => hx i (by simpa [AV.cells] using a) (by simpa [Value.cells] using b)⟩, ?_⟩
    intro y hy
    simp only [Value.cells] at hy
    obtain ⟨i, hi, rfl⟩ := List.getElem_of_mem hy
    have hi' : i < cs.length := by omega
    have := hx i hi' hi
    have hl := hv cs[i] (by simp [AV.cells])
    generalize cs[i] = c at this hl
    generalize xs[i] = z at this
    cases this <;> first | (rename_i h; exact oneCell_ne h) | (simp [AV.lone] at hl ⊢; done)
  | undef v => have := hv .undef (by simp [AV.cells]); simp [AV.lone] at this
  | tuple cs xs hl hx => have := hv (.tuple cs) (by simp [AV.cells]); simp [AV.lone] at this
  | cell x h =>
    have e : x.cells = #[x] := by cases x <;> simp [Value.oneCell'] at h <;> rfl
    rw [e]
    exact one (.cell x h) rfl
  | _ => exact one (by constructor <;> assumption) (hv _ (by simp [AV.cells]))

end Go.Proofs.YtipigcgegmedeaaGreat.Ev
