/- Functions by their own trees, some calls deep; closed calls; a law's call. -/
import Derived.Test.YtipigcgegmedeaaGreatEz
import Derived.Below
namespace Go.Proofs.YtipigcgegmedeaaGreat.Ev
open Go Go.RowKit
set_option linter.unusedVariables false
set_option linter.unusedSimpArgs false
noncomputable section
variable {R : Type} {P : Program}

/-- Functions by their own trees, n calls deep; ok: those that may be called; S: those that have a contract of their own. -/
def DD (P : Program) (N : Nat) (ok : List FuncId) (S : Specs R) : Nat → Specs R
  | 0 => fun _ => none
  | n + 1 => fun f => match S f with
    | some s => some s
    | none => sel (ok.any (Nat.beq f)) (match P.funcs[f]? with
      | some fn => some (evAny P (DD P N ok S n) N fn)
      | none => none) none
def okAll (P : Program) (ok : List FuncId) : Bool := ok.all fun f => match P.funcs[f]? with
  | some fn => !fn.body.isNone && !(fn.name == "runtime.NumGoroutine")
  | none => false
theorem DD_both {N : Nat} {ok : List FuncId} {S : Specs R} (hok : okAll P ok = true) (hS : Sound P S) : ∀ n, Sound P (DD P N ok S n) ∧ ∀ f s, S f = none → DD P N ok S n f = some s → SoundSpec P f s := by
  have tree : ∀ n, Sound P (DD P N ok S n) → ∀ f s, S f = none → DD P N ok S (n + 1) f = some s → SoundSpec P f s := by
    intro n ih f s hn h
    simp only [DD, hn] at h
    rw [sel_eq] at h
    cases hb : ok.any (Nat.beq f) with
    | false => rw [hb] at h; cases h
    | true =>
      rw [hb] at h
      simp only [cond_true] at h
      split at h
      · rename_i fn hf
        cases h
        obtain ⟨f', hf', he⟩ := List.any_eq_true.1 hb
        have := Nat.eq_of_beq_eq_true he
        subst this
        have := List.all_eq_true.1 hok f hf'
        rw [hf] at this
        simp only [Bool.and_eq_true, Bool.not_eq_true'] at this
        exact any_sound ih N hf this.1 this.2
      · cases h
  intro n
  induction n with
  | zero => exact ⟨fun f s h => (by cases h), fun f s _ h => (by cases h)⟩
  | succ n ih =>
    refine ⟨fun f s h => ?_, tree n ih.1⟩
    cases hs : S f with
    | some s' =>
      simp only [DD, hs] at h
      cases h
      exact hS f _ hs
    | none => exact .inl (tree n ih.1 f s hs h)
theorem DD_sound {N : Nat} {ok : List FuncId} {S : Specs R} (hok : okAll P ok = true) (hS : Sound P S) (n : Nat) : Sound P (DD P N ok S n) := (DD_both hok hS n).1
theorem DD_spec {N n : Nat} {ok : List FuncId} {S : Specs R} (hok : okAll P ok = true) (hS : Sound P S) {f : FuncId} {s : Spec R} (hn : S f = none) (h : DD P N ok S n f = some s) : SoundSpec P f s := (DD_both hok hS n).2 f s hn h
theorem none_sound : Sound P (fun _ => none : Specs R) := fun f s h => by cases h

theorem HR.empty (w : World) : HR (fun _ => none) (fun _ => True) (get []) w :=
  ⟨fun n B h => by simp [get, fam] at h, fun n n' B B' L L' h => by simp [get, fam] at h, fun n L h => by cases h⟩
theorem CR.nil (m : Nam) : CR m [] [] := ⟨rfl, fun i h => by simp at h⟩
/-- A call without arguments that comes to a truth by itself. -/
def truth (b : Bool) : Spec R := fun h base args K =>
  match args with
  | [] => K (.bool b) h base
  | _ => none
theorem truth_sound {f : FuncId} {s : Spec AV} {b : Bool} (hs : SoundSpec P f s) (hk : s [] 0 [] (fun v _ _ => some v) = some (.bool b)) : SoundSpec P f (truth b : Spec R) := by
  refine ⟨hs.1, .of fun hp b' args => ?_, fun m U h base w args xs K r hU H hc hk' => ?_⟩
  · unfold truth
    split
    · exact .pure (.refl hp)
    · exact .none
  unfold truth at hk'
  split at hk'
  · have hx : xs = #[] := by
      have := hc.1
      apply Array.ext'
      simpa using (List.eq_nil_of_length_eq_zero this.symm)
    subst hx
    refine Calls.mono (hs.2.2 (fun _ => none) (fun _ => True) [] 0 w [] #[] (fun v _ _ => some v) _ (fun _ _ => trivial) (HR.empty w) (CR.nil _) hk) fun e w' he => ?_
    obtain ⟨v, x, h', b', m', rfl, q1, q0, q2, q3, q4⟩ := he
    cases q1
    have hx := bool_real q4
    subst hx
    have hkeep : ∀ k, k < w.heap.size → w'.heap[k]? = w.heap[k]? := fun k hk => q2.keep k hk fun n B L g => by simp [get, fam] at g
    refine ⟨.bool b, .bool b, h, base, m, rfl, hk', Nat.le_refl _, ⟨m.le_refl, q2.size, fun k hk _ => hkeep k hk, fun n B L g1 g2 _ => ⟨n, B, L, g1, g2, rfl⟩, q2.os, q2.tape, q2.out⟩, ⟨fun n B g => ?_, H.inj, fun n L g => ?_⟩, .bool b⟩
    · exact (H.live n B g).mono m.le_refl fun L hL => hkeep L.b (H.bound n L hL).1
    · have := H.bound n L g
      exact ⟨Nat.lt_of_lt_of_le this.1 q2.size, fun u => this.2 u.1⟩
  · cases hk'
/-- A law's call: true, and all blocks are as they were. -/
theorem law_calls {f : FuncId} {s : Spec AV} {args : List AV} {xs : Array Value} {v : AV} {b : Bool} (hs : SoundSpec P f s) (hv : v = .bool b) (hk : s [] 0 args (fun v _ _ => some v) = some v) (hc : CR (fun _ => none) args xs.toList) (w : World) :
    Calls P f xs w fun e w' => e = .returned (.bool b) ∧ Below w.heap.size w w' := by
  subst hv
  refine Calls.mono (hs.2.2 (fun _ => none) (fun _ => True) [] 0 w args xs (fun v _ _ => some v) _ (fun _ _ => trivial) (HR.empty w) hc hk) fun e w' he => ?_
  obtain ⟨v, x, h', b', m', rfl, q1, q0, q2, q3, q4⟩ := he
  cases q1
  have hx := bool_real q4
  subst hx
  exact ⟨rfl, q2.os, q2.tape, q2.out, q2.size, fun k hk => q2.keep k hk fun n B L g => by simp [get, fam] at g⟩
end
end Go.Proofs.YtipigcgegmedeaaGreat.Ev
