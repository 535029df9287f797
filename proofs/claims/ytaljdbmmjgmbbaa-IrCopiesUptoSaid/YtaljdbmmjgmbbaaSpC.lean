/- A module's rows as blocks that may be written over, in plain Lean. No condition but sizes. -/
import Derived.Test.YtaljdbmmjgmbbaaSpB
import Derived.Test.YtaljdbmmjgmbbaaIrCb
namespace Go.Proofs.Ytaljdbmmjgmbbaa
open Go.RowKit
set_option linter.unusedSimpArgs false
set_option linter.unusedVariables false

section
variable {w : World} {B : Nat}
theorem flatN (n : Nat) (h0 : 0 < n) : ∀ (ess : List (List Value)), (∀ es, es ∈ ess → es.length = n) → ∀ j u, ess.flatten[j]? = some u → ∃ es, ess[j / n]? = some es ∧ es[j % n]? = some u
  | [], _, j, u, h => by simp at h
  | e :: ess, hl, j, u, h => by
    have he := hl e (List.mem_cons_self ..)
    rw [List.flatten_cons] at h
    rcases Nat.lt_or_ge j n with h7 | h7
    · rw [List.getElem?_append_left (by omega)] at h
      exact ⟨e, by rw [Nat.div_eq_of_lt h7]; rfl, by rw [Nat.mod_eq_of_lt h7]; exact h⟩
    · rw [List.getElem?_append_right (by omega), he] at h
      obtain ⟨es, h1, h2⟩ := flatN n h0 ess (fun es hes => hl es (List.mem_cons_of_mem _ hes)) (j - n) u h
      obtain ⟨k, rfl⟩ : ∃ k, j = k + n := ⟨j - n, by omega⟩
      rw [Nat.add_sub_cancel] at h1 h2
      refine ⟨es, ?_, ?_⟩
      · rw [Nat.add_div_right _ h0, List.getElem?_cons_succ]; exact h1
      · rw [Nat.add_mod_right]; exact h2
theorem OwnR.fine {l : List Vr} {v : Value} (h : OwnR w B v l) (hl : l.length ≤ 2000000) : Fine w B 115 2 (fun _ _ => True) v := fine_row h.row hl fun _ _ => trivial
theorem OwnX.fine {l : List Ext} {v : Value} (h : OwnX w B v l) (hl : l.length ≤ 2000000) (hi : ∀ x, x ∈ l → x.params.length ≤ 2000000) : Fine w B 91 3 (QE w B) v := by
  obtain ⟨ess, h1, h2, h3⟩ := h
  have h7 : ∀ es, es ∈ ess → es.length = 3 := fun es hes => by
    obtain ⟨i, hi'⟩ := List.getElem?_of_mem hes
    have hil := (List.getElem?_eq_some_iff.1 hi').1
    obtain ⟨c, e, -⟩ := h3 i es _ hi' (List.getElem?_eq_getElem (by omega))
    rw [e]; rfl
  refine fine_row h2 hl fun c hc j u hj hu e => ?_
  obtain ⟨es, g1, g2⟩ := flatN 3 (by omega) ess h7 j u (hc j u hj hu)
  have hil := (List.getElem?_eq_some_iff.1 g1).1
  have hx : l[j / 3]? = some (l[j / 3]'(by omega)) := List.getElem?_eq_getElem _
  obtain ⟨cv, e', hv, -⟩ := h3 _ es _ g1 hx
  subst e'
  rw [e] at g2
  cases g2
  exact hv.fine (hi _ (List.mem_of_getElem? hx))
theorem OwnF.fine {l : List Fun} {v : Value} (h : OwnF w B v l) (hl : l.length ≤ 2000000) (hi : ∀ f, f ∈ l → Small f) : Fine w B 25 4 (QF w B) v := by
  obtain ⟨ess, h1, h2, h3⟩ := h
  have h7 : ∀ es, es ∈ ess → es.length = 4 := fun es hes => by
    obtain ⟨i, hi'⟩ := List.getElem?_of_mem hes
    have hil := (List.getElem?_eq_some_iff.1 hi').1
    obtain ⟨c, d, e, -⟩ := h3 i es _ hi' (List.getElem?_eq_getElem (by omega))
    rw [e]; rfl
  refine fine_row h2 hl fun c hc j u hj hu => ?_
  obtain ⟨es, g1, g2⟩ := flatN 4 (by omega) ess h7 j u (hc j u hj hu)
  have hil := (List.getElem?_eq_some_iff.1 g1).1
  have hx : l[j / 4]? = some (l[j / 4]'(by omega)) := List.getElem?_eq_getElem _
  obtain ⟨cv, dv, e', hv, hd, -⟩ := h3 _ es _ g1 hx
  subst e'
  have hm := hi _ (List.mem_of_getElem? hx)
  refine ⟨fun e => ?_, fun e => ?_, fun e => ?_, fun e => ?_⟩
  · rw [e] at g2; cases g2; exact hv.fine hm.params
  · rw [e] at g2; cases g2; exact hd.fine hm.blocks hm.code
  · rw [e] at g2; cases g2; exact ⟨_, rfl⟩
  · rw [e] at g2; cases g2; exact ⟨_, rfl⟩
end
end Go.Proofs.Ytaljdbmmjgmbbaa
