/- Registers counted behind a replacement by any operand. No condition. -/
import Derived.Test.YtaljdbmmjgmbbaaIcG
namespace Go.Proofs.Ytaljdbmmjgmbbaa
open Go.RowKit
set_option linter.unusedVariables false
set_option linter.unusedSimpArgs false

/-- the registers that a use of `reg` turns into -/
def subR (reg : Int) (v : Opd) (n : Int) : List Int := if n = reg then (if v.kind = 1 then [v.num] else []) else [n]
theorem regsIn_cons (a : Opd) (l : List Opd) : regsIn (a :: l) = (if a.kind = 1 then [a.num] else []) ++ regsIn l := by
  unfold regsIn
  rw [List.filter_cons]
  by_cases h : a.kind = 1
  · rw [if_pos (by rw [beq_iff_eq]; exact h), if_pos h]; rfl
  · rw [if_neg (by rw [beq_iff_eq]; exact h), if_neg h]; rfl
theorem regsIn_any (reg : Int) (v : Opd) : ∀ l : List Opd, regsIn (l.map (rsub reg v)) = (regsIn l).flatMap (subR reg v)
  | [] => rfl
  | a :: l => by
    rw [List.map_cons, regsIn_cons, regsIn_cons, regsIn_any reg v l, List.flatMap_append]
    congr 1
    unfold rsub
    by_cases h : a.kind = 1
    · by_cases h2 : a.num = reg
      · simp [subR, h, h2]
      · simp [subR, h, h2]
    · simp [h]
theorem regsL_any (reg : Int) (v : Opd) (l : List Ins) : regsL (l.map (subIns (rsub reg v))) = (regsL l).flatMap (subR reg v) := by
  unfold regsL
  induction l with
  | nil => rfl
  | cons x l ih => rw [List.map_cons, List.flatMap_cons, List.flatMap_cons, List.flatMap_append, ih, ← regsIn_any]; rfl
theorem count_subR {reg other : Int} (v : Opd) (h : other ≠ reg) : ∀ R : List Int, (R.flatMap (subR reg v)).count other = R.count other + (if v.kind = 1 ∧ v.num = other then R.count reg else 0)
  | [] => by simp
  | n :: R => by
    rw [List.flatMap_cons, List.count_append, count_subR v h R, List.count_cons, List.count_cons]
    unfold subR
    by_cases hn : n = reg
    · subst hn
      have h1 : (n == other) = false := beq_eq_false_iff_ne.2 (fun e => h e.symm)
      rw [if_pos rfl, h1]
      by_cases hk : v.kind = 1
      · by_cases ho : v.num = other
        · simp [hk, ho]; omega
        · simp [hk, ho, List.count_cons]
      · simp [hk]
    · rw [if_neg hn]
      have h2 : (n == reg) = false := beq_eq_false_iff_ne.2 hn
      rw [h2]
      simp [List.count_cons]
      omega
theorem count_self {reg : Int} (v : Opd) (h : ¬ (v.kind = 1 ∧ v.num = reg)) : ∀ R : List Int, (R.flatMap (subR reg v)).count reg = 0
  | [] => by simp
  | n :: R => by
    rw [List.flatMap_cons, List.count_append, count_self v h R]
    unfold subR
    by_cases hn : n = reg
    · subst hn
      rw [if_pos rfl]
      by_cases hk : v.kind = 1
      · rw [if_pos hk]; simp [List.count_cons, show v.num ≠ n from fun e => h ⟨hk, e⟩]
      · rw [if_neg hk]; rfl
    · rw [if_neg hn]; simp [List.count_cons, hn]
theorem usesL_any {reg other : Int} (v : Opd) (bs : List (List Ins)) : (other ≠ reg → usesL (subAll (rsub reg v) bs).flatten other = (regsL bs.flatten).count other + (if v.kind = 1 ∧ v.num = other then (regsL bs.flatten).count reg else 0)) ∧
    (¬ (v.kind = 1 ∧ v.num = reg) → usesL (subAll (rsub reg v) bs).flatten reg = 0) := by
  rw [usesL_count, usesL_count, sub_flat, regsL_any]
  exact ⟨fun h => count_subR v h _, fun h => count_self v h _⟩
end Go.Proofs.Ytaljdbmmjgmbbaa
