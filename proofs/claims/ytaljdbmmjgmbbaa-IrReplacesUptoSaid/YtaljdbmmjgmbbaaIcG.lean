/- The registers that a function uses, counted; no program is in sight. No condition. -/
import Derived.Test.YtaljdbmmjgmbbaaIcD
import Derived.Test.YtaljdbmmjgmbbaaSm
namespace Go.Proofs.Ytaljdbmmjgmbbaa
set_option linter.unusedVariables false

/-- which registers these operands name, in order -/
def regsIn (l : List Opd) : List Int := (l.filter fun a => a.kind == 1).map fun a => a.num
def regsL (l : List Ins) : List Int := l.flatMap fun x => regsIn x.args
theorem regsIn_take {l : List Opd} {k : Nat} {v : Opd} (h : l[k]? = some v) : regsIn (l.take (k + 1)) = regsIn (l.take k) ++ (if v.kind = 1 then [v.num] else []) := by
  unfold regsIn
  rw [List.take_add_one, h, List.filter_append, List.map_append]
  congr 1
  by_cases hk : v.kind = 1
  · simp [hk]
  · simp [hk]
theorem regsL_append (l r : List Ins) : regsL (l ++ r) = regsL l ++ regsL r := by simp [regsL]
theorem regsL_one (x : Ins) : regsL [x] = regsIn x.args := by simp [regsL]
theorem regsIn_len (l : List Opd) : (regsIn l).length ≤ l.length := by
  unfold regsIn
  rw [List.length_map]
  exact List.length_filter_le _ _
theorem regsL_len : ∀ l : List Ins, (regsL l).length ≤ argsL l
  | [] => Nat.le_refl _
  | x :: l => by
    have h1 := regsL_len l
    have h2 := regsIn_len x.args
    simp only [regsL, argsL, List.flatMap_cons, List.length_append, List.map_cons, List.sum_cons] at *
    omega
theorem usesIn_count (l : List Opd) (r : Int) : usesIn l r = (regsIn l).count r := by
  unfold usesIn regsIn
  induction l with
  | nil => rfl
  | cons a l ih =>
    by_cases hk : a.kind = 1
    · by_cases hr : a.num = r
      · simp [hk, hr] at *; omega
      · simp [hk, hr] at *; omega
    · simp [hk] at *; omega
theorem usesL_count : ∀ (l : List Ins) (r : Int), usesL l r = (regsL l).count r
  | [], _ => rfl
  | x :: l, r => by
    have := usesL_count l r
    rw [show usesL (x :: l) r = usesIn x.args r + usesL l r by simp [usesL], this, usesIn_count]
    simp [regsL]
/-- all uses of the registers of which q holds -/
def sumS (R : List Int) (q : Int → Bool) : Nat := (R.filter q).length
theorem sumS_none (R : List Int) : sumS R (fun _ => false) = 0 := by simp [sumS]
theorem sumS_step {R : List Int} {q : Int → Bool} {r : Int} (h : q r = false) : sumS R (fun x => q x || r == x) = sumS R q + R.count r := by
  unfold sumS
  induction R with
  | nil => rfl
  | cons a R ih =>
    by_cases ha : a = r
    · subst ha
      simp [h] at *; omega
    · have : (r == a) = false := by rw [beq_eq_false_iff_ne]; exact fun e => ha e.symm
      cases hq : q a
      · simp [hq, this, ha] at *; omega
      · simp [hq, ha] at *; omega
theorem sumS_all (R : List Int) (q : Int → Bool) (h : ∀ r, r ∈ R → q r = true) : sumS R q = R.length := by
  unfold sumS
  rw [List.filter_eq_self.2 h]
theorem sumS_le (R : List Int) (q : Int → Bool) : sumS R q ≤ R.length := List.length_filter_le _ _
/-! ### replaced -/
def ren (reg other n : Int) : Int := if n = reg then other else n
theorem regsIn_sub (reg other b : Int) (l : List Opd) : regsIn (l.map (rsub reg ⟨1, other, b⟩)) = (regsIn l).map (ren reg other) := by
  unfold regsIn
  induction l with
  | nil => rfl
  | cons a l ih =>
    unfold rsub ren at *
    by_cases hk : a.kind = 1
    · by_cases hr : a.num = reg
      · simp [hk, hr] at *; exact ih
      · simp [hk, hr] at *; exact ih
    · simp [hk] at *; exact ih
theorem regsL_sub (reg other b : Int) (l : List Ins) : regsL (l.map (subIns (rsub reg ⟨1, other, b⟩))) = (regsL l).map (ren reg other) := by
  induction l with
  | nil => rfl
  | cons x l ih =>
    rw [List.map_cons]
    show regsIn (x.args.map _) ++ regsL _ = _
    rw [ih, regsIn_sub]
    simp [regsL]
theorem sub_flat (σ : Opd → Opd) (bs : List (List Ins)) : (subAll σ bs).flatten = bs.flatten.map (subIns σ) := by
  unfold subAll
  rw [List.map_flatten]
theorem count_ren {reg other : Int} (h : other ≠ reg) (R : List Int) : (R.map (ren reg other)).count other = R.count other + R.count reg ∧ (R.map (ren reg other)).count reg = 0 := by
  induction R with
  | nil => exact ⟨rfl, rfl⟩
  | cons a R ih =>
    obtain ⟨h1, h2⟩ := ih
    unfold ren at *
    by_cases ha : a = reg
    · subst ha
      have h' : ¬ a = other := fun e => h e.symm
      simp [h, h'] at *; omega
    · by_cases ho : a = other
      · subst ho; simp [ha] at *; omega
      · simp [ha, ho] at *; omega
theorem argsL_sub (σ : Opd → Opd) (l : List Ins) : argsL (l.map (subIns σ)) = argsL l := by
  induction l with
  | nil => rfl
  | cons x l ih =>
    simp only [argsL, List.map_cons, List.sum_cons] at *
    rw [ih]
    show (x.args.map σ).length + _ = _
    rw [List.length_map]
theorem usesL_sub {reg other : Int} (b : Int) (h : other ≠ reg) (bs : List (List Ins)) : usesL (subAll (rsub reg ⟨1, other, b⟩) bs).flatten other = usesL bs.flatten other + usesL bs.flatten reg ∧ usesL (subAll (rsub reg ⟨1, other, b⟩) bs).flatten reg = 0 := by
  rw [usesL_count, usesL_count, usesL_count, usesL_count, sub_flat, regsL_sub]
  exact count_ren h _
theorem args_le {f : Fun} {c : Nat} (h : funSz f ≤ c) : argsL f.blocks.flatten ≤ c ∧ f.blocks.flatten.length ≤ c := by
  have h1 := partsL_le_blks f.blocks
  have h2 := argsL_le_partsL f.blocks.flatten
  have h3 := length_le_partsL f.blocks.flatten
  unfold funSz at h
  omega
end Go.Proofs.Ytaljdbmmjgmbbaa
