/- What of a function's registers has been seen so far; no program is in sight. No condition. -/
import Derived.Test.YtffklfalocamiaaIcG
namespace Go.Proofs.Ytffklfalocamiaa
set_option linter.unusedVariables false

theorem pre_at {bs : List (List Ins)} {i j : Nat} : ∃ r, regsL (before bs i j) ++ r = regsL bs.flatten := by
  obtain ⟨r, h⟩ := before_prefix (bs := bs) (i := i) (j := j)
  exact ⟨regsL r, by rw [← regsL_append, h]⟩
theorem pre_in {bs : List (List Ins)} {i j m : Nat} {x : List Ins} {ins : Ins} (hx : bs[i]? = some x) (hi : x[j]? = some ins) : ∃ r, (regsL (before bs i j) ++ regsIn (ins.args.take m)) ++ r = regsL bs.flatten := by
  obtain ⟨r, h⟩ := pre_at (bs := bs) (i := i) (j := j + 1)
  rw [before_step hx hi, regsL_append, regsL_one] at h
  have h2 : regsIn ins.args = regsIn (ins.args.take m) ++ regsIn (ins.args.drop m) := by
    unfold regsIn
    rw [← List.map_append, ← List.filter_append, List.take_append_drop]
  rw [h2] at h
  exact ⟨regsIn (ins.args.drop m) ++ r, by rw [← h]; simp⟩
theorem pre_len {P R : List Int} (h : ∃ r, P ++ r = R) : P.length ≤ R.length := by
  obtain ⟨r, rfl⟩ := h
  simp
theorem pre_in_end {bs : List (List Ins)} {i j : Nat} {x : List Ins} {ins : Ins} (hx : bs[i]? = some x) (hi : x[j]? = some ins) : regsL (before bs i j) ++ regsIn (ins.args.take ins.args.length) = regsL (before bs i (j + 1)) := by
  rw [before_step hx hi, regsL_append, regsL_one, List.take_length]
/-- which registers were seen -/
def seenQ (P : List Int) (r : Int) : Bool := decide (r ∈ P)
theorem seen_new {P : List Int} {r : Int} : seenQ (P ++ [r]) = fun x => seenQ P x || r == x := by
  funext x
  unfold seenQ
  rw [Bool.eq_iff_iff]
  simp only [decide_eq_true_eq, List.mem_append, List.mem_singleton, Bool.or_eq_true, beq_iff_eq]
  exact ⟨fun h => h.imp id Eq.symm, fun h => h.imp id Eq.symm⟩
theorem seen_old {P : List Int} {r : Int} (h : seenQ P r = true) : seenQ (P ++ [r]) = seenQ P := by
  funext x
  unfold seenQ at *
  rw [Bool.eq_iff_iff]
  simp only [decide_eq_true_eq, List.mem_append, List.mem_singleton] at *
  exact ⟨fun hx => hx.elim id (fun e => by rw [e]; exact h), .inl⟩
theorem seen_sum {R P : List Int} {r : Int} (h : seenQ P r = false) : sumS R (seenQ (P ++ [r])) = sumS R (seenQ P) + R.count r := by
  rw [seen_new, sumS_step h]
theorem seen_all (R : List Int) : sumS R (seenQ R) = R.length := sumS_all R _ (fun r hr => by unfold seenQ; simp [hr])
theorem seen_none : seenQ [] = fun _ => false := by funext x; simp [seenQ]
end Go.Proofs.Ytffklfalocamiaa
