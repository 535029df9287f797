/- What is read of rows that were made; sums over blocks. No condition. -/
import Derived.Test.YtkhlnopbgngjbaaGrN
namespace Go.Proofs.Ytkhlnopbgngjbaa
open Go.RowKit
set_option linter.unusedVariables false

theorem bool_reads {X : World} {B g n : Nat} {l : List Bool} (h : X.ownsRow B 4 1 (.slice (some ⟨g, 0, none⟩) n n) n (l.map Value.bool)) : l.length = n ∧ ∀ (k : Nat) b, l[k]? = some b → ∀ w', Below X.heap.size X w' → w'.cell? ⟨g, k, none⟩ = some (.bool b) := by
  have hl : l.length = n := by have := h.1; simpa using this
  refine ⟨hl, fun k b hk w' hb => ?_⟩
  rw [hb.cell (p := ⟨g, k, none⟩) (row_lt h rfl).2.1]
  exact OwnB.cell h hk (by have := (List.getElem?_eq_some_iff.1 hk).1; omega)
theorem int_reads {X : World} {B : Nat} {v : Value} {l : List Int} (h : OwnI X B v l) : ∃ A C, v = .slice A l.length C ∧ (0 < l.length → ∃ g, A = some ⟨g, 0, none⟩ ∧ ∀ (i : Nat) x, l[i]? = some x → ∀ w', Below X.heap.size X w' → w'.cell? ⟨g, i, none⟩ = some (.int .i64 x)) := by
  obtain ⟨A, C, rfl⟩ := row_form h.row
  refine ⟨A, C, rfl, fun hl => ?_⟩
  obtain ⟨g, cap, hv, -, -⟩ := h.row.form hl
  cases hv
  refine ⟨g, rfl, fun i x hi w' hb => ?_⟩
  rw [hb.cell (p := ⟨g, i, none⟩) (row_lt h.row rfl).2.1, World.ownsRow.cellAt h.row i (by have := (List.getElem?_eq_some_iff.1 hi).1; omega), List.getElem?_map, hi]
  rfl
theorem rows_reads {X : World} {B g n : Nat} {no : Option Nat} {ls : List (List Int)} {cs : List Value} (h : OwnL X B no (.slice (some ⟨g, 0, none⟩) n n) ls cs) (hn : ls.length = n) : ∀ (t : Nat) p, ls[t]? = some p → ∃ A C, (∀ w', Below X.heap.size X w' → w'.cell? ⟨g, t, none⟩ = some (.slice A p.length C)) ∧
    (0 < p.length → ∃ g, A = some ⟨g, 0, none⟩ ∧ ∀ (i : Nat) x, p[i]? = some x → ∀ w', Below X.heap.size X w' → w'.cell? ⟨g, i, none⟩ = some (.int .i64 x)) := by
  intro t p hp
  obtain ⟨c, hc, hI⟩ := h.at_ hp
  obtain ⟨A, C, rfl, h2⟩ := int_reads hI
  refine ⟨A, C, fun w' hb => ?_, h2⟩
  subst hn
  rw [hb.cell (p := ⟨g, t, none⟩) (row_lt h.row rfl).2.1, World.ownsRow.cellAt h.row t (by have := (List.getElem?_eq_some_iff.1 hp).1; omega)]
  exact hc
/-- how many ways on the first b blocks have -/
def waysS (sc : Int → List Int) (b : Nat) : Nat := ((List.range b).map fun (x : Nat) => (sc x).length).sum
theorem ways_step (sc : Int → List Int) (b : Nat) : waysS sc (b + 1) = waysS sc b + (sc b).length := by simp [waysS, List.range_succ]
theorem ways_le {sc : Int → List Int} {n : Nat} (h : ∀ b, (sc b).length ≤ n) : ∀ b : Nat, waysS sc b ≤ b * n
  | 0 => by simp [waysS]
  | b + 1 => by rw [ways_step, Nat.succ_mul]; have := ways_le h b; have := h b; omega
def lensS (ls : List (List Int)) (t : Nat) : Nat := ((ls.take t).map List.length).sum
theorem lens_step {ls : List (List Int)} {t : Nat} {p : List Int} (h : ls[t]? = some p) : lensS ls (t + 1) = lensS ls t + p.length := by
  unfold lensS
  rw [List.take_add_one, h]
  simp
theorem lens_le (ls : List (List Int)) : ∀ t : Nat, lensS ls t ≤ (ls.map List.length).sum := by
  intro t
  have h : (ls.map List.length).sum = lensS ls t + ((ls.drop t).map List.length).sum := by
    unfold lensS
    rw [← List.sum_append, ← List.map_append, List.take_append_drop]
  omega
theorem lens_end (ls : List (List Int)) : lensS ls ls.length = (ls.map List.length).sum := by simp [lensS]
theorem found_step {p : List Int} {k : Nat} {x b : Int} (h : p[k]? = some x) : decide (b ∈ p.take (k + 1)) = (decide (b ∈ p.take k) || x == b) := by
  rw [List.take_add_one, h]
  rw [Bool.eq_iff_iff]
  simp only [decide_eq_true_eq, List.mem_append, Option.toList_some, List.mem_singleton, Bool.or_eq_true, beq_iff_eq]
  exact ⟨fun h => h.imp id Eq.symm, fun h => h.imp id Eq.symm⟩
theorem reach_step {bs : List (List Ins)} {b t : Nat} (hb : (reachF bs)[b]? = some true) (hbl : b < bs.length) (ht : (t : Int) ∈ succsF bs b) (htl : t < bs.length) : (reachF bs)[t]? = some true := by
  rw [reach_at _ _ hbl] at hb
  rw [reach_at _ _ htl]
  have h1 : (b : Int) ∈ orderF bs := by simpa using hb
  have h2 := ((order_ok bs).mem _).1 h1
  have h3 := ((order_ok bs).mem (t : Int)).2 ⟨h2.1, .step h2.2 ht⟩
  simp [h3]
end Go.Proofs.Ytkhlnopbgngjbaa
