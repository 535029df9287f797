/- latheref13.Blocks. No condition but sizes. | latheref13.exits. No condition but sizes. | latheref13.Find. No condition but sizes. -/
import Derived.Test.YteeclobpajalmaaLoD
import Derived.Test.YteeclobpajalmaaLoK
import Derived.Test.YteeclobpajalmaaGrY
namespace Go.Proofs.Yteeclobpajalmaa
open Go.RowKit
set_option linter.unusedSimpArgs false
set_option linter.unusedVariables false

theorem int_only {X : World} {B : Nat} {S : Nat → Prop} {v : Value} {l : List Int} (h : OwnI X B v l) (hS : ∀ k, S k → k < B) : ∃ A C, v = .slice A l.length C ∧ (0 < l.length → ∃ g, A = some ⟨g, 0, none⟩ ∧ ∀ (i : Nat) x, l[i]? = some x → ∀ w', Only S X.heap.size X w' → w'.cell? ⟨g, i, none⟩ = some (.int .i64 x)) := by
  obtain ⟨A, C, rfl⟩ := row_form h.row
  refine ⟨A, C, rfl, fun hl => ?_⟩
  obtain ⟨g, cap, hv, -, -⟩ := h.row.form hl
  cases hv
  refine ⟨g, rfl, fun i x hi w' hb => ?_⟩
  rw [hb.cell (p := ⟨g, i, none⟩) (row_lt h.row rfl).2.1 (fun e => by have h3 : g < B := hS _ e; have := (row_lt h.row (k := g) rfl).1; omega), World.ownsRow.cellAt h.row i (by have := (List.getElem?_eq_some_iff.1 hi).1; omega), List.getElem?_map, hi]
  rfl
end Go.Proofs.Yteeclobpajalmaa

namespace Go.Proofs.Yteeclobpajalmaa
open Go.RowKit
set_option linter.unusedSimpArgs false
set_option linter.unusedVariables false

open Classical in
noncomputable def exA (sc : Int → List Int) (lp : List Int) (t : Int) (c : Nat) : Bool := decide (∃ b, b ∈ lp.take c ∧ t ∈ sc b)
theorem exA_iff {sc : Int → List Int} {lp : List Int} {c : Nat} {t : Int} : exA sc lp t c = true ↔ ∃ b, b ∈ lp.take c ∧ t ∈ sc b := by unfold exA; exact decide_eq_true_iff
theorem exA_zero {sc : Int → List Int} {lp : List Int} {t : Int} : exA sc lp t 0 = false := by rw [← Bool.not_eq_true, exA_iff]; simp
theorem exA_step {sc : Int → List Int} {lp : List Int} {c : Nat} {x t : Int} (hx : lp[c]? = some x) : exA sc lp t (c + 1) = (exA sc lp t c || decide (t ∈ sc x)) := by
  rw [Bool.eq_iff_iff, exA_iff, Bool.or_eq_true, exA_iff, decide_eq_true_iff, List.take_add_one, hx]
  simp only [Option.toList_some, List.mem_append, List.mem_singleton]
  constructor
  · rintro ⟨b, h1 | h1, h2⟩
    · exact .inl ⟨b, h1, h2⟩
    · exact .inr (h1 ▸ h2)
  · rintro (⟨b, h1, h2⟩ | h)
    · exact ⟨b, .inl h1, h2⟩
    · exact ⟨x, .inr rfl, h⟩
def InsC (ins : Bool) (c : Nat) : Prop := ins = true → c = 0
end Go.Proofs.Yteeclobpajalmaa

namespace Go.Proofs.Yteeclobpajalmaa
open Go.RowKit
set_option linter.unusedSimpArgs false
set_option linter.unusedVariables false

noncomputable def dS (sc : Int → List Int) (o : List Int) (P : List (List Int)) (n i d : Nat) : List Lp := (headsS sc o P n).mapIdx fun k h => { lp0 sc o P n h with depth := if k < i then inF sc o P n h else if k = i then d else 0 }
noncomputable def cntS (sc : Int → List Int) (o : List Int) (P : List (List Int)) (n h j : Nat) : Nat := (((headsS sc o P n).take j).filter fun k => lpB sc o (latF sc o P k) k h).length
section
variable {sc : Int → List Int} {o : List Int} {P : List (List Int)} {n i d h j k : Nat}
theorem dS_len : (dS sc o P n i d).length = (headsS sc o P n).length := by simp [dS]
theorem dS_at (hh : (headsS sc o P n)[k]? = some h) : (dS sc o P n i d)[k]? = some { lp0 sc o P n h with depth := if k < i then inF sc o P n h else if k = i then d else 0 } := by simp [dS, hh]
theorem dS_none (hk : (headsS sc o P n).length ≤ k) : (dS sc o P n i d)[k]? = none := List.getElem?_eq_none (by rw [dS_len]; exact hk)
theorem dS_ext {l : List Lp} (hl : l.length = (headsS sc o P n).length) (H : ∀ (k h : Nat), (headsS sc o P n)[k]? = some h → l[k]? = some { lp0 sc o P n h with depth := if k < i then inF sc o P n h else if k = i then d else 0 }) : l = dS sc o P n i d := by
  refine List.ext_getElem? fun k => ?_
  by_cases hk : k < (headsS sc o P n).length
  · have e : (headsS sc o P n)[k]? = some ((headsS sc o P n)[k]) := List.getElem?_eq_getElem hk
    rw [H k _ e, dS_at e]
  · rw [dS_none (by omega), List.getElem?_eq_none (by omega)]
theorem dS_start : lps0 sc o P n n = dS sc o P n 0 0 := dS_ext (by simp [lps0]) fun k h hk => by
  unfold lps0
  rw [List.getElem?_map, hk]
  simp [lp0]
theorem dS_end : dS sc o P n (headsS sc o P n).length 0 = loopsS sc o P n := (by
  symm
  refine dS_ext (by simp [loopsS]) fun k h hk => ?_
  unfold loopsS
  have := (List.getElem?_eq_some_iff.1 hk).1
  rw [List.getElem?_map, hk, if_pos this]
  rfl)
theorem dS_next (hh : (headsS sc o P n)[i]? = some h) : dS sc o P n i (inF sc o P n h) = dS sc o P n (i + 1) 0 := dS_ext dS_len fun k h' hk => by
  rw [dS_at hk]
  by_cases e : k < i
  · rw [if_pos e, if_pos (by omega)]
  · by_cases e2 : k = i
    · subst e2
      rw [hk] at hh
      cases hh
      rw [if_neg e, if_pos rfl, if_pos (by omega)]
    · rw [if_neg e, if_neg e2, if_neg (by omega)]
      by_cases e3 : k = i + 1 <;> simp [e3]
theorem dS_set {d' : Nat} (hh : (headsS sc o P n)[i]? = some h) : (dS sc o P n i d).set i { ({ lp0 sc o P n h with depth := d } : Lp) with depth := d' } = dS sc o P n i d' := dS_ext (by rw [List.length_set, dS_len]) fun k h' hk => by
  by_cases e : i = k
  · subst e
    rw [hk] at hh
    cases hh
    rw [List.getElem?_set_self (by rw [dS_len]; exact (List.getElem?_eq_some_iff.1 hk).1)]
    simp
  · rw [List.getElem?_set_ne e, dS_at hk]
    have e2 : ¬ k = i := fun e3 => e e3.symm
    rw [if_neg e2, if_neg e2]
theorem dS_here (hh : (headsS sc o P n)[i]? = some h) : (dS sc o P n i d)[i]? = some { lp0 sc o P n h with depth := d } := by rw [dS_at hh]; simp
theorem cntS_zero : cntS sc o P n h 0 = 0 := by simp [cntS]
theorem cntS_step (hk : (headsS sc o P n)[j]? = some k) : cntS sc o P n h (j + 1) = cntS sc o P n h j + (if lpB sc o (latF sc o P k) k h = true then 1 else 0) := by
  unfold cntS
  rw [List.take_add_one, hk, List.filter_append, List.length_append]
  by_cases e : lpB sc o (latF sc o P k) k h = true
  · simp [e]
  · simp [e]
theorem cntS_end : cntS sc o P n h (headsS sc o P n).length = inF sc o P n h := by unfold cntS inF; rw [List.take_length]
theorem cntS_le : cntS sc o P n h j ≤ n := by
  unfold cntS
  refine Nat.le_trans (List.length_filter_le ..) ?_
  rw [List.length_take]
  have := headsS_len (sc := sc) (o := o) (P := P) (a := n)
  omega
end
end Go.Proofs.Yteeclobpajalmaa
