/- lathelaw06.Long. No condition. | What is read of rows that were made; sums over blocks. No condition. -/
import Derived.Test.YteeclobpajalmaaHm
import Derived.Test.YteeclobpajalmaaGrJ
namespace Go.Proofs.Yteeclobpajalmaa
open Go.RowKit
set_option linter.unusedSimpArgs false
set_option linter.unusedVariables false

def LongPost (n : Nat) (w : World) (e : Ending) (w' : World) : Prop := ∃ b : Bool, e = .returned (.bool b) ∧ (b = false → n ≤ 80) ∧ Below w.heap.size w w'
set_option maxRecDepth 100000 in
set_option maxHeartbeats 3200000 in
theorem long_any (f : Fun) (c1 c2 : Value) (w : World) (B : Nat) (hB : B ≤ w.heap.size) (hf : RFun.rep w B [.string f.name, c1, .int .i64 f.ret, c2] f) :
    Calls Try.prog 33 #[f.v c1 c2] w (LongPost f.blocks.length w) := by
  obtain ⟨hp, hb⟩ := fun_open (RFun.later hf (Below.refl _ _) hB)
  obtain ⟨A1, k1, h1, -, -⟩ := Rp.slice1_open hp
  obtain ⟨A2, k2, h2, hm2, -⟩ := Rp.slice1_open hb
  cases h1; cases h2
  clear hp hb
  obtain ⟨W, hW, hwW, hWs, hx⟩ := boxes1 w #[.string f.name, .slice A1 f.params.length k1, .int .i64 f.ret, .slice A2 f.blocks.length k2] 25
  have q0 : ∀ w', Below W.heap.size W w' → w'.cell? ⟨w.heap.size, 0, none⟩ = some (.string f.name) := hx 0 _ rfl
  have q1 : ∀ w', Below W.heap.size W w' → w'.cell? ⟨w.heap.size, 1, none⟩ = some (.slice A1 f.params.length k1) := hx 1 _ rfl
  have q2 : ∀ w', Below W.heap.size W w' → w'.cell? ⟨w.heap.size, 2, none⟩ = some (.int .i64 f.ret) := hx 2 _ rfl
  have q3 : ∀ w', Below W.heap.size W w' → w'.cell? ⟨w.heap.size, 3, none⟩ = some (.slice A2 f.blocks.length k2) := hx 3 _ rfl
  clear hx
  have hws : w.heap.size ≤ W.heap.size := by omega
  replace hWs := hide hWs
  have hself := Below.refl W.heap.size W
  have hfW := RFun.later hf (hwW.mono hB) (Nat.le_trans hB hwW.size)
  by_cases hlt : f.blocks.length > 80
  · have hgt : (f.blocks.length : Int) > 80 := by omega
    replace hlt := hide hlt
    replace hf := hide hf
    replace hfW := hide hfW
    go_enter Try.func33, Try.ntmps33
    go_wp2
    go_ret
    exact ⟨true, rfl, ⟨(fun h => by cases h), hwW⟩⟩
  · have hgt : ¬ (f.blocks.length : Int) > 80 := by omega
    have c9 := few_any [] [] [f] 5000 (.slice none 0 0) (.slice none 0 0) (.slice (some ⟨W.heap.size, 0, none⟩) 1 1) _ _ (Nat.le_refl _) Rp.nil_rep Rp.nil_rep (one_fun (Nat.le_refl _) hfW)
    replace c9 := hide c9
    replace hlt := hide hlt
    replace hf := hide hf
    replace hfW := hide hfW
    go_enter Try.func33, Try.ntmps33
    go_wp2_with (fail)
    refine c9.out.mono ?_
    rintro e w9 ⟨b, rfl, hb9⟩
    have hb := hwW.trans ((bstep hb9).mono hws)
    cases b with
    | true =>
      go_wp2
      go_ret
      exact ⟨false, rfl, fun _ => by have := hlt.out; omega, hb⟩
    | false =>
      go_wp2
      go_ret
      exact ⟨true, rfl, ⟨(fun h => by cases h), hb⟩⟩
end Go.Proofs.Yteeclobpajalmaa

namespace Go.Proofs.Yteeclobpajalmaa
open Go.RowKit
set_option linter.unusedVariables false

theorem bool_reads {X : World} {B g n : Nat} {l : List Bool} (h : X.ownsRow B 4 1 (.slice (some ⟨g, 0, none⟩) n n) n (l.map Value.bool)) : l.length = n ∧ ∀ (k : Nat) b, l[k]? = some b → ∀ w', Below X.heap.size X w' → w'.cell? ⟨g, k, none⟩ = some (.bool b) := by
  have hl : l.length = n := by have := h.1; simpa using this
  refine ⟨hl, fun k b hk w' hb => ?_⟩
  rw [hb.cell (p := ⟨g, k, none⟩) (row_lt h rfl).2.1]
  exact OwnB.cell h hk (by have := (List.getElem?_eq_some_iff.1 hk).1; omega)
theorem int_reads {X : World} {B : Nat} {v : Value} {l : List Int} (h : OwnI X B v l) : ∃ A C, v = .slice A l.length C ∧ (0 < l.length → ∃ g, A = some ⟨g, 0, none⟩ ∧ ∀ (i : Nat) x, l[i]? = some x → ∀ w', Below X.heap.size X w' → w'.cell? ⟨g, i, none⟩ = some (.int .i64 x)) := by
  obtain ⟨A, C, rfl⟩ := row_form h.row
  refine ⟨A, C, rfl, fun hl => ?_⟩
  obtain ⟨g, cap, hv, -, -⟩ := h.row.form hl
  cases hv
  refine ⟨g, rfl, fun i x hi w' hb => ?_⟩
  rw [hb.cell (p := ⟨g, i, none⟩) (row_lt h.row rfl).2.1, World.ownsRow.cellAt h.row i (by have := (List.getElem?_eq_some_iff.1 hi).1; omega), List.getElem?_map, hi]
  rfl
theorem rows_reads {X : World} {B g n : Nat} {no : Option Nat} {ls : List (List Int)} {cs : List Value} (h : OwnL X B no (.slice (some ⟨g, 0, none⟩) n n) ls cs) (hn : ls.length = n) : ∀ (t : Nat) p, ls[t]? = some p → ∃ A C, (∀ w', Below X.heap.size X w' → w'.cell? ⟨g, t, none⟩ = some (.slice A p.length C)) ∧
    (0 < p.length → ∃ g, A = some ⟨g, 0, none⟩ ∧ ∀ (i : Nat) x, p[i]? = some x → ∀ w', Below X.heap.size X w' → w'.cell? ⟨g, i, none⟩ = some (.int .i64 x)) := by
  intro t p hp
  obtain ⟨c, hc, hI⟩ := h.at_ hp
  obtain ⟨A, C, rfl, h2⟩ := int_reads hI
  refine ⟨A, C, fun w' hb => ?_, h2⟩
  subst hn
  rw [hb.cell (p := ⟨g, t, none⟩) (row_lt h.row rfl).2.1, World.ownsRow.cellAt h.row t (by have := (List.getElem?_eq_some_iff.1 hp).1; omega)]
  exact hc
/-- how many ways on the first b blocks have -/
def waysS (sc : Int → List Int) (b : Nat) : Nat := ((List.range b).map fun (x : Nat) => (sc x).length).sum
theorem ways_step (sc : Int → List Int) (b : Nat) : waysS sc (b + 1) = waysS sc b + (sc b).length := by simp [waysS, List.range_succ]
theorem ways_le {sc : Int → List Int} {n : Nat} (h : ∀ b, (sc b).length ≤ n) : ∀ b : Nat, waysS sc b ≤ b * n
  | 0 => by simp [waysS]
  | b + 1 => by rw [ways_step, Nat.succ_mul]; have := ways_le h b; have := h b; omega
def lensS (ls : List (List Int)) (t : Nat) : Nat := ((ls.take t).map List.length).sum
theorem lens_step {ls : List (List Int)} {t : Nat} {p : List Int} (h : ls[t]? = some p) : lensS ls (t + 1) = lensS ls t + p.length := by
  unfold lensS
  rw [List.take_add_one, h]
  simp
theorem lens_le (ls : List (List Int)) : ∀ t : Nat, lensS ls t ≤ (ls.map List.length).sum := by
  intro t
  have h : (ls.map List.length).sum = lensS ls t + ((ls.drop t).map List.length).sum := by
    unfold lensS
    rw [← List.sum_append, ← List.map_append, List.take_append_drop]
  omega
theorem lens_end (ls : List (List Int)) : lensS ls ls.length = (ls.map List.length).sum := by simp [lensS]
theorem found_step {p : List Int} {k : Nat} {x b : Int} (h : p[k]? = some x) : decide (b ∈ p.take (k + 1)) = (decide (b ∈ p.take k) || x == b) := by
  rw [List.take_add_one, h]
  rw [Bool.eq_iff_iff]
  simp only [decide_eq_true_eq, List.mem_append, Option.toList_some, List.mem_singleton, Bool.or_eq_true, beq_iff_eq]
  exact ⟨fun h => h.imp id Eq.symm, fun h => h.imp id Eq.symm⟩
theorem reach_step {bs : List (List Ins)} {b t : Nat} (hb : (reachF bs)[b]? = some true) (hbl : b < bs.length) (ht : (t : Int) ∈ succsF bs b) (htl : t < bs.length) : (reachF bs)[t]? = some true := by
  rw [reach_at _ _ hbl] at hb
  rw [reach_at _ _ htl]
  have h1 : (b : Int) ∈ orderF bs := by simpa using hb
  have h2 := ((order_ok bs).mem _).1 h1
  have h3 := ((order_ok bs).mem (t : Int)).2 ⟨h2.1, .step h2.2 ht⟩
  simp [h3]
end Go.Proofs.Yteeclobpajalmaa
