/- loops.above. No condition but sizes. | loops.latches. No condition but sizes. -/
import Derived.Test.YteeclobpajalmaaFrC
import Derived.Test.YteeclobpajalmaaDoG
namespace Go.Proofs.Yteeclobpajalmaa
open Go.RowKit
set_option linter.unusedSimpArgs false
set_option linter.unusedVariables false

/-- going up from b, so far at x -/
def AbS (sc : Int → List Int) (o : List Int) (a b x : Int) : Prop := (x = -1 ∧ ¬ Dom sc o a b) ∨ (x ∈ o ∧ (Dom sc o a b ↔ Dom sc o a x))
section
variable {sc : Int → List Int} {o l : List Int} {n : Nat} {a b x v : Int}
theorem abs_start (hb : b ∈ o) : AbS sc o a b b := .inr ⟨hb, Iff.rfl⟩
theorem abs_bound (O : OrderOk n sc o) (h : AbS sc o a b x) : x = -1 ∨ (0 ≤ x ∧ x < n ∧ x ∈ o) := by
  rcases h with ⟨h, -⟩ | ⟨h, -⟩
  · exact .inl h
  · have := O.bound _ h; exact .inr ⟨this.1, this.2, h⟩
theorem abs_step (I : IdomOk sc o n l) (O : OrderOk n sc o) (hn : 0 < n) {xn : Nat} (h : AbS sc o a b xn) (hne : (xn : Int) ≠ a) (hv : l[xn]? = some v) : AbS sc o a b v ∧ muW o v < muW o xn := by
  rcases h with ⟨h, -⟩ | ⟨h1, h2⟩
  · omega
  by_cases h0 : xn = 0
  · subst h0
    have hz := I.none_ 0 (by omega) (.inr rfl)
    rw [hv] at hz
    cases hz
    refine ⟨.inl ⟨rfl, fun h => hne ?_⟩, ?_⟩
    · exact (dom_zero_only O hn I (h2.1 h)).symm
    · unfold muW
      rw [if_pos rfl, if_neg (by omega)]
      omega
  · obtain ⟨g1, g2, g3, g4, g5⟩ := up_parts I O hn h1 h0 hv
    have hb := O.bound _ g1
    refine ⟨.inr ⟨g1, h2.trans ((g3 a).trans ⟨fun h => h.resolve_left (fun e => hne e.symm), .inr⟩)⟩, ?_⟩
    unfold muW
    rw [if_neg (by omega), if_neg (by omega)]
    omega
end
end Go.Proofs.Yteeclobpajalmaa

namespace Go.Proofs.Yteeclobpajalmaa
open Go.RowKit
set_option linter.unusedSimpArgs false
set_option linter.unusedVariables false

/-- rows 0 .. a-1 whole, row a so far -/
def rU (D : Nat → List Int) (n a : Nat) (q : List Int) : List (List Int) := (List.range n).map fun t => if t < a then D t else if t = a then q else []
section
variable {D : Nat → List Int} {n a : Nat} {q q' : List Int}
theorem rU_len (D : Nat → List Int) (n a : Nat) (q : List Int) : (rU D n a q).length = n := by simp [rU]
theorem rU_at {t : Nat} (h : t < n) : (rU D n a q)[t]? = some (if t < a then D t else if t = a then q else []) := by simp [rU, h]
theorem rU_self (h : a < n) : (rU D n a q)[a]? = some q := by rw [rU_at h]; simp
theorem rU_ext {l : List (List Int)} (hl : l.length = n) (h : ∀ t, t < n → l[t]? = some (if t < a then D t else if t = a then q else [])) : l = rU D n a q := by
  refine List.ext_getElem? fun k => ?_
  by_cases hk : k < n
  · rw [h k hk, rU_at hk]
  · rw [List.getElem?_eq_none (by omega), List.getElem?_eq_none (by rw [rU_len]; omega)]
theorem rU_start : rU D n 0 [] = List.replicate n [] := (rU_ext (by simp) fun t ht => by
  rw [List.getElem?_replicate, if_pos ht]
  simp).symm
theorem rU_next : rU D n a (D a) = rU D n (a + 1) [] := rU_ext (rU_len ..) fun t ht => by
  rw [rU_at ht]
  by_cases h1 : t < a
  · rw [if_pos h1, if_pos (by omega)]
  · by_cases h2 : t = a
    · rw [if_neg h1, if_pos h2, if_pos (by omega), h2]
    · rw [if_neg h1, if_neg h2, if_neg (by omega)]; simp
theorem rU_end : rU D n n [] = (List.range n).map D := by
  refine List.ext_getElem? fun k => ?_
  by_cases hk : k < n
  · rw [rU_at hk, if_pos hk]; simp [hk]
  · rw [List.getElem?_eq_none (by rw [rU_len]; omega), List.getElem?_eq_none (by simp; omega)]
theorem rU_push (ha : a < n) : (rU D n a q).set a q' = rU D n a q' := rU_ext (by rw [List.length_set, rU_len]) fun t ht => by
  by_cases e : a = t
  · subst e; rw [List.getElem?_set_self (by rw [rU_len]; exact ht)]; simp
  · rw [List.getElem?_set_ne e, rU_at ht]
    have e2 : ¬ t = a := fun e3 => e e3.symm
    rw [if_neg e2, if_neg e2]
end
/-- a block's predecessors that it dominates -/
noncomputable def latF (sc : Int → List Int) (o : List Int) (P : List (List Int)) (h : Nat) : List Int := ((P[h]?).getD []).filter fun x => domB sc o h x
noncomputable def latL (sc : Int → List Int) (o : List Int) (P : List (List Int)) (n : Nat) : List (List Int) := (List.range n).map (latF sc o P)
def LatPost (sc : Int → List Int) (o : List Int) (P : List (List Int)) (n : Nat) (w : World) (e : Ending) (w' : World) : Prop := ∃ g cs, e = .returned (.slice (some ⟨g, 0, none⟩) n n) ∧ OwnL w' w.heap.size none (.slice (some ⟨g, 0, none⟩) n n) (latL sc o P n) cs ∧ Below w.heap.size w w'
noncomputable def latP (sc : Int → List Int) (o p : List Int) (h i : Nat) : List Int := (p.take i).filter fun x => domB sc o h x
theorem latP_step {sc : Int → List Int} {o p : List Int} {h i : Nat} {x : Int} (hx : p[i]? = some x) : latP sc o p h (i + 1) = latP sc o p h i ++ (if domB sc o h x = true then [x] else []) := by
  unfold latP
  rw [List.take_add_one, hx, List.filter_append]
  by_cases e : domB sc o h x = true
  · simp [e]
  · simp [e]
theorem latP_len {sc : Int → List Int} {o p : List Int} {h i : Nat} : (latP sc o p h i).length ≤ p.length := by
  unfold latP
  exact Nat.le_trans (List.length_filter_le ..) (by rw [List.length_take]; omega)
theorem latP_end {sc : Int → List Int} {o p : List Int} {P : List (List Int)} {h : Nat} (hp : P[h]? = some p) : latP sc o p h p.length = latF sc o P h := by
  unfold latP latF
  rw [hp, List.take_length]
  rfl
end Go.Proofs.Yteeclobpajalmaa
