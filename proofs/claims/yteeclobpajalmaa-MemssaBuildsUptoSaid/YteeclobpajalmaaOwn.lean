/- A slice that the call itself has built by append, as a list of data. No condition. -/
import Derived.Test.YteeclobpajalmaaOnly
import Derived.OwnWalk
import Derived.Laws.OwnMore
namespace Go.Proofs.Yteeclobpajalmaa
open Go.RowKit

/-- v is a slice that the call has built (from block 'base' on): the data ys, n cells each, the parts of each below B -/
def Own {α : Type} (R : Rp α) (n : Nat) (T : TypeId) (w : World) (base B : Nat) (v : Value) (ys : List α) : Prop :=
  ∃ ess : List (List Value), ess.length = ys.length ∧ w.ownsRow base T n v ys.length ess.flatten ∧ ∀ (i : Nat) es y, ess[i]? = some es → ys[i]? = some y → es.length = n ∧ R.rep w B es y

section
variable {α : Type} {R : Rp α} {n : Nat} {T : TypeId} {w w' : World} {base B : Nat} {v v' : Value} {ys : List α}
theorem Own.nil_ : Own R n T w base B (.slice none 0 0) [] := ⟨[], rfl, ⟨by simp, .inl ⟨rfl, rfl⟩⟩, fun i es y h => by simp at h⟩
theorem Own.row (h : Own R n T w base B v ys) : ∃ xs, w.ownsRow base T n v ys.length xs := by obtain ⟨ess, _, h, _⟩ := h; exact ⟨_, h⟩
theorem flatten_at {n : Nat} : ∀ {ess : List (List Value)} {i j : Nat} {es : List Value} {u : Value}, (∀ es, es ∈ ess → es.length = n) → ess[i]? = some es → es[j]? = some u → ess.flatten[i * n + j]? = some u
  | [], i, j, es, u, _, h, _ => by simp at h
  | e :: r, 0, j, es, u, hl, h, hu => by
    injection h with h
    subst h
    have hj := (List.getElem?_eq_some_iff.1 hu).1
    rw [List.flatten_cons, Nat.zero_mul, Nat.zero_add, List.getElem?_append_left hj]
    exact hu
  | e :: r, i + 1, j, es, u, hl, h, hu => by
    have he := hl e (List.mem_cons_self ..)
    have := flatten_at (n := n) (i := i) (j := j) (fun es hes => hl es (List.mem_cons_of_mem _ hes)) (by simpa using h) hu
    rw [List.flatten_cons, List.getElem?_append_right (by rw [he, Nat.add_mul]; omega), he]
    rw [show (i + 1) * n + j - n = i * n + j by rw [Nat.add_mul]; omega]
    exact this
theorem Own.rep (h : Own R n T w base B v ys) (hB : B ≤ w.heap.size) : (Rp.slice n R).rep w w.heap.size [v] ys := by
  obtain ⟨ess, hl, hown, hr⟩ := h
  rcases hown.2 with ⟨rfl, h0⟩ | ⟨g, cap, cur, rfl, hg, hh, hnc, hcm, hcs, htake⟩
  · have : ys = [] := List.eq_nil_of_length_eq_zero h0
    subst this
    exact Rp.nil_rep
  · refine ⟨_, cap, rfl, hnc, hcm, fun hpos => ⟨g, 0, rfl, (Array.getElem?_eq_some_iff.1 hh).1, fun i y hy => ?_⟩⟩
    have hi := (List.getElem?_eq_some_iff.1 hy).1
    have hes : ess[i]? = some (ess[i]'(by omega)) := List.getElem?_eq_getElem (by omega)
    obtain ⟨h1, h2⟩ := hr i _ y hes hy
    refine ⟨_, h1, R.keep h2 (fun _ _ => rfl) hB, fun j u hu => ?_⟩
    have hall : ∀ es, es ∈ ess → es.length = n := fun es hm => by
      obtain ⟨k, hk⟩ := List.mem_iff_getElem?.1 hm
      have hk' := (List.getElem?_eq_some_iff.1 hk).1
      exact (hr k es _ hk (List.getElem?_eq_getElem (by omega))).1
    have hf := flatten_at hall hes hu
    rw [← htake] at hf
    have hlt : i * n + j < ys.length * n := by
      have hj := (List.getElem?_eq_some_iff.1 hu).1
      rw [h1] at hj
      have a1 : i * n + j < i * n + n := by omega
      have a2 : i * n + n = (i + 1) * n := by rw [Nat.add_mul]; omega
      have a3 : (i + 1) * n ≤ ys.length * n := Nat.mul_le_mul_right n hi
      omega
    rw [List.getElem?_take_of_lt hlt] at hf
    simp only [World.cell?, hh, Nat.zero_add]
    rw [← Array.getElem?_toList]
    simpa using hf
/-- kept while blocks below B stay, and its own row is not written -/
theorem Own.kept {row : Option Nat} (h : Own R n T w base B v ys) (hg : w.grownBy w' row) (hne : v.ownBlock = none ∨ v.ownBlock ≠ row) (hB : B ≤ w.heap.size) (hr : ∀ k, row = some k → B ≤ k) : Own R n T w' base B v ys := by
  obtain ⟨ess, hl, hown, hrep⟩ := h
  refine ⟨ess, hl, hown.kept hg hne, fun i es y h1 h2 => ?_⟩
  obtain ⟨h3, h4⟩ := hrep i es y h1 h2
  exact ⟨h3, R.keep h4 (fun p hp => World.cell?_of_block (w := w) (hg.block p.block (by omega) (fun e => by have := hr _ e.symm; omega))) (Nat.le_refl _)⟩
theorem Own.alloc (h : Own R n T w base B v ys) (hB : B ≤ w.heap.size) (o : Obj) : Own R n T (w.alloc o) base B v ys :=
  h.kept (World.grownBy_alloc w o none) (by cases hv : v.ownBlock <;> simp) hB (fun k hk => by cases hk)
/-- behind an append -/
theorem Own.snoc {es : List Value} {y : α} {ess : List (List Value)} (hl : ess.length = ys.length) (hrep : ∀ (i : Nat) es y, ess[i]? = some es → ys[i]? = some y → es.length = n ∧ R.rep w B es y)
    (hown : w'.ownsRow base T n v' (ys.length + 1) (ess.flatten ++ es)) (hg : w.grownBy w' v.ownBlock) (hb : ∀ k, v.ownBlock = some k → B ≤ k) (hB : B ≤ w.heap.size) (he : es.length = n) (hy : R.rep w B es y) : Own R n T w' base B v' (ys ++ [y]) := by
  have hk : ∀ p : Addr, p.block < B → w'.cell? p = w.cell? p := fun p hp => World.cell?_of_block (w := w) (hg.block p.block (by omega) (fun e => by have := hb _ e.symm; omega))
  refine ⟨ess ++ [es], by simp [hl], by simpa [List.flatten_append] using hown, fun i es' y' h1 h2 => ?_⟩
  rcases Nat.lt_or_ge i ess.length with hi | hi
  · rw [List.getElem?_append_left hi] at h1
    rw [List.getElem?_append_left (by omega)] at h2
    obtain ⟨h3, h4⟩ := hrep i es' y' h1 h2
    exact ⟨h3, R.keep h4 hk (Nat.le_refl _)⟩
  · rw [List.getElem?_append_right hi] at h1
    rw [List.getElem?_append_right (by omega)] at h2
    have h0 : i - ess.length = 0 := by have := (List.getElem?_eq_some_iff.1 h1).1; simp at this; omega
    rw [h0] at h1
    rw [show i - ys.length = 0 by omega] at h2
    injection h1 with h1
    injection h2 with h2
    subst h1; subst h2
    exact ⟨he, R.keep hy hk (Nat.le_refl _)⟩
end
/-- rows of different element types never share a block -/
theorem own_ne {w : World} {b1 b2 : Nat} {T1 T2 : TypeId} {n1 n2 m1 m2 : Nat} {v1 v2 : Value} {x1 x2 : List Value} (h1 : w.ownsRow b1 T1 n1 v1 m1 x1) (h2 : w.ownsRow b2 T2 n2 v2 m2 x2) (hT : T1 ≠ T2) : v1.ownBlock = none ∨ v1.ownBlock ≠ v2.ownBlock := by
  rcases h1.2 with ⟨rfl, _⟩ | ⟨g, cap, cur, rfl, _, hh, _⟩
  · exact .inl rfl
  · refine .inr ?_
    rcases h2.2 with ⟨rfl, _⟩ | ⟨g', cap', cur', rfl, _, hh', _⟩
    · simp [Value.ownBlock]
    · intro e
      simp only [Value.ownBlock, Option.some.injEq] at e
      subst e
      rw [hh] at hh'
      injection hh' with hh'
      injection hh' with _ ht
      exact hT ht
end Go.Proofs.Yteeclobpajalmaa
