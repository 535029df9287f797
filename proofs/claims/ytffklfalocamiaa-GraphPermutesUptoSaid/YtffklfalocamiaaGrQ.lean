/- Where each block stands in an order; no program is in sight. No condition. -/
import Derived.Test.YtffklfalocamiaaGrO
namespace Go.Proofs.Ytffklfalocamiaa
set_option linter.unusedVariables false

def atS (O : List Int) (n : Nat) : Nat → List Int
  | 0 => List.replicate n 0
  | m + 1 => match O[m]? with
    | none => atS O n m
    | some b => (atS O n m).set b.toNat ((m : Int) + 1)
theorem atS_step {O : List Int} {n m : Nat} {b : Int} (h : O[m]? = some b) : atS O n (m + 1) = (atS O n m).set b.toNat ((m : Int) + 1) := by
  rw [atS, h]
theorem atS_len (O : List Int) (n : Nat) : ∀ m, (atS O n m).length = n
  | 0 => by simp [atS]
  | m + 1 => by
    rw [atS]
    split
    · exact atS_len O n m
    · rw [List.length_set]; exact atS_len O n m
theorem atS_none {O : List Int} {n : Nat} (hb : ∀ x, x ∈ O → 0 ≤ x) {k : Nat} (hk : k < n) : ∀ m, (k : Int) ∉ O.take m → (atS O n m)[k]? = some 0
  | 0, _ => by simp [atS, hk]
  | m + 1, h => by
    rw [List.take_add_one] at h
    have ih := atS_none hb hk m (fun e => h (List.mem_append_left _ e))
    rw [atS]
    split
    · exact ih
    · rename_i b hbm
      rw [hbm] at h
      have : b ≠ (k : Int) := fun e => h (List.mem_append_right _ (by rw [e]; simp))
      have := hb b (List.mem_of_getElem? hbm)
      rw [List.getElem?_set_ne (by omega)]
      exact ih
theorem atS_pos {O : List Int} {n : Nat} (hb : ∀ x, x ∈ O → 0 ≤ x) (hd : O.Nodup) {k i : Nat} (hk : k < n) (hi : O[i]? = some (k : Int)) : ∀ m, i < m → (atS O n m)[k]? = some ((i : Int) + 1)
  | 0, h => by omega
  | m + 1, h => by
    by_cases him : i = m
    · subst him
      rw [atS_step hi, Int.toNat_natCast, List.getElem?_set_self (by rw [atS_len]; exact hk)]
    · have ih := atS_pos hb hd hk hi m (by omega)
      rw [atS]
      split
      · exact ih
      · rename_i b hbm
        have hne : b ≠ (k : Int) := fun e => by
          obtain ⟨h1, h2⟩ := List.getElem?_eq_some_iff.1 hi
          obtain ⟨h3, h4⟩ := List.getElem?_eq_some_iff.1 hbm
          exact (List.pairwise_iff_getElem.1 hd) i m h1 h3 (by omega) (by rw [h2, h4, e])
        have := hb b (List.mem_of_getElem? hbm)
        rw [List.getElem?_set_ne (by omega)]
        exact ih
theorem not_mem_take {O : List Int} (hd : O.Nodup) {m : Nat} {b : Int} (h : O[m]? = some b) : b ∉ O.take m := fun hm => by
  obtain ⟨j, hj⟩ := List.getElem?_of_mem hm
  rw [List.getElem?_take] at hj
  split at hj
  · rename_i hjm
    obtain ⟨h1, h2⟩ := List.getElem?_eq_some_iff.1 h
    obtain ⟨h3, h4⟩ := List.getElem?_eq_some_iff.1 hj
    exact (List.pairwise_iff_getElem.1 hd) j m h3 h1 hjm (by rw [h2, h4])
  · cases hj
/-- what is told of where each block stands -/
structure AtOk (bs : List (List Ins)) (A : List Int) : Prop where
  len : A.length = bs.length
  mem : ∀ (k : Nat) v, A[k]? = some v → 0 ≤ v ∧ v ≤ bs.length ∧ (0 < v ↔ (k : Int) ∈ orderF bs)
  ahead : ∀ (k : Nat) v, A[k]? = some v → (k : Int) ∈ orderF bs → k ≠ 0 → ∃ (y : Nat) (u : Int), (k : Int) ∈ succsF bs y ∧ y < bs.length ∧ A[y]? = some u ∧ 0 < u ∧ u < v
theorem at_ok (bs : List (List Ins)) : AtOk bs (atS (orderF bs) bs.length (orderF bs).length) := by
  have ho := order_ok bs
  have hb : ∀ x, x ∈ orderF bs → 0 ≤ x := fun x hx => (ho.bound x hx).1
  refine ⟨atS_len _ _ _, fun k v hv => ?_, fun k v hv hk hk0 => ?_⟩
  · have hkl : k < bs.length := by have := (List.getElem?_eq_some_iff.1 hv).1; rwa [atS_len] at this
    by_cases hk : (k : Int) ∈ orderF bs
    · obtain ⟨i, hi⟩ := List.getElem?_of_mem hk
      have hil := (List.getElem?_eq_some_iff.1 hi).1
      have := order_len bs
      rw [atS_pos hb ho.nodup hkl hi _ hil] at hv
      cases hv
      exact ⟨by omega, by omega, ⟨fun _ => hk, fun _ => by omega⟩⟩
    · rw [atS_none hb hkl _ (by rw [List.take_length]; exact hk)] at hv
      cases hv
      exact ⟨by omega, by omega, ⟨fun h => by omega, fun h => (hk h).elim⟩⟩
  · have hkl : k < bs.length := by have := (List.getElem?_eq_some_iff.1 hv).1; rwa [atS_len] at this
    obtain ⟨y, hy, p, q, e, hyp⟩ := ho.ahead _ hk (by omega)
    have hyb := ho.bound y (by rw [e]; exact List.mem_append_left _ hyp)
    obtain ⟨yn, rfl⟩ := Int.eq_ofNat_of_zero_le hyb.1
    obtain ⟨i, hi⟩ := List.getElem?_of_mem hyp
    have hil := (List.getElem?_eq_some_iff.1 hi).1
    have h1 : (orderF bs)[i]? = some (yn : Int) := by rw [e, List.getElem?_append_left hil]; exact hi
    have h2 : (orderF bs)[p.length]? = some (k : Int) := by rw [e, List.getElem?_append_right (Nat.le_refl _), Nat.sub_self]; rfl
    have h3 := (List.getElem?_eq_some_iff.1 h1).1
    have h4 := (List.getElem?_eq_some_iff.1 h2).1
    rw [atS_pos hb ho.nodup hkl h2 _ h4] at hv
    cases hv
    exact ⟨yn, _, hy, by omega, atS_pos hb ho.nodup (by omega) h1 _ h3, by omega, by omega⟩
/-- one of the first k of p stands ahead -/
def aheadS (A : List Int) (v : Int) (b : Nat) (p : List Int) : Bool := ((b : Int) == 0) || p.any fun x => decide (A.getD x.toNat 0 > 0) && decide (A.getD x.toNat 0 < v)
theorem ahead_step {A : List Int} {v : Int} {b k : Nat} {p : List Int} {x : Int} {u : Int} (h : p[k]? = some x) (hu : A[x.toNat]? = some u) : aheadS A v b (p.take (k + 1)) = (aheadS A v b (p.take k) || (decide (u > 0) && decide (u < v))) := by
  unfold aheadS
  rw [List.take_add_one, h, List.any_append, Bool.or_assoc]
  simp [List.getD, hu]
theorem ahead_end {bs : List (List Ins)} {A : List Int} {b : Nat} {v : Int} {p : List Int} (hA : AtOk bs A) (hv : A[b]? = some v) (hb : (b : Int) ∈ orderF bs) (hp : (predsL (succsF bs) bs.length)[b]? = some p) : aheadS A v b p = true := by
  unfold aheadS
  by_cases h0 : b = 0
  · subst h0; rfl
  · obtain ⟨y, u, h1, h2, h3, h4, h5⟩ := hA.ahead b v hv hb h0
    rw [Bool.or_eq_true]
    refine .inr (List.any_eq_true.2 ⟨(y : Int), (predsL_mem hp _).2 ⟨by omega, by omega, h1⟩, ?_⟩)
    simp [List.getD, h3, h4, h5]
end Go.Proofs.Ytffklfalocamiaa
