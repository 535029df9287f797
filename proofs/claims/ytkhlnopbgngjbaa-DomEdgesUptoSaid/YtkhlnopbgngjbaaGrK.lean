/- What precedes which block, as graph.Preds gathers it; no program is in sight. No condition. -/
import Derived.Test.YtkhlnopbgngjbaaGrD
namespace Go.Proofs.Ytkhlnopbgngjbaa
set_option linter.unusedVariables false

def predsAt (succ : Int → List Int) (t : Int) (b : Nat) : List Int := ((List.range b).filter fun (x : Nat) => decide (t ∈ succ (x : Int))).map Int.ofNat
def predsPart (succ : Int → List Int) (n b i : Nat) : List (List Int) := (List.range n).map fun (t : Nat) => predsAt succ t b ++ (if (t : Int) ∈ (succ b).take i then [(b : Int)] else [])
def predsL (succ : Int → List Int) (n : Nat) : List (List Int) := (List.range n).map fun (t : Nat) => predsAt succ t n
theorem predsPart_len (succ : Int → List Int) (n b i : Nat) : (predsPart succ n b i).length = n := by simp [predsPart]
theorem predsL_len (succ : Int → List Int) (n : Nat) : (predsL succ n).length = n := by simp [predsL]
theorem predsPart_end (succ : Int → List Int) (n b : Nat) : predsPart succ n b (succ b).length = predsPart succ n (b + 1) 0 := by
  unfold predsPart
  refine List.map_congr_left fun t _ => ?_
  have e0 : ¬ (t : Int) ∈ (succ ((b + 1 : Nat) : Int)).take 0 := by rw [List.take_zero]; intro h; cases h
  rw [List.take_length, if_neg e0, List.append_nil]
  unfold predsAt
  rw [List.range_succ, List.filter_append, List.map_append]
  congr 1
  by_cases h : (t : Int) ∈ succ b
  · rw [if_pos h]; simp [h]
  · rw [if_neg h]; simp [h]
theorem predsPart_start (succ : Int → List Int) (n : Nat) : predsPart succ n 0 0 = List.replicate n [] := by
  refine List.ext_getElem (by simp [predsPart]) fun k h1 h2 => ?_
  simp [predsPart, predsAt]
theorem predsPart_last (succ : Int → List Int) (n : Nat) : predsPart succ n n 0 = predsL succ n := by
  unfold predsPart predsL
  refine List.map_congr_left fun t _ => ?_
  simp
theorem predsPart_step {succ : Int → List Int} {n b i t : Nat} (hs : (succ b).Nodup) (ht : (succ b)[i]? = some (t : Int)) (htn : t < n) {p : List Int} (hp : (predsPart succ n b i)[t]? = some p) :
    (predsPart succ n b i).set t (p ++ [(b : Int)]) = predsPart succ n b (i + 1) := by
  have htk : (t : Int) ∉ (succ b).take i := fun hm => by
    obtain ⟨j, hj⟩ := List.getElem?_of_mem hm
    rw [List.getElem?_take] at hj
    split at hj
    · rename_i hji
      obtain ⟨h1, h2⟩ := List.getElem?_eq_some_iff.1 ht
      obtain ⟨h3, h4⟩ := List.getElem?_eq_some_iff.1 hj
      exact (List.pairwise_iff_getElem.1 hs) j i h3 h1 hji (h4.trans h2.symm)
    · cases hj
  have hpe : p = predsAt succ t b := by
    unfold predsPart at hp
    rw [List.getElem?_map, List.getElem?_range htn] at hp
    simp only [Option.map_some, Option.some.injEq] at hp
    rw [if_neg htk, List.append_nil] at hp
    exact hp.symm
  subst hpe
  have htake : (succ b).take (i + 1) = (succ b).take i ++ [(t : Int)] := by rw [List.take_add_one, ht]; rfl
  refine List.ext_getElem? fun k => ?_
  by_cases hk : t = k
  · subst hk
    rw [List.getElem?_set_self (by rw [predsPart_len]; exact htn)]
    unfold predsPart
    rw [List.getElem?_map, List.getElem?_range htn]
    simp only [Option.map_some]
    rw [htake, if_pos (by simp)]
  · rw [List.getElem?_set_ne hk]
    unfold predsPart
    rw [List.getElem?_map, List.getElem?_map]
    by_cases hkn : k < n
    · rw [List.getElem?_range hkn]
      simp only [Option.map_some]
      have : ((k : Int) ∈ (succ b).take (i + 1)) ↔ (k : Int) ∈ (succ b).take i := by rw [htake]; simp; omega
      simp only [this]
    · rw [List.getElem?_eq_none (by simpa using hkn)]; rfl
theorem predsPart_at_len {succ : Int → List Int} {n b i t : Nat} {p : List Int} (hp : (predsPart succ n b i)[t]? = some p) : p.length ≤ b + 1 := by
  have htn : t < n := by have := (List.getElem?_eq_some_iff.1 hp).1; rwa [predsPart_len] at this
  unfold predsPart at hp
  rw [List.getElem?_map, List.getElem?_range htn] at hp
  simp only [Option.map_some, Option.some.injEq] at hp
  subst hp
  have h1 : (predsAt succ t b).length ≤ b := by
    unfold predsAt
    rw [List.length_map]
    exact Nat.le_trans (List.length_filter_le _ _) (by simp)
  rw [List.length_append]
  split
  · simp; omega
  · simp; omega
theorem predsL_mem {succ : Int → List Int} {n : Nat} {t : Nat} {p : List Int} (hp : (predsL succ n)[t]? = some p) (x : Int) : x ∈ p ↔ (0 ≤ x ∧ x < n ∧ (t : Int) ∈ succ x) := by
  have ht : t < n := by have := (List.getElem?_eq_some_iff.1 hp).1; rwa [predsL_len] at this
  unfold predsL at hp
  rw [List.getElem?_map, List.getElem?_range ht] at hp
  simp only [Option.map_some, Option.some.injEq] at hp
  subst hp
  unfold predsAt
  simp only [List.mem_map, List.mem_filter, List.mem_range, decide_eq_true_eq]
  constructor
  · rintro ⟨a, ⟨h1, h2⟩, rfl⟩
    exact ⟨by simp, by simpa using h1, h2⟩
  · rintro ⟨h1, h2, h3⟩
    refine ⟨x.toNat, ⟨by omega, by rwa [Int.toNat_of_nonneg h1]⟩, by simp [Int.toNat_of_nonneg h1]⟩
theorem predsL_sorted {succ : Int → List Int} {n : Nat} {t : Nat} {p : List Int} (hp : (predsL succ n)[t]? = some p) : p.Pairwise (· < ·) := by
  have ht : t < n := by have := (List.getElem?_eq_some_iff.1 hp).1; rwa [predsL_len] at this
  unfold predsL at hp
  rw [List.getElem?_map, List.getElem?_range ht] at hp
  simp only [Option.map_some, Option.some.injEq] at hp
  subst hp
  unfold predsAt
  rw [List.pairwise_map]
  refine List.Pairwise.imp ?_ (List.Pairwise.filter _ (List.pairwise_lt_range))
  intro a b h
  exact Int.ofNat_lt.2 h
theorem sum_set : ∀ (l : List (List Int)) (k : Nat) (p q : List Int), l[k]? = some p → ((l.set k q).map List.length).sum + p.length = (l.map List.length).sum + q.length
  | [], k, p, q, h => by cases h
  | x :: l, 0, p, q, h => by simp at h; subst h; simp; omega
  | x :: l, k + 1, p, q, h => by
    have := sum_set l k p q (by simpa using h)
    simp only [List.set_cons_succ, List.map_cons, List.sum_cons]
    omega
theorem predsPart_sum_in {succ : Int → List Int} {n b : Nat} (hs : SuccOk n (succ b)) : ∀ i, i ≤ (succ b).length → ((predsPart succ n b i).map List.length).sum = ((predsPart succ n b 0).map List.length).sum + i
  | 0, _ => rfl
  | i + 1, hi => by
    have h1 := predsPart_sum_in hs i (by omega)
    have hx : (succ b)[i]? = some (succ b)[i] := List.getElem?_eq_getElem (by omega)
    obtain ⟨hb1, hb2⟩ := hs.bound _ (List.mem_of_getElem? hx)
    obtain ⟨t, ht⟩ := Int.eq_ofNat_of_zero_le hb1
    rw [ht] at hx hb2
    have htn : t < n := by omega
    have hp : (predsPart succ n b i)[t]? = some ((predsPart succ n b i)[t]'(by rw [predsPart_len]; exact htn)) := List.getElem?_eq_getElem _
    have h2 := predsPart_step hs.nodup hx htn hp
    have h3 := sum_set _ t _ ((predsPart succ n b i)[t]'(by rw [predsPart_len]; exact htn) ++ [(b : Int)]) hp
    rw [h2, List.length_append] at h3
    simp only [List.length_cons, List.length_nil] at h3
    omega
theorem predsPart_sum {succ : Int → List Int} {n : Nat} (hs : ∀ b, SuccOk n (succ b)) : ∀ b : Nat, ((predsPart succ n b 0).map List.length).sum = ((List.range b).map fun (x : Nat) => (succ x).length).sum
  | 0 => by rw [predsPart_start]; simp
  | b + 1 => by
    rw [← predsPart_end, predsPart_sum_in (hs b) _ (Nat.le_refl _), predsPart_sum hs b, List.range_succ, List.map_append, List.sum_append]
    simp
theorem predsL_sum {succ : Int → List Int} {n : Nat} (hs : ∀ b, SuccOk n (succ b)) : ((predsL succ n).map List.length).sum = ((List.range n).map fun (x : Nat) => (succ x).length).sum := by
  rw [← predsPart_last, predsPart_sum hs]
end Go.Proofs.Ytkhlnopbgngjbaa
