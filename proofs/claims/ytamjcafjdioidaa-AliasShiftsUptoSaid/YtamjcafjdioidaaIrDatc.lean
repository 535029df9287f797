/- Where the k-th instruction stands, in plain Lean. No condition. -/
import Derived.Test.YtamjcafjdioidaaIrW
namespace Go.Proofs.Ytamjcafjdioidaa

theorem beforeP_row (bs : List (List Ins)) (n : Nat) : beforeP bs (n + 1) 0 = beforeP bs n 0 ++ rowP n (bs.getD n []).length := by
  unfold beforeP
  rw [List.range_succ, List.flatMap_append]
  simp [rowP]
theorem beforeP_pre (bs : List (List Ins)) (i : Nat) : ∀ d : Nat, ∃ r, beforeP bs i 0 ++ r = beforeP bs (i + d) 0
  | 0 => ⟨[], by simp⟩
  | d + 1 => by
    obtain ⟨r, hr⟩ := beforeP_pre bs i d
    exact ⟨r ++ rowP (i + d) (bs.getD (i + d) []).length, by rw [← List.append_assoc, hr, ← beforeP_row]; rfl⟩
theorem rowP_pre (i : Nat) {j n : Nat} (h : j ≤ n) : ∃ r, rowP i j ++ r = rowP i n := by
  refine ⟨((List.range (n - j)).map fun (k : Nat) => ⟨0, (i : Int), ((j + k : Nat) : Int)⟩), ?_⟩
  unfold rowP
  have e : List.range n = List.range j ++ (List.range (n - j)).map (j + ·) := by
    have := @List.range_add j (n - j)
    rwa [show j + (n - j) = n by omega] at this
  rw [e, List.map_append, List.map_map]
  rfl
theorem beforeP_all {bs : List (List Ins)} {i j : Nat} {x : List Ins} (hx : bs[i]? = some x) (hj : j ≤ x.length) : ∃ r, beforeP bs i j ++ r = beforeP bs bs.length 0 := by
  have hi := (List.getElem?_eq_some_iff.1 hx).1
  obtain ⟨r1, h1⟩ := rowP_pre i hj
  obtain ⟨r2, h2⟩ := beforeP_pre bs (i + 1) (bs.length - (i + 1))
  rw [show i + 1 + (bs.length - (i + 1)) = bs.length by omega] at h2
  refine ⟨r1 ++ r2, ?_⟩
  rw [← h2, beforeP_row, getD_nil hx, ← h1]
  simp [beforeP, rowP]
theorem pos_place {bs : List (List Ins)} {i j : Nat} {x : List Ins} {ins : Ins} (hx : bs[i]? = some x) (hi : x[j]? = some ins) : (beforeP bs bs.length 0)[(before bs i j).length]? = some ⟨0, i, j⟩ := by
  have hj := (List.getElem?_eq_some_iff.1 hi).1
  have hil := (List.getElem?_eq_some_iff.1 hx).1
  obtain ⟨r, hr⟩ := beforeP_all hx (j := j + 1) (by omega)
  rw [← hr, beforeP_step, ← beforeP_length i j (.inr ⟨x, hx, by omega⟩) (by omega), List.append_assoc, List.getElem?_append_right (Nat.le_refl _)]
  simp
theorem pos_ins {bs : List (List Ins)} {i j : Nat} {x : List Ins} {ins : Ins} (hx : bs[i]? = some x) (hi : x[j]? = some ins) : bs.flatten[(before bs i j).length]? = some ins ∧ bs.flatten.take (before bs i j).length = before bs i j := by
  obtain ⟨r, hr⟩ := @before_prefix bs i (j + 1)
  rw [before_step hx hi] at hr
  rw [← hr, List.append_assoc]
  refine ⟨?_, by simp⟩
  rw [List.getElem?_append_right (Nat.le_refl _)]
  simp
theorem before_len {bs : List (List Ins)} {i j : Nat} {x : List Ins} (hx : bs[i]? = some x) (hj : j ≤ x.length) : (before bs i j).length = (before bs i 0).length + j := by
  unfold before
  rw [getD_nil hx]
  simp only [List.length_append, List.take_zero, List.length_nil, Nat.add_zero, List.length_take]
  omega
theorem place_of (bs : List (List Ins)) : ∀ i : Nat, i ≤ bs.length → ∀ k, k < (before bs i 0).length → ∃ i j x ins, bs[i]? = some x ∧ x[j]? = some ins ∧ (before bs i j).length = k
  | 0, _, k, hk => by simp [before] at hk
  | i + 1, hi, k, hk => by
    obtain ⟨x, hx⟩ : ∃ x, bs[i]? = some x := ⟨_, List.getElem?_eq_getElem (by omega)⟩
    rcases Nat.lt_or_ge k (before bs i 0).length with h | h
    · exact place_of bs i (by omega) k h
    · rw [← before_next hx, before_len hx (Nat.le_refl _)] at hk
      refine ⟨i, k - (before bs i 0).length, x, x[k - (before bs i 0).length]'(by omega), hx, List.getElem?_eq_getElem (by omega), ?_⟩
      rw [before_len hx (by omega)]
      omega
theorem def_of {bs : List (List Ins)} {r : Int} {k : Nat} {ins : Ins} (hk : bs.flatten[k]? = some ins) (hd : defs ins r = true) (hn : noDef (bs.flatten.take k) r) : ∃ i j : Nat, IsDef bs r i j ∧ (beforeP bs bs.length 0)[k]? = some ⟨0, i, j⟩ := by
  have hlt := (List.getElem?_eq_some_iff.1 hk).1
  obtain ⟨i, j, x, ins', hx, hi, hl⟩ := place_of bs bs.length (Nat.le_refl _) k (by rw [before_end]; exact hlt)
  obtain ⟨h1, h2⟩ := pos_ins hx hi
  have h3 := pos_place hx hi
  rw [hl] at h1 h2 h3
  rw [hk] at h1
  injection h1 with h1
  subst h1
  exact ⟨i, j, ⟨x, ins, hx, hi, hd, h2 ▸ hn⟩, h3⟩
theorem def_unique {bs : List (List Ins)} {r : Int} {i j i' j' : Nat} (h : IsDef bs r i j) (k : IsDef bs r i' j') : i = i' ∧ j = j' := by
  obtain ⟨x, a, hx, hi, hd, hn⟩ := h
  obtain ⟨y, b, ky, ki, kd, kn⟩ := k
  obtain ⟨h1, h2⟩ := pos_ins hx hi
  obtain ⟨k1, k2⟩ := pos_ins ky ki
  have h3 := pos_place hx hi
  have k3 := pos_place ky ki
  rcases Nat.lt_trichotomy (before bs i j).length (before bs i' j').length with hlt | he | hlt
  · have hm : a ∈ before bs i' j' := by
      rw [← k2]
      exact List.mem_of_getElem? (by rw [List.getElem?_take_of_lt hlt]; exact h1)
    rw [kn a hm] at hd; cases hd
  · rw [he, k3] at h3
    injection h3 with h3
    injection h3 with _ e1 e2
    omega
  · have hm : b ∈ before bs i j := by
      rw [← h2]
      exact List.mem_of_getElem? (by rw [List.getElem?_take_of_lt hlt]; exact k1)
    rw [hn b hm] at kd; cases kd

end Go.Proofs.Ytamjcafjdioidaa
