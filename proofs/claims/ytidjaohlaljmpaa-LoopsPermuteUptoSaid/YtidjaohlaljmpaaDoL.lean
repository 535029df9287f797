/- The law DomPermutes, walked. No condition but sizes. -/
import Derived.Test.YtidjaohlaljmpaaDoG
import Derived.Test.YtidjaohlaljmpaaDoJ
import Derived.Test.YtidjaohlaljmpaaGrZc
namespace Go.Proofs.Ytidjaohlaljmpaa
open Go.RowKit
set_option linter.unusedSimpArgs false
set_option linter.unusedVariables false

theorem pick_mv (a : Int) {n : Nat} (h3 : 3 ≤ n) (hn : n ≤ 2000000) : ∃ A : Nat, Hid (0 < A ∧ A < n) ∧ Hid (wrap64 (1 + wrap64 ((IntKind.u64.wrap a).tmod ((n : Int) - 1))) = (A : Int)) := by
  have h0 : 0 ≤ IntKind.u64.wrap a := wrap_u64_nonneg a
  have h1 : 0 ≤ (IntKind.u64.wrap a) % ((n : Int) - 1) := Int.emod_nonneg _ (by omega)
  have h2 : (IntKind.u64.wrap a) % ((n : Int) - 1) < (n : Int) - 1 := Int.emod_lt_of_pos _ (by omega)
  refine ⟨(1 + (IntKind.u64.wrap a) % ((n : Int) - 1)).toNat, hide ⟨by omega, by omega⟩, hide ?_⟩
  have hw : ∀ z : Int, 0 ≤ z → z ≤ 9223372036854775807 → wrap64 z = z := fun z _ _ => by unfold wrap64; omega
  rw [Int.tmod_eq_emod_of_nonneg h0, hw ((IntKind.u64.wrap a) % ((n : Int) - 1)) (by omega) (by omega), hw _ (by omega) (by omega), Int.toNat_of_nonneg (by omega)]
theorem swap_mem {a b : Nat} {bs : List (List Ins)} (ha : a < bs.length) (hb : b < bs.length) {x : List Ins} (hx : x ∈ swapS a b bs) : ∃ y, y ∈ bs ∧ x = y.map (mvIns a b) := by
  have hm : ∀ k, k < bs.length → ∃ y, y ∈ bs ∧ (mvAll a b bs).getD k [] = y.map (mvIns a b) := fun k hk => ⟨bs[k], List.getElem_mem hk, by simp [mvAll, List.getD, hk]⟩
  unfold swapS at hx
  rcases List.mem_or_eq_of_mem_set hx with hx | rfl
  · rcases List.mem_or_eq_of_mem_set hx with hx | rfl
    · unfold mvAll at hx
      obtain ⟨y, hy, rfl⟩ := List.mem_map.1 hx
      exact ⟨y, hy, rfl⟩
    · exact hm b hb
  · exact hm a ha
theorem small_swap {f : Fun} {a b : Nat} (hs : Small f) (ha : a < f.blocks.length) (hb : b < f.blocks.length) : Small (setBlocks f (swapS a b f.blocks)) := by
  refine ⟨hs.params, by show (swapS a b f.blocks).length ≤ _; rw [swap_len]; exact hs.blocks, fun x hx => ?_⟩
  obtain ⟨y, hy, rfl⟩ := swap_mem ha hb hx
  obtain ⟨h1, h2⟩ := hs.code y hy
  refine ⟨by rw [List.length_map]; exact h1, fun i hi => ?_⟩
  obtain ⟨j, hj, rfl⟩ := List.mem_map.1 hi
  exact ⟨(h2 j hj).1, by show (j.to.map _).length ≤ _; rw [List.length_map]; exact (h2 j hj).2⟩
theorem IdomOk.within {sc : Int → List Int} {o l : List Int} {n k : Nat} {u : Int} (I : IdomOk sc o n l) (O : OrderOk n sc o) (h : l[k]? = some u) : -1 ≤ u ∧ u < n := I.ok O u (List.mem_of_getElem? h)
end Go.Proofs.Ytidjaohlaljmpaa
