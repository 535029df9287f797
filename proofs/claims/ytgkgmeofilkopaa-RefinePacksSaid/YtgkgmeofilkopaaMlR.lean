/- lathelaw12.RefinePacks, walked. No condition but numbers within their kinds. -/
import Derived.Test.YtgkgmeofilkopaaMlP
import Derived.Test.YtgkgmeofilkopaaMmP
import Derived.Test.YtgkgmeofilkopaaRf
import Derived.Test.YtgkgmeofilkopaaApn
namespace Go.Proofs.Ytgkgmeofilkopaa
open Go.RowKit
set_option linter.unusedSimpArgs false
set_option linter.unusedVariables false

/-- the better bytes behind k rounds -/
def betB (k : Nat) (a b : List Byt) : List Byt := (List.range a.length).map fun i => if i < k ∧ rbyte (a.getD i default) (b.getD i default) = true then b.getD i default else a.getD i default
theorem betB_len (k : Nat) (a b : List Byt) : (betB k a b).length = a.length := by simp [betB]
theorem betB_zero (a b : List Byt) : betB 0 a b = a := by
  apply List.ext_getElem?
  intro i
  unfold betB
  rw [List.getElem?_map]
  rcases Nat.lt_or_ge i a.length with hi | hi
  · rw [List.getElem?_range hi, Option.map_some, if_neg (by omega), List.getD, List.getElem?_eq_getElem hi]; rfl
  · rw [List.getElem?_eq_none (by simpa using hi), List.getElem?_eq_none hi]; rfl
theorem betB_at {k i : Nat} {a b : List Byt} {x y : Byt} (hx : a[i]? = some x) (hy : b[i]? = some y) : (betB k a b)[i]? = some (if i < k ∧ rbyte x y = true then y else x) := by
  have hi := (List.getElem?_eq_some_iff.1 hx).1
  unfold betB
  rw [List.getElem?_map, List.getElem?_range hi, Option.map_some, getD_of hx, getD_of hy]
theorem betB_step {k : Nat} {a b : List Byt} {x y : Byt} (hl : a.length = b.length) (hx : a[k]? = some x) (hy : b[k]? = some y) : betB (k + 1) a b = if rbyte x y = true then (betB k a b).set k y else betB k a b := by
  have hk := (List.getElem?_eq_some_iff.1 hx).1
  apply List.ext_getElem?
  intro i
  have e : ((if rbyte x y = true then (betB k a b).set k y else betB k a b))[i]? = if rbyte x y = true ∧ k = i then some y else (betB k a b)[i]? := by
    split
    · rename_i h
      rw [List.getElem?_set, betB_len]
      by_cases c : k = i
      · rw [if_pos c, if_pos hk, if_pos ⟨h, c⟩]
      · rw [if_neg c, if_neg (fun g => c g.2)]
    · rename_i h
      rw [if_neg (fun g => h g.1)]
  rw [e]
  rcases Nat.lt_or_ge i a.length with hi | hi
  · have e1 := List.getElem?_eq_getElem hi
    have e2 := List.getElem?_eq_getElem (show i < b.length by omega)
    rw [betB_at e1 e2, betB_at e1 e2]
    by_cases c : k = i
    · subst c
      rw [hx] at e1
      rw [hy] at e2
      cases e1
      cases e2
      by_cases h : rbyte a[k] b[k] = true
      · rw [if_pos ⟨by omega, h⟩, if_pos ⟨h, rfl⟩]
      · rw [if_neg (fun g => h g.2), if_neg (fun g => h g.1), if_neg (fun g => h g.2)]
    · rw [if_neg (c := rbyte x y = true ∧ k = i) (fun g => c g.2)]
      by_cases c2 : i < k
      · by_cases h : rbyte a[i] b[i] = true
        · rw [if_pos ⟨by omega, h⟩, if_pos ⟨c2, h⟩]
        · rw [if_neg (fun g => h g.2), if_neg (fun g => h g.2)]
      · rw [if_neg (fun g => by omega), if_neg (fun g => c2 g.1)]
  · rw [List.getElem?_eq_none (by rw [betB_len]; exact hi), if_neg (fun g => by omega), List.getElem?_eq_none (by rw [betB_len]; exact hi)]
theorem betB_good {k : Nat} {a b : List Byt} (hl : a.length = b.length) : ∀ (i : Nat) x c, a[i]? = some x → (betB k a b)[i]? = some c → rbyte x c = true := by
  intro i x c hx hc
  have hi := (List.getElem?_eq_some_iff.1 hx).1
  have e2 := List.getElem?_eq_getElem (show i < b.length by omega)
  rw [betB_at hx e2] at hc
  cases hc
  split
  · rename_i h; exact h.2
  · exact rbyte_refl x
theorem betB_ok {k : Nat} {a b : List Byt} (ha : OkB a) (hb : OkB b) (hl : a.length = b.length) : OkB (betB k a b) := by
  intro c hc
  obtain ⟨i, hi⟩ := List.mem_iff_getElem?.1 hc
  have hi' := (List.getElem?_eq_some_iff.1 hi).1
  rw [betB_len] at hi'
  have e1 := List.getElem?_eq_getElem hi'
  have e2 := List.getElem?_eq_getElem (show i < b.length by omega)
  rw [betB_at e1 e2] at hi
  cases hi
  split
  · exact hb _ (List.getElem_mem _)
  · exact ha _ (List.getElem_mem _)
/-- an owned row of bytes -/
def OwnB (w : World) (base : Nat) (v : Value) (l : List Byt) : Prop := w.ownsRow base 54 5 v l.length (l.flatMap bc)
theorem flat_set (l : List Byt) (k : Nat) (b : Byt) (h : k < l.length) :
    (((((l.flatMap bc).set (k * 5) (.int .i64 b.kind)).set (k * 5 + 1) (.int .u8 b.bits)).set (k * 5 + 2) (.int .i64 b.block)).set (k * 5 + 3) (.int .i64 b.off)).set (k * 5 + 4) (.int .i64 b.i) = (l.set k b).flatMap bc := by
  apply List.ext_getElem?
  intro m
  have hlen := flat_len l
  simp only [List.getElem?_set, List.length_set, hlen]
  rw [rowC_get, rowC_get, List.getElem?_set]
  by_cases c : k = m / 5
  · rw [if_pos c, if_pos h]
    have hm : m = k * 5 ∨ m = k * 5 + 1 ∨ m = k * 5 + 2 ∨ m = k * 5 + 3 ∨ m = k * 5 + 4 := by omega
    rcases hm with rfl | rfl | rfl | rfl | rfl
    · rw [if_neg (by omega), if_neg (by omega), if_neg (by omega), if_neg (by omega), if_pos rfl, if_pos (by omega), show k * 5 % 5 = 0 by omega]; rfl
    · rw [if_neg (by omega), if_neg (by omega), if_neg (by omega), if_pos rfl, if_pos (by omega), show (k * 5 + 1) % 5 = 1 by omega]; rfl
    · rw [if_neg (by omega), if_neg (by omega), if_pos rfl, if_pos (by omega), show (k * 5 + 2) % 5 = 2 by omega]; rfl
    · rw [if_neg (by omega), if_pos rfl, if_pos (by omega), show (k * 5 + 3) % 5 = 3 by omega]; rfl
    · rw [if_pos rfl, if_pos (by omega), show (k * 5 + 4) % 5 = 4 by omega]; rfl
  · rw [if_neg c, if_neg (by omega), if_neg (by omega), if_neg (by omega), if_neg (by omega), if_neg (by omega)]
theorem OwnB.put {w : World} {base g cap k : Nat} {l : List Byt} (h : OwnB w base (.slice (some ⟨g, 0, none⟩) l.length cap) l) (hk : k < l.length) (b : Byt) :
    OwnB (((((w.setCell ⟨g, k * 5, none⟩ (.int .i64 b.kind)).setCell ⟨g, k * 5 + 1, none⟩ (.int .u8 b.bits)).setCell ⟨g, k * 5 + 2, none⟩ (.int .i64 b.block)).setCell ⟨g, k * 5 + 3, none⟩ (.int .i64 b.off)).setCell ⟨g, k * 5 + 4, none⟩ (.int .i64 b.i)) base (.slice (some ⟨g, 0, none⟩) l.length cap) (l.set k b) := by
  unfold OwnB
  rw [List.length_set, ← flat_set l k b hk]
  exact (((((h.stored _ _).1.stored _ _).1.stored _ _).1.stored _ _).1.stored _ _).1
theorem OwnB.cells {w : World} {base g cap k : Nat} {l : List Byt} {b : Byt} (h : OwnB w base (.slice (some ⟨g, 0, none⟩) l.length cap) l) (hb : l[k]? = some b) :
    (w.cell? ⟨g, k * 5, none⟩ = some (.int .i64 b.kind) ∧ w.cell? ⟨g, k * 5 + 1, none⟩ = some (.int .u8 b.bits) ∧ w.cell? ⟨g, k * 5 + 2, none⟩ = some (.int .i64 b.block) ∧
    w.cell? ⟨g, k * 5 + 3, none⟩ = some (.int .i64 b.off) ∧ w.cell? ⟨g, k * 5 + 4, none⟩ = some (.int .i64 b.i)) ∧ ∀ j, w.frozen? ⟨g, j, none⟩ = false := by
  have hk := (List.getElem?_eq_some_iff.1 hb).1
  have e : ∀ j, j < 5 → w.cell? ⟨g, k * 5 + j, none⟩ = (bc b)[j]? := fun j hj => by
    rw [World.ownsRow.cellAt h (k * 5 + j) (by omega), rowC_get, show (k * 5 + j) / 5 = k by omega, show (k * 5 + j) % 5 = j by omega, hb]; rfl
  exact ⟨⟨e 0 (by omega), e 1 (by omega), e 2 (by omega), e 3 (by omega), e 4 (by omega)⟩, fun j => World.ownsRow.frozenAt h j⟩
theorem OwnB.rep {w : World} {base : Nat} {v : Value} {l : List Byt} (h : OwnB w base v l) (ok : OkB l) : (Rp.slice 5 RByu).rep w w.heap.size [v] l := by
  refine Own.rep (R := RByu) (B := 0) (base := base) (T := 54) ⟨l.map bc, by simp, ?_, fun i es y h1 h2 => ?_⟩ (Nat.zero_le _)
  · have : (l.map bc).flatten = l.flatMap bc := by rw [List.flatMap_def]
    rw [this]; exact h
  · rw [List.getElem?_map, h2] at h1
    cases h1
    exact ⟨rfl, rfl, ok y (List.mem_of_getElem? h2)⟩
end Go.Proofs.Ytgkgmeofilkopaa
