/- Layer 9: a row of bytes that a call has built by append. No condition. -/
import Derived.Test.YtgkgmeofilkopaaMmE
import Derived.Test.YtgkgmeofilkopaaApn
namespace Go.Proofs.Ytgkgmeofilkopaa
open Go.RowKit
set_option linter.unusedSimpArgs false
set_option linter.unusedVariables false

/-- an owned row of bytes -/
def OwnB (w : World) (base : Nat) (v : Value) (l : List Byt) : Prop := w.ownsRow base 54 5 v l.length (l.flatMap bc)
theorem flat_set (l : List Byt) (k : Nat) (b : Byt) (h : k < l.length) :
    (((((l.flatMap bc).set (k * 5) (.int .i64 b.kind)).set (k * 5 + 1) (.int .u8 b.bits)).set (k * 5 + 2) (.int .i64 b.block)).set (k * 5 + 3) (.int .i64 b.off)).set (k * 5 + 4) (.int .i64 b.i) = (l.set k b).flatMap bc := by
  apply List.ext_getElem?
  intro m
  have hlen := flat_len l
  simp only [List.getElem?_set, List.length_set, hlen]
  rw [rowC_get, rowC_get, List.getElem?_set]
  by_cases c : k = m / 5
  · rw [if_pos c, if_pos h]
    have hm : m = k * 5 ∨ m = k * 5 + 1 ∨ m = k * 5 + 2 ∨ m = k * 5 + 3 ∨ m = k * 5 + 4 := by omega
    rcases hm with rfl | rfl | rfl | rfl | rfl
    · rw [if_neg (by omega), if_neg (by omega), if_neg (by omega), if_neg (by omega), if_pos rfl, if_pos (by omega), show k * 5 % 5 = 0 by omega]; rfl
    · rw [if_neg (by omega), if_neg (by omega), if_neg (by omega), if_pos rfl, if_pos (by omega), show (k * 5 + 1) % 5 = 1 by omega]; rfl
    · rw [if_neg (by omega), if_neg (by omega), if_pos rfl, if_pos (by omega), show (k * 5 + 2) % 5 = 2 by omega]; rfl
    · rw [if_neg (by omega), if_pos rfl, if_pos (by omega), show (k * 5 + 3) % 5 = 3 by omega]; rfl
    · rw [if_pos rfl, if_pos (by omega), show (k * 5 + 4) % 5 = 4 by omega]; rfl
  · rw [if_neg c, if_neg (by omega), if_neg (by omega), if_neg (by omega), if_neg (by omega), if_neg (by omega)]
theorem OwnB.put {w : World} {base g cap k : Nat} {l : List Byt} (h : OwnB w base (.slice (some ⟨g, 0, none⟩) l.length cap) l) (hk : k < l.length) (b : Byt) :
    OwnB (((((w.setCell ⟨g, k * 5, none⟩ (.int .i64 b.kind)).setCell ⟨g, k * 5 + 1, none⟩ (.int .u8 b.bits)).setCell ⟨g, k * 5 + 2, none⟩ (.int .i64 b.block)).setCell ⟨g, k * 5 + 3, none⟩ (.int .i64 b.off)).setCell ⟨g, k * 5 + 4, none⟩ (.int .i64 b.i)) base (.slice (some ⟨g, 0, none⟩) l.length cap) (l.set k b) := by
  unfold OwnB
  rw [List.length_set, ← flat_set l k b hk]
  exact (((((h.stored _ _).1.stored _ _).1.stored _ _).1.stored _ _).1.stored _ _).1
theorem OwnB.cells {w : World} {base g cap k : Nat} {l : List Byt} {b : Byt} (h : OwnB w base (.slice (some ⟨g, 0, none⟩) l.length cap) l) (hb : l[k]? = some b) :
    (w.cell? ⟨g, k * 5, none⟩ = some (.int .i64 b.kind) ∧ w.cell? ⟨g, k * 5 + 1, none⟩ = some (.int .u8 b.bits) ∧ w.cell? ⟨g, k * 5 + 2, none⟩ = some (.int .i64 b.block) ∧
    w.cell? ⟨g, k * 5 + 3, none⟩ = some (.int .i64 b.off) ∧ w.cell? ⟨g, k * 5 + 4, none⟩ = some (.int .i64 b.i)) ∧ ∀ j, w.frozen? ⟨g, j, none⟩ = false := by
  have hk := (List.getElem?_eq_some_iff.1 hb).1
  have e : ∀ j, j < 5 → w.cell? ⟨g, k * 5 + j, none⟩ = (bc b)[j]? := fun j hj => by
    rw [World.ownsRow.cellAt h (k * 5 + j) (by omega), rowC_get, show (k * 5 + j) / 5 = k by omega, show (k * 5 + j) % 5 = j by omega, hb]; rfl
  exact ⟨⟨e 0 (by omega), e 1 (by omega), e 2 (by omega), e 3 (by omega), e 4 (by omega)⟩, fun j => World.ownsRow.frozenAt h j⟩
theorem OwnB.rep {w : World} {base : Nat} {v : Value} {l : List Byt} (h : OwnB w base v l) (ok : OkB l) : (Rp.slice 5 RByu).rep w w.heap.size [v] l := by
  refine Own.rep (R := RByu) (B := 0) (base := base) (T := 54) ⟨l.map bc, by simp, ?_, fun i es y h1 h2 => ?_⟩ (Nat.zero_le _)
  · have : (l.map bc).flatten = l.flatMap bc := by rw [List.flatMap_def]
    rw [this]; exact h
  · rw [List.getElem?_map, h2] at h1
    cases h1
    exact ⟨rfl, rfl, ok y (List.mem_of_getElem? h2)⟩
end Go.Proofs.Ytgkgmeofilkopaa
