/- Layer 9: rows of bytes in later worlds. No condition. -/
import Derived.Test.YtgkgmeofilkopaaMmS
namespace Go.Proofs.Ytgkgmeofilkopaa
open Go.RowKit
set_option linter.unusedSimpArgs false
set_option linter.unusedVariables false

theorem NewIs.later {B : Nat} {w w' : World} {g : Nat} {bs : MemS} (h : NewIs B w g bs) (hb : Below w.heap.size w w') : NewIs B w' g bs := by
  obtain ⟨F, h1, h2⟩ := h
  exact ⟨F, h1.later hb, h2⟩
theorem OwnB.mono {w : World} {b b' : Nat} {v : Value} {l : List Byt} (h : OwnB w b v l) (hb : b' ≤ b) : OwnB w b' v l := by
  refine ⟨h.1, ?_⟩
  rcases h.2 with h1 | ⟨g, cap, cur, e, h1, rest⟩
  · exact .inl h1
  · exact .inr ⟨g, cap, cur, e, Nat.le_trans hb h1, rest⟩
theorem OwnB.later {w w' : World} {b : Nat} {v : Value} {l : List Byt} (h : OwnB w b v l) (hb : Below w.heap.size w w') : OwnB w' b v l := ownsRow_kept h fun k hk => hb.block k (own_lt h hk).2
/-- the cells of one byte of a row, in whatever later world -/
theorem OwnB.far {w : World} {base : Nat} {A : Option Addr} {n c : Nat} {l : List Byt} (h : OwnB w base (.slice A n c) l) {k : Nat} {b : Byt} (hb : l[k]? = some b) : ∃ g, A = some ⟨g, 0, none⟩ ∧
    (∀ w', Below w.heap.size w w' → w'.cell? ⟨g, k * 5, none⟩ = some (.int .i64 b.kind)) ∧ (∀ w', Below w.heap.size w w' → w'.cell? ⟨g, k * 5 + 1, none⟩ = some (.int .u8 b.bits)) ∧ (∀ w', Below w.heap.size w w' → w'.cell? ⟨g, k * 5 + 2, none⟩ = some (.int .i64 b.block)) ∧
    (∀ w', Below w.heap.size w w' → w'.cell? ⟨g, k * 5 + 3, none⟩ = some (.int .i64 b.off)) ∧ (∀ w', Below w.heap.size w w' → w'.cell? ⟨g, k * 5 + 4, none⟩ = some (.int .i64 b.i)) := by
  obtain ⟨g, e, -, hg, h1, h2, h3, h4, h5⟩ := h.at_ hb
  exact ⟨g, e, fun w' hw => (hw.cell hg).trans h1, fun w' hw => (hw.cell hg).trans h2, fun w' hw => (hw.cell hg).trans h3, fun w' hw => (hw.cell hg).trans h4, fun w' hw => (hw.cell hg).trans h5⟩
theorem info_Rows : (Try.prog.info? 48).map (fun i => (i.zero, i.size, i.bytes)) = some (some (.slice none 0 0), 1, 24) := info_Bytes

end Go.Proofs.Ytgkgmeofilkopaa
