/- Layer 9: a memory, in plain Lean and in the heap. No condition. -/
import Derived.Test.YtgkgmeofilkopaaMmC
import Derived.Laws.OwnMore
namespace Go.Proofs.Ytgkgmeofilkopaa
open Go.RowKit
set_option linter.unusedSimpArgs false
set_option linter.unusedVariables false

abbrev MemS := List (Option (List Byt))
/-- an alive block's bytes -/
def bytesAt (bs : MemS) (i : Int) : Option (List Byt) := if 0 ≤ i then (bs[i.toNat]?).join else none
def spanS (bs : MemS) (t : Int) (a : Val) : Option (List Byt × Nat) :=
  if a.kind = 2 ∧ countS t ≠ 0 then (match bytesAt bs a.block with
    | none => none
    | some l => if 0 ≤ a.off ∧ a.off + countS t ≤ l.length then some (l, a.off.toNat) else none) else none
/-- p laid over l from o on -/
def layB (l : List Byt) (o : Nat) (p : List Byt) : List Byt := l.take o ++ (p ++ l.drop (o + p.length))
def loadS (bs : MemS) (t : Int) (a : Val) : Val × Bool := match spanS bs t a with
  | none => (noV, false)
  | some (l, o) => (unpackS t ((l.drop o).take (countS t).toNat), true)
def storeS (bs : MemS) (t : Int) (v a : Val) : MemS × Bool := match spanS bs t a with
  | none => (bs, false)
  | some (l, o) => (bs.set a.block.toNat (some (layB l o (packS t v))), true)
def sizedS (n : Int) : Int := min (max n 0) 4096
def allocS (bs : MemS) (n : Int) : MemS := bs ++ [some (List.replicate (sizedS n).toNat zb)]
def newS (sizes : List Int) : MemS := sizes.map fun n => some (List.replicate (sizedS n).toNat ⟨1, 0, 0, 0, 0⟩)

/-! ### in the heap -/
/-- the value of a block's slice -/
def SlV (w : World) (v : Value) : Option (List Byt) → Prop
  | none => v = .slice none 0 0
  | some l => OkB l ∧ l.length ≤ 4096 ∧ ∃ q, v = .slice (some ⟨q, 0, none⟩) l.length l.length ∧ Row w q l
/-- the memory at g, whose blocks of the heap are F -/
structure MemIs (w : World) (g : Nat) (F : Nat → Prop) (bs : MemS) : Prop where
  body : ∃ v vs, w.heap[g]? = some (.cells #[v] 127 (0, 0)) ∧ w.ownsRow 0 48 1 v bs.length vs ∧ (∀ k, v.ownBlock = some k → F k) ∧
    (∀ (i : Nat) x b, vs[i]? = some x → bs[i]? = some b → SlV w x b ∧ ∀ q, x.ownBlock = some q → F q) ∧
    (∀ (i j : Nat) x y q, i ≠ j → vs[i]? = some x → vs[j]? = some y → x.ownBlock = some q → y.ownBlock ≠ some q)
  self : F g
  lt : ∀ k, F k → k < w.heap.size
/-- entry k of the memory's blocks -/
def BlkAt (w : World) (g : Nat) (bs : MemS) (k : Nat) (x : Value) : Prop := ∀ v vs, w.heap[g]? = some (.cells #[v] 127 (0, 0)) → w.ownsRow 0 48 1 v bs.length vs → vs[k]? = some x
theorem SlV.kept {w w' : World} {v : Value} {b : Option (List Byt)} (h : SlV w v b) (hk : ∀ q, v.ownBlock = some q → w'.heap[q]? = w.heap[q]?) : SlV w' v b := by
  cases b with
  | none => exact h
  | some l =>
    obtain ⟨h1, h2, q, rfl, hr⟩ := h
    exact ⟨h1, h2, q, rfl, (hk q rfl).trans hr⟩
theorem ownsRow_kept {w w' : World} {base : Nat} {e : TypeId} {size : Nat} {v : Value} {n : Nat} {xs : List Value} (h : w.ownsRow base e size v n xs) (hk : ∀ k, v.ownBlock = some k → w'.heap[k]? = w.heap[k]?) : w'.ownsRow base e size v n xs := by
  refine ⟨h.1, ?_⟩
  rcases h.2 with hn | ⟨g, cap, cur, rfl, hb, hgg, rest⟩
  · exact .inl hn
  · exact .inr ⟨g, cap, cur, rfl, hb, (hk g rfl).trans hgg, rest⟩
theorem MemIs.kept {w w' : World} {g : Nat} {F : Nat → Prop} {bs : MemS} (h : MemIs w g F bs) (hk : ∀ k, F k → w'.heap[k]? = w.heap[k]?) (hs : w.heap.size ≤ w'.heap.size) : MemIs w' g F bs := by
  obtain ⟨⟨v, vs, h1, h2, h3, h4, h5⟩, hg, hl⟩ := h
  exact ⟨⟨v, vs, (hk g hg).trans h1, ownsRow_kept h2 fun k hv => hk k (h3 k hv), h3, fun i x b hx hb => ⟨(h4 i x b hx hb).1.kept fun q hq => hk q ((h4 i x b hx hb).2 q hq), (h4 i x b hx hb).2⟩, h5⟩, hg, fun k hF => Nat.lt_of_lt_of_le (hl k hF) hs⟩
theorem MemIs.later {w w' : World} {g : Nat} {F : Nat → Prop} {bs : MemS} (h : MemIs w g F bs) (hb : Below w.heap.size w w') : MemIs w' g F bs := h.kept (fun k hF => hb.block k (h.lt k hF)) hb.size
/-- the head of a memory, as a walk reads it -/
theorem MemIs.head {w : World} {g : Nat} {F : Nat → Prop} {bs : MemS} (h : MemIs w g F bs) (hl : bs.length ≠ 0) : ∃ B C, g < w.heap.size ∧ B < w.heap.size ∧ F B ∧ bs.length ≤ C ∧ C ≤ maxLen ∧
    (∀ w', Below w.heap.size w w' → w'.cell? ⟨g, 0, none⟩ = some (.slice (some ⟨B, 0, none⟩) bs.length C)) ∧
    (∀ (i : Nat) b, bs[i]? = some b → ∃ x, SlV w x b ∧ ((∀ q, x.ownBlock = some q → F q) ∧ BlkAt w g bs i x) ∧ ∀ w', Below w.heap.size w w' → w'.cell? ⟨B, i, none⟩ = some x) := by
  obtain ⟨⟨v, vs, h1, h2, h3, h4, h5⟩, hg, hlt⟩ := h
  have hgl := hlt g hg
  rcases h2.2 with ⟨_, h0⟩ | ⟨B, C, cur, rfl, _, hB, hnc, hcm, hcs, htake⟩
  · exact absurd h0 hl
  · have hBF := h3 B rfl
    refine ⟨B, C, hgl, hlt B hBF, hBF, hnc, hcm, fun w' hw => (hw.cell (p := ⟨g, 0, none⟩) hgl).trans (one_cell h1), fun i b hb => ?_⟩
    have hi := (List.getElem?_eq_some_iff.1 hb).1
    have hvl : vs.length = bs.length := by have := h2.1; omega
    obtain ⟨x, hx⟩ : ∃ x, vs[i]? = some x := ⟨_, List.getElem?_eq_getElem (by omega)⟩
    obtain ⟨h6, h7⟩ := h4 i x b hx hb
    refine ⟨x, h6, ⟨h7, fun v' vs' g1 g2 => ?_⟩, fun w' hw => ?_⟩
    · rw [h1] at g1
      cases g1
      rcases g2.2 with ⟨e, _⟩ | ⟨B', C', cur', e, _, hB', _, _, _, htake'⟩
      · cases e
      · cases e
        rw [hB] at hB'
        cases hB'
        rw [← htake', htake]
        exact hx
    rw [hw.cell (p := ⟨B, i, none⟩) (hlt B hBF), cell_of_row w B i cur _ _ hB, ← hx, ← htake, List.getElem?_take_of_lt (by omega)]
    simp
theorem MemIs.empty {w : World} {g : Nat} {F : Nat → Prop} {bs : MemS} (h : MemIs w g F bs) : g < w.heap.size ∧ ∃ A C, (∀ w', Below w.heap.size w w' → w'.cell? ⟨g, 0, none⟩ = some (.slice A bs.length C)) := by
  obtain ⟨⟨v, vs, h1, h2, h3, h4, h5⟩, hg, hlt⟩ := h
  have hgl := hlt g hg
  refine ⟨hgl, ?_⟩
  rcases h2.2 with ⟨rfl, h0⟩ | ⟨B, C, cur, rfl, _, hB, hnc, hcm, hcs, htake⟩
  · rw [h0]; exact ⟨none, 0, fun w' hw => (hw.cell (p := ⟨g, 0, none⟩) hgl).trans (one_cell h1)⟩
  · exact ⟨_, C, fun w' hw => (hw.cell (p := ⟨g, 0, none⟩) hgl).trans (one_cell h1)⟩
theorem bytesAt_some {bs : MemS} {i : Int} {l : List Byt} (h : bytesAt bs i = some l) : ∃ k : Nat, i = k ∧ bs[k]? = some (some l) := by
  unfold bytesAt at h
  split at h
  · refine ⟨i.toNat, by omega, ?_⟩
    cases hk : bs[i.toNat]? with
    | none => rw [hk] at h; cases h
    | some b => rw [hk] at h; simp at h; rw [h]
  · cases h
theorem bytesAt_none {bs : MemS} {i : Int} (h : bytesAt bs i = none) : i < 0 ∨ ∃ k : Nat, i = k ∧ (bs.length ≤ k ∨ bs[k]? = some none) := by
  unfold bytesAt at h
  split at h
  · refine .inr ⟨i.toNat, by omega, ?_⟩
    cases hk : bs[i.toNat]? with
    | none => exact .inl (List.getElem?_eq_none_iff.1 hk)
    | some b => rw [hk] at h; simp at h; rw [h]; exact .inr rfl
  · exact .inl (by omega)
theorem bytesAt_nat {bs : MemS} {k : Nat} {l : List Byt} (h : bs[k]? = some (some l)) : bytesAt bs k = some l := by simp [bytesAt, h]
/-- a row as a slice of bytes -/
theorem Row.rep {w : World} {q B o n c : Nat} {l : List Byt} (h : Row w q l) (ok : OkB l) (hq : q < B) (hn : o + n ≤ l.length) (hc : n ≤ c) (hm : c ≤ maxLen) :
    (Rp.slice 5 RByu).rep w B [.slice (some ⟨q, o * 5, none⟩) n c] ((l.drop o).take n) := by
  have hlen : ((l.drop o).take n).length = n := by rw [List.length_take, List.length_drop]; omega
  refine ⟨_, c, by rw [hlen], by omega, hm, fun _ => ⟨q, o * 5, rfl, hq, fun i b hb => ?_⟩⟩
  have hi : i < n := by have := (List.getElem?_eq_some_iff.1 hb).1; omega
  rw [List.getElem?_take_of_lt hi, List.getElem?_drop] at hb
  refine ⟨bc b, rfl, ⟨rfl, ok b (List.mem_of_getElem? hb)⟩, fun j u hu => ?_⟩
  have hj : j < 5 := (List.getElem?_eq_some_iff.1 hu).1
  rw [h.cell, show o * 5 + (i * 5 + j) = (o + i) * 5 + j by omega, rowC_at hb hj]
  exact hu
end Go.Proofs.Ytgkgmeofilkopaa
