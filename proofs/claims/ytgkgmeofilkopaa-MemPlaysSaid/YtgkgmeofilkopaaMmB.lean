/- Layer 9: a row of bytes as one block of cells. No condition. -/
import Derived.Test.YtgkgmeofilkopaaMmA
import Derived.Test.YtgkgmeofilkopaaOnly
import Derived.Deep.MidRow
import Derived.OwnWalk
namespace Go.Proofs.Ytgkgmeofilkopaa
open Go.RowKit
set_option linter.unusedSimpArgs false
set_option linter.unusedVariables false

abbrev zb : Byt := ⟨0, 0, 0, 0, 0⟩
def bc (b : Byt) : List Value := [.int .i64 b.kind, .int .u8 b.bits, .int .i64 b.block, .int .i64 b.off, .int .i64 b.i]
def rowC (l : List Byt) : Array Value := (l.flatMap bc).toArray
/-- block q is these bytes -/
def Row (w : World) (q : Nat) (l : List Byt) : Prop := w.heap[q]? = some (.cells (rowC l) 54 (0, 0))

theorem bc_len (b : Byt) : (bc b).length = 5 := rfl
theorem rowC_get : ∀ (l : List Byt) (m : Nat), (l.flatMap bc)[m]? = (l[m / 5]?).bind fun b => (bc b)[m % 5]?
  | [], m => by simp
  | b :: l, m => by
    rw [List.flatMap_cons]
    rcases Nat.lt_or_ge m 5 with h | h
    · rw [List.getElem?_append_left (by rw [bc_len]; exact h), Nat.div_eq_of_lt h, Nat.mod_eq_of_lt h]; rfl
    · rw [List.getElem?_append_right (by rw [bc_len]; exact h), bc_len, rowC_get l (m - 5)]
      obtain ⟨n, rfl⟩ : ∃ n, m = n + 5 := ⟨m - 5, by omega⟩
      have e1 : (n + 5) / 5 = n / 5 + 1 := by omega
      have e2 : (n + 5) % 5 = n % 5 := by omega
      rw [e1, e2, Nat.add_sub_cancel, List.getElem?_cons_succ]
theorem rowC_size (l : List Byt) : (rowC l).size = l.length * 5 := by
  induction l with
  | nil => rfl
  | cons b l ih => simp only [rowC, List.size_toArray, List.flatMap_cons, List.length_append, bc_len, List.length_cons] at *; omega
theorem rowC_get2 (l : List Byt) (m : Nat) : (rowC l)[m]? = (l[m / 5]?).bind fun b => (bc b)[m % 5]? := by rw [rowC, List.getElem?_toArray, rowC_get]
theorem rowC_at {l : List Byt} {k j : Nat} {b : Byt} (h : l[k]? = some b) (hj : j < 5) : (rowC l)[k * 5 + j]? = (bc b)[j]? := by
  rw [rowC, List.getElem?_toArray, rowC_get]
  have e1 : (k * 5 + j) / 5 = k := by omega
  have e2 : (k * 5 + j) % 5 = j := by omega
  rw [e1, e2, h]; rfl
theorem Row.cell {w : World} {q : Nat} {l : List Byt} (h : Row w q l) (m : Nat) : w.cell? ⟨q, m, none⟩ = (rowC l)[m]? := cell_of_row w q m (rowC l) 54 (0, 0) h
theorem Row.cells {w : World} {q : Nat} {l : List Byt} (h : Row w q l) {k : Nat} {b : Byt} (hb : l[k]? = some b) :
    w.cell? ⟨q, k * 5, none⟩ = some (.int .i64 b.kind) ∧ w.cell? ⟨q, k * 5 + 1, none⟩ = some (.int .u8 b.bits) ∧ w.cell? ⟨q, k * 5 + 2, none⟩ = some (.int .i64 b.block) ∧
    w.cell? ⟨q, k * 5 + 3, none⟩ = some (.int .i64 b.off) ∧ w.cell? ⟨q, k * 5 + 4, none⟩ = some (.int .i64 b.i) :=
  ⟨(h.cell _).trans (rowC_at (j := 0) hb (by decide)), (h.cell _).trans (rowC_at (j := 1) hb (by decide)), (h.cell _).trans (rowC_at (j := 2) hb (by decide)), (h.cell _).trans (rowC_at (j := 3) hb (by decide)), (h.cell _).trans (rowC_at (j := 4) hb (by decide))⟩
theorem Row.there {w : World} {q : Nat} {l : List Byt} (h : Row w q l) {o n : Nat} (hn : o + n ≤ l.length * 5) : w.there q o n := fun j hj => by
  refine ⟨?_, frozen_of_row w q _ _ _ h⟩
  rw [h.cell, Array.getElem?_eq_getElem (by rw [rowC_size]; omega)]
  rfl
theorem Row.lt {w : World} {q : Nat} {l : List Byt} (h : Row w q l) : q < w.heap.size := (Array.getElem?_eq_some_iff.1 h).1
theorem Row.below {w w' : World} {q B : Nat} {l : List Byt} (h : Row w q l) (hb : Below B w w') (hq : q < B) : Row w' q l := (hb.block q hq).trans h
theorem Row.drewN {w : World} {q n : Nat} {l : List Byt} (h : Row w q l) : Row (w.drewN n) q l := h
theorem Row.alloc {w : World} {q : Nat} {l : List Byt} (h : Row w q l) (o : Obj) : Row (w.alloc o) q l := (Below.heap_alloc _ _ _ h.lt).trans h
theorem heap_setCells {w : World} {q : Nat} {t : TypeId} : ∀ (vs : List Value) (o : Nat) (w : World) (cur : Array Value), w.heap[q]? = some (.cells cur t (0, 0)) →
    ∃ cur', (w.setCells q o vs).heap[q]? = some (.cells cur' t (0, 0)) ∧ cur'.size = cur.size ∧ ∀ m, cur'[m]? = if o ≤ m ∧ m < o + vs.length ∧ m < cur.size then vs[m - o]? else cur[m]?
  | [], o, w, cur, h => ⟨cur, h, rfl, fun m => by rw [if_neg (by simp; omega)]⟩
  | v :: r, o, w, cur, h => by
    obtain ⟨cur', h1, h2, h3⟩ := heap_setCells (w := w) r (o + 1) (w.setCell ⟨q, o, none⟩ v) _ (heap_setCell_same w q o cur t v h)
    refine ⟨cur', h1, by simpa using h2, fun m => ?_⟩
    rw [h3]
    simp only [Array.size_setIfInBounds, List.length_cons, Array.getElem?_setIfInBounds]
    by_cases c1 : o + 1 ≤ m ∧ m < o + 1 + r.length ∧ m < cur.size
    · rw [if_pos c1, if_pos (by omega)]
      obtain ⟨n, rfl⟩ : ∃ n, m = o + 1 + n := ⟨m - (o + 1), by omega⟩
      rw [show o + 1 + n - (o + 1) = n by omega, show o + 1 + n - o = n + 1 by omega, List.getElem?_cons_succ]
    · rw [if_neg c1]
      by_cases c2 : o = m
      · subst c2
        by_cases c3 : o < cur.size
        · rw [if_pos rfl, if_pos c3, if_pos (by omega), Nat.sub_self]; rfl
        · rw [if_pos rfl, if_neg c3, if_neg (by omega)]
          simp; omega
      · rw [if_neg c2, if_neg (by omega)]
/-- one byte laid -/
theorem Row.set {w : World} {q : Nat} {l : List Byt} (h : Row w q l) {k : Nat} (hk : k < l.length) (b : Byt) : Row (w.setCells q (k * 5) (bc b)) q (l.set k b) := by
  obtain ⟨cur', h1, h2, h3⟩ := heap_setCells (w := w) (bc b) (k * 5) w _ h
  have e : cur' = rowC (l.set k b) := by
    apply Array.ext_getElem?
    intro m
    rw [h3 m, rowC_size, bc_len, rowC_get2, rowC_get2, List.getElem?_set]
    by_cases c : m / 5 = k
    · rw [if_pos (by omega), if_pos c.symm, if_pos hk, show m - k * 5 = m % 5 by omega]; rfl
    · rw [if_neg (by omega), if_neg (fun e => c e.symm)]
  rw [e] at h1
  exact h1
theorem below_setCells' {B b : Nat} {a : World} (hb : B ≤ b) : ∀ (vs : List Value) (o : Nat) (w : World), Below B a w → Below B a (w.setCells b o vs)
  | [], _, _, h => h
  | v :: r, o, w, h => below_setCells' hb r (o + 1) _ (h.setCell hb v)
theorem Row.put {w : World} {q : Nat} {l : List Byt} (h : Row w q l) {k : Nat} (hk : k < l.length) (b : Byt) :
    Row (((((w.setCell ⟨q, k * 5, none⟩ (.int .i64 b.kind)).setCell ⟨q, k * 5 + 1, none⟩ (.int .u8 b.bits)).setCell ⟨q, k * 5 + 2, none⟩ (.int .i64 b.block)).setCell ⟨q, k * 5 + 3, none⟩ (.int .i64 b.off)).setCell ⟨q, k * 5 + 4, none⟩ (.int .i64 b.i)) q (l.set k b) := h.set hk b
theorem Row.putKind {w : World} {q : Nat} {l : List Byt} (h : Row w q l) {k : Nat} {b : Byt} (hk : l[k]? = some b) (u : Int) : Row (w.setCell ⟨q, k * 5, none⟩ (.int .i64 u)) q (l.set k ⟨u, b.bits, b.block, b.off, b.i⟩) := by
  have hl := (List.getElem?_eq_some_iff.1 hk).1
  have h1 := heap_setCell_same w q (k * 5) _ _ (.int .i64 u) h
  have e : (rowC l).setIfInBounds (k * 5) (.int .i64 u) = rowC (l.set k ⟨u, b.bits, b.block, b.off, b.i⟩) := by
    apply Array.ext_getElem?
    intro m
    rw [Array.getElem?_setIfInBounds, rowC_get2, rowC_get2, List.getElem?_set, rowC_size]
    by_cases c : k = m / 5
    · rw [if_pos c, if_pos hl]
      by_cases c2 : k * 5 = m
      · rw [if_pos c2, if_pos (by omega), show m % 5 = 0 by omega]; rfl
      · rw [if_neg c2, ← c, hk]
        obtain ⟨j, hj, h5⟩ : ∃ j, m % 5 = j + 1 ∧ j < 4 := ⟨m % 5 - 1, by omega, by omega⟩
        rw [hj]
        simp only [bc, Option.bind_some, List.getElem?_cons_succ]
    · rw [if_neg c, if_neg (by omega)]
  rw [e] at h1
  exact h1
theorem below_put {B q k : Nat} {a w : World} {v0 v1 v2 v3 v4 : Value} (h : Below B a w) (hq : B ≤ q) : Below B a (((((w.setCell ⟨q, k * 5, none⟩ v0).setCell ⟨q, k * 5 + 1, none⟩ v1).setCell ⟨q, k * 5 + 2, none⟩ v2).setCell ⟨q, k * 5 + 3, none⟩ v3).setCell ⟨q, k * 5 + 4, none⟩ v4) :=
  ((((h.setCell hq _).setCell hq _).setCell hq _).setCell hq _).setCell hq _
theorem rowC_zero (n : Nat) : madeCells #[.int .i64 0, .int .u8 0, .int .i64 0, .int .i64 0, .int .i64 0] (n * 5) = rowC (List.replicate n zb) := by
  apply Array.ext_getElem?
  intro m
  rw [rowC_get2, List.getElem?_replicate]
  by_cases h : m < n * 5
  · rw [if_pos (by omega)]
    have h5 : m % 5 < 5 := Nat.mod_lt _ (by decide)
    have e : ∀ j, j < 5 → (#[Value.int .i64 0, .int .u8 0, .int .i64 0, .int .i64 0, .int .i64 0] : Array Value)[j]! = (bc zb)[j]?.getD undef := by
      intro j hj
      match j, hj with
      | 0, _ => rfl
      | 1, _ => rfl
      | 2, _ => rfl
      | 3, _ => rfl
      | 4, _ => rfl
    have e2 : (bc zb)[m % 5]? = some ((bc zb)[m % 5]?.getD undef) := by
      rw [List.getElem?_eq_getElem (by rw [bc_len]; exact h5)]; rfl
    simp only [madeCells, Array.getElem?_map, Array.getElem?_range, h, if_true, Option.map_some]
    show _ = (bc zb)[m % 5]?
    rw [e2, ← e _ h5]
    rfl
  · rw [if_neg (by omega)]
    simp [madeCells, h]
/-- what 'make([]api.Byte, n)' leaves -/
theorem Row.made {w : World} {base q n c : Nat} (h : w.ownsRow base 54 5 (.slice (some ⟨q, 0, none⟩) n n) n (madeCells #[.int .i64 0, .int .u8 0, .int .i64 0, .int .i64 0, .int .i64 0] (n * 5)).toList) : Row w q (List.replicate n zb) := by
  rcases h.2 with ⟨h', _⟩ | ⟨g', cap', cur, h', hb, hg, hnc, hcm, hcs, htake⟩
  · simp at h'
  · simp only [Value.slice.injEq, Option.some.injEq, Addr.mk.injEq, and_true, true_and] at h'
    obtain ⟨rfl, rfl⟩ := h'
    rw [List.take_of_length_le (by rw [Array.length_toList, hcs]; exact Nat.le_refl _)] at htake
    rw [Array.toList_inj.1 htake, rowC_zero] at hg
    exact hg
theorem below_alloc_of {w w' : World} (h : w.grownBy w' none) : Below w.heap.size w w' := (Below.refl _ _).grown h (Nat.le_refl _) (fun k hk => by cases hk)
theorem four_cells {w : World} {N : Nat} {a b c d : Value} {t : TypeId} (h : w.heap[N]? = some (.cells #[a, b, c, d] t (0, 0))) : w.cell? ⟨N, 0, none⟩ = some a ∧ w.cell? ⟨N, 1, none⟩ = some b ∧ w.cell? ⟨N, 2, none⟩ = some c ∧ w.cell? ⟨N, 3, none⟩ = some d := by simp [World.cell?, h]
theorem set_four {w : World} {N : Nat} {a b c d a' b' c' d' : Value} {t : TypeId} (h : w.heap[N]? = some (.cells #[a, b, c, d] t (0, 0))) :
    ((((w.setCell ⟨N, 0, none⟩ a').setCell ⟨N, 1, none⟩ b').setCell ⟨N, 2, none⟩ c').setCell ⟨N, 3, none⟩ d').heap[N]? = some (.cells #[a', b', c', d'] t (0, 0)) := by
  have h1 := set_heap (j := 0) (v := a') h
  have h2 := set_heap (j := 1) (v := b') h1
  have h3 := set_heap (j := 2) (v := c') h2
  have h4 := set_heap (j := 3) (v := d') h3
  simpa using h4
theorem five_cells {w : World} {N : Nat} {a b c d e : Value} {t : TypeId} (h : w.heap[N]? = some (.cells #[a, b, c, d, e] t (0, 0))) : w.cell? ⟨N, 0, none⟩ = some a ∧ w.cell? ⟨N, 1, none⟩ = some b ∧ w.cell? ⟨N, 2, none⟩ = some c ∧ w.cell? ⟨N, 3, none⟩ = some d ∧ w.cell? ⟨N, 4, none⟩ = some e := by simp [World.cell?, h]
theorem set_five {w : World} {N : Nat} {a b c d e a' b' c' d' e' : Value} {t : TypeId} (h : w.heap[N]? = some (.cells #[a, b, c, d, e] t (0, 0))) :
    (((((w.setCell ⟨N, 0, none⟩ a').setCell ⟨N, 1, none⟩ b').setCell ⟨N, 2, none⟩ c').setCell ⟨N, 3, none⟩ d').setCell ⟨N, 4, none⟩ e').heap[N]? = some (.cells #[a', b', c', d', e'] t (0, 0)) := by
  have h1 := set_heap (j := 0) (v := a') h
  have h2 := set_heap (j := 1) (v := b') h1
  have h3 := set_heap (j := 2) (v := c') h2
  have h4 := set_heap (j := 3) (v := d') h3
  have h5 := set_heap (j := 4) (v := e') h4
  simpa using h5
theorem set5_0 {w : World} {N : Nat} {a b c d e u : Value} {t : TypeId} (h : w.heap[N]? = some (.cells #[a, b, c, d, e] t (0, 0))) : (w.setCell ⟨N, 0, none⟩ u).heap[N]? = some (.cells #[u, b, c, d, e] t (0, 0)) := by simpa using set_heap (j := 0) (v := u) h
theorem set5_1 {w : World} {N : Nat} {a b c d e u : Value} {t : TypeId} (h : w.heap[N]? = some (.cells #[a, b, c, d, e] t (0, 0))) : (w.setCell ⟨N, 1, none⟩ u).heap[N]? = some (.cells #[a, u, c, d, e] t (0, 0)) := by simpa using set_heap (j := 1) (v := u) h
theorem below_four {B q : Nat} {a w : World} {v0 v1 v2 v3 : Value} (h : Below B a w) (hq : B ≤ q) : Below B a ((((w.setCell ⟨q, 0, none⟩ v0).setCell ⟨q, 1, none⟩ v1).setCell ⟨q, 2, none⟩ v2).setCell ⟨q, 3, none⟩ v3) :=
  (((h.setCell hq _).setCell hq _).setCell hq _).setCell hq _
theorem set4_0 {w : World} {N : Nat} {a b c d u : Value} {t : TypeId} (h : w.heap[N]? = some (.cells #[a, b, c, d] t (0, 0))) : (w.setCell ⟨N, 0, none⟩ u).heap[N]? = some (.cells #[u, b, c, d] t (0, 0)) := by simpa using set_heap (j := 0) (v := u) h
theorem set4_1 {w : World} {N : Nat} {a b c d u : Value} {t : TypeId} (h : w.heap[N]? = some (.cells #[a, b, c, d] t (0, 0))) : (w.setCell ⟨N, 1, none⟩ u).heap[N]? = some (.cells #[a, u, c, d] t (0, 0)) := by simpa using set_heap (j := 1) (v := u) h
end Go.Proofs.Ytgkgmeofilkopaa
