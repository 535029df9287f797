/- Memory of uses.Needed: rows of places, a map of such rows, rows of truth values of any lengths. No condition. -/
import Derived.Test.YtaljdbmmjgmbbaaMval
import Derived.Test.YtaljdbmmjgmbbaaUsA
import Derived.Test.YtaljdbmmjgmbbaaHm
namespace Go.Proofs.Ytaljdbmmjgmbbaa
open Go.RowKit
set_option linter.unusedSimpArgs false
set_option linter.unusedVariables false

theorem cinfo_boolU : (Try.prog.info? 4).map (fun i => (i.zero, i.size, i.bytes)) = some (some (.bool false), 1, 1) := by kernel_rfl
theorem cinfo_boolsU : (Try.prog.info? 63).map (fun i => (i.zero, i.size, i.bytes)) = some (some (.slice none 0 0), 1, 24) := by kernel_rfl
theorem cinfo_PlaceU : (Try.prog.info? 58).map (fun i => (i.zero, i.size, i.bytes)) = some (some (.agg #[.int .i64 0, .int .i64 0, .int .i64 0]), 3, 24) := by kernel_rfl
theorem bmap_setU (l : List Bool) (k : Nat) (x : Bool) : (l.map Value.bool).set k (.bool x) = (l.set k x).map Value.bool := by simp [List.map_set]
theorem below_grownU {w w' : World} (hg : w.grownBy w' none) : Below w.heap.size w w' := ⟨hg.os, hg.tape, hg.output, hg.size, fun k hk => hg.block k hk (fun e => by cases e)⟩
theorem made_oneU {w : World} {B g n : Nat} {t : TypeId} {c : Value} (h : w.ownsRow B t 1 (.slice (some ⟨g, 0, none⟩) n n) n (madeCells #[c] n).toList) : w.ownsRow B t 1 (.slice (some ⟨g, 0, none⟩) n n) n (List.replicate n c) := by
  rwa [toList_madeCells_one] at h

theorem zero_places (w : World) : (zeroValue 85).run Try.prog w = .ok (.slice none 0 0) w := by kernel_rfl

/-! rows of places -/
def plc (p : Nat × Nat) : List Value := [.int .i64 0, .int .i64 (p.1 : Int), .int .i64 (p.2 : Int)]
def OwnPl (w : World) (B : Nat) (v : Value) (l : List (Nat × Nat)) : Prop := w.ownsRow B 58 3 v l.length (l.flatMap plc)
theorem plc_len (l : List (Nat × Nat)) : (l.flatMap plc).length = l.length * 3 := by
  induction l with
  | nil => rfl
  | cons a l ih => rw [List.flatMap_cons, List.length_append, ih, List.length_cons]; simp [plc]; omega
theorem plc_at : ∀ {l : List (Nat × Nat)} {k : Nat} {p : Nat × Nat}, l[k]? = some p → (l.flatMap plc)[k * 3]? = some (.int .i64 0) ∧ (l.flatMap plc)[k * 3 + 1]? = some (.int .i64 (p.1 : Int)) ∧ (l.flatMap plc)[k * 3 + 2]? = some (.int .i64 (p.2 : Int))
  | a :: l, 0, p, h => by cases h; simp [List.flatMap_cons, plc]
  | a :: l, k + 1, p, h => by
    obtain ⟨h1, h2, h3⟩ := plc_at (l := l) (k := k) (by simpa using h)
    have hl : (plc a).length = 3 := rfl
    rw [List.flatMap_cons]
    refine ⟨?_, ?_, ?_⟩
    · rw [List.getElem?_append_right (by omega), hl, show (k + 1) * 3 - 3 = k * 3 by omega]; exact h1
    · rw [List.getElem?_append_right (by omega), hl, show (k + 1) * 3 + 1 - 3 = k * 3 + 1 by omega]; exact h2
    · rw [List.getElem?_append_right (by omega), hl, show (k + 1) * 3 + 2 - 3 = k * 3 + 2 by omega]; exact h3
section
variable {w w' : World} {B B' : Nat} {v : Value} {l : List (Nat × Nat)}
theorem OwnPl.nil_ : OwnPl w B (.slice none 0 0) [] := ⟨rfl, .inl ⟨rfl, rfl⟩⟩
theorem OwnPl.form (h : OwnPl w B v l) : (v = .slice none 0 0 ∧ l = []) ∨ ∃ g C, v = .slice (some ⟨g, 0, none⟩) l.length C ∧ B ≤ g ∧ g < w.heap.size := by
  rcases h.2 with ⟨e, h0⟩ | ⟨g, c, cur, e, hb, hh, _⟩
  · exact .inl ⟨e, List.eq_nil_of_length_eq_zero h0⟩
  · exact .inr ⟨g, c, e, hb, (Array.getElem?_eq_some_iff.1 hh).1⟩
theorem OwnPl.kept (h : OwnPl w B v l) (hk : ∀ k, v.ownBlock = some k → w'.heap[k]? = w.heap[k]?) : OwnPl w' B v l := row_kept h hk
theorem OwnPl.cells {g C k : Nat} {p : Nat × Nat} (h : OwnPl w B (.slice (some ⟨g, 0, none⟩) l.length C) l) (hk : l[k]? = some p) :
    w.cell? ⟨g, k * 3, none⟩ = some (.int .i64 0) ∧ w.cell? ⟨g, k * 3 + 1, none⟩ = some (.int .i64 (p.1 : Int)) ∧ w.cell? ⟨g, k * 3 + 2, none⟩ = some (.int .i64 (p.2 : Int)) := by
  obtain ⟨h1, h2, h3⟩ := plc_at hk
  have hl := (List.getElem?_eq_some_iff.1 hk).1
  refine ⟨?_, ?_, ?_⟩
  · rw [World.ownsRow.cellAt h _ (by omega)]; exact h1
  · rw [World.ownsRow.cellAt h _ (by omega)]; exact h2
  · rw [World.ownsRow.cellAt h _ (by omega)]; exact h3
theorem OwnPl.pop {g C : Nat} {p : Nat × Nat} (h : OwnPl w B (.slice (some ⟨g, 0, none⟩) (l.length + 1) C) (l ++ [p])) : OwnPl w B (.slice (some ⟨g, 0, none⟩) l.length C) l := by
  rcases h.2 with ⟨e, _⟩ | ⟨g', cap', cur, e, hb, hh, hnc, hcm, hcs, ht⟩
  · cases e
  · simp only [Value.slice.injEq, Option.some.injEq, Addr.mk.injEq, and_true, true_and] at e
    obtain ⟨rfl, -, rfl⟩ := e
    rw [List.length_append, List.length_singleton] at hnc ht
    refine ⟨plc_len l, .inr ⟨g, C, cur, rfl, hb, hh, by omega, hcm, hcs, ?_⟩⟩
    have e2 : cur.toList.take (l.length * 3) = (cur.toList.take ((l.length + 1) * 3)).take (l.length * 3) := by rw [List.take_take]; congr 1; omega
    rw [e2, ht, List.flatMap_append, List.take_append_of_le_length (by rw [plc_len]; omega), List.take_of_length_le (by rw [plc_len]; omega)]
end

/-! rows of truth values -/
def TabV (w : World) (B g n : Nat) (len gs : Nat → Nat) (T : Nat → Nat → Bool) (a : Nat) : Prop :=
  ∃ cs : List Value, w.ownsRow B 63 1 (.slice (some ⟨g, 0, none⟩) n n) n cs ∧
    (∀ k, k < a → cs[k]? = some (.slice (some ⟨gs k, 0, none⟩) (len k) (len k)) ∧ w.ownsRow B 4 1 (.slice (some ⟨gs k, 0, none⟩) (len k) (len k)) (len k) (((List.range (len k)).map (T k)).map Value.bool)) ∧
    ∀ k k', k < a → k' < a → gs k = gs k' → k = k'
section
variable {w w' : World} {B g n a : Nat} {len gs : Nat → Nat} {T : Nat → Nat → Bool}
theorem TabV.start (h : w.ownsRow B 63 1 (.slice (some ⟨g, 0, none⟩) n n) n (List.replicate n (Value.slice none 0 0))) : TabV w B g n len gs T 0 := ⟨_, h, fun k hk => by omega, fun k k' hk => by omega⟩
theorem TabV.kept (h : TabV w B g n len gs T a) (hk : ∀ (k : Nat) (c : Array Value) (t : TypeId), w.heap[k]? = some (Obj.cells c t (0, 0)) → t = 63 ∨ t = 4 → w'.heap[k]? = w.heap[k]?) : TabV w' B g n len gs T a := by
  obtain ⟨cs, h1, h2, h3⟩ := h
  have hr : ∀ {t : TypeId} {v : Value} {m : Nat} {xs : List Value}, w.ownsRow B t 1 v m xs → (t = 63 ∨ t = 4) → w'.ownsRow B t 1 v m xs := fun {t v m xs} h ht => row_kept h fun k hk' => by
    obtain ⟨-, -, c, hc⟩ := row_lt h hk'
    exact hk k c t hc ht
  exact ⟨cs, hr h1 (.inl rfl), fun k hk => ⟨(h2 k hk).1, hr (h2 k hk).2 (.inr rfl)⟩, h3⟩
theorem TabV.below (h : TabV w B g n len gs T a) (hb : Below w.heap.size w w') : TabV w' B g n len gs T a :=
  h.kept fun k c t hc _ => hb.block k (Array.getElem?_eq_some_iff.1 hc).1
theorem TabV.but (h : TabV w B g n len gs T a) (hb : But 58 w w') : TabV w' B g n len gs T a :=
  h.kept fun k c t hc ht => hb k c t (0, 0) hc (by rcases ht with rfl | rfl <;> decide)
theorem TabV.lt (h : TabV w B g n len gs T a) {k : Nat} (hk : k < a) : B ≤ gs k ∧ gs k < w.heap.size := by
  obtain ⟨cs, h1, h2, h3⟩ := h
  exact ⟨(row_lt (h2 k hk).2 rfl).1, (row_lt (h2 k hk).2 rfl).2.1⟩
theorem TabV.row (h : TabV w B g n len gs T a) (ha : a ≤ n) {k : Nat} (hk : k < a) : w.cell? ⟨g, k, none⟩ = some (.slice (some ⟨gs k, 0, none⟩) (len k) (len k)) := by
  obtain ⟨cs, h1, h2, h3⟩ := h
  rw [World.ownsRow.cellAt h1 k (by omega)]
  exact (h2 k hk).1
theorem TabV.cell (h : TabV w B g n len gs T a) {k i : Nat} (hk : k < a) (hi : i < len k) : w.cell? ⟨gs k, i, none⟩ = some (.bool (T k i)) ∧ w.frozen? ⟨gs k, i, none⟩ = false := by
  obtain ⟨cs, h1, h2, h3⟩ := h
  refine ⟨?_, World.ownsRow.frozenAt (h2 k hk).2 i⟩
  rw [World.ownsRow.cellAt (h2 k hk).2 i (by omega), List.getElem?_map, List.getElem?_map, List.getElem?_range hi]
  rfl
theorem TabV.set_ (h : TabV w B g n len gs T a) {k i : Nat} (hk : k < a) (hi : i < len k) : TabV (w.setCell ⟨gs k, i, none⟩ (.bool true)) B g n len gs (setT T k i) a := by
  obtain ⟨cs, h1, h2, h3⟩ := h
  obtain ⟨hs, hg⟩ := World.ownsRow.stored (h2 k hk).2 i (.bool true)
  refine ⟨cs, (But.stored (h2 k hk).2).row (by decide) h1, fun j hj => ⟨(h2 j hj).1, ?_⟩, h3⟩
  by_cases e : j = k
  · subst e
    rw [bmap_setU] at hs
    have e2 : ((List.range (len j)).map (T j)).set i true = (List.range (len j)).map (setT T j i j) := by
      refine List.ext_getElem? fun m => ?_
      rw [List.getElem?_set, List.getElem?_map, List.getElem?_map]
      by_cases em : i = m
      · subst em
        rw [if_pos rfl, if_pos (by simpa using hi), List.getElem?_range hi]
        simp [setT]
      · rw [if_neg em]
        rcases Nat.lt_or_ge m (len j) with hm | hm
        · rw [List.getElem?_range hm]
          simp [setT, show ¬ m = i from fun e => em e.symm]
        · rw [List.getElem?_eq_none (by simpa using hm)]; rfl
    rw [e2] at hs
    exact hs
  · have e2 : setT T k i j = T j := by funext m; exact setT_other (by omega)
    rw [e2]
    refine row_kept (h2 j hj).2 fun b hb => Below.heap_setCell _ _ _ _ ?_
    simp only [Value.ownBlock, Option.some.injEq] at hb
    subst hb
    exact fun e3 => e (h3 j k hj hk e3)
/-- a new row -/
theorem TabV.add {r : Nat} (h : TabV w B g n len gs T a) (ha : a < n) (hr : w.ownsRow B 4 1 (.slice (some ⟨r, 0, none⟩) (len a) (len a)) (len a) (((List.range (len a)).map (T a)).map Value.bool)) (hn : ∀ k, k < a → gs k ≠ r) :
    TabV (w.setCell ⟨g, a, none⟩ (.slice (some ⟨r, 0, none⟩) (len a) (len a))) B g n len (fun k => if k = a then r else gs k) T (a + 1) := by
  obtain ⟨cs, h1, h2, h3⟩ := h
  have hs := (World.ownsRow.stored h1 a (.slice (some ⟨r, 0, none⟩) (len a) (len a))).1
  have hb := But.stored (j := a) (u := .slice (some ⟨r, 0, none⟩) (len a) (len a)) h1
  have hl : cs.length = n := by have := h1.1; omega
  refine ⟨_, hs, fun k hk => ?_, fun k k' hk hk' e => ?_⟩
  · by_cases e : k = a
    · subst e
      simp only [if_pos]
      exact ⟨by rw [List.getElem?_set_self (by omega)], hb.row (by decide) hr⟩
    · simp only [if_neg e]
      have := h2 k (by omega)
      exact ⟨by rw [List.getElem?_set_ne (by omega)]; exact this.1, hb.row (by decide) this.2⟩
  · by_cases e1 : k = a <;> by_cases e2 : k' = a <;> simp only [e1, e2, if_pos, if_neg, not_false_iff] at e
    · omega
    · exact absurd e.symm (hn k' (by omega))
    · exact absurd e (hn k (by omega))
    · exact h3 k k' (by omega) (by omega) e
theorem TabV.outer (h : TabV w B g n len gs T a) (j : Nat) : w.frozen? ⟨g, j, none⟩ = false ∧ (j < n → ∃ u, w.cell? ⟨g, j, none⟩ = some u) ∧ B ≤ g ∧ g < w.heap.size := by
  obtain ⟨cs, h1, h2, h3⟩ := h
  refine ⟨World.ownsRow.frozenAt h1 j, fun hj => ?_, (row_lt h1 rfl).1, (row_lt h1 rfl).2.1⟩
  rw [World.ownsRow.cellAt h1 j (by omega)]
  exact ⟨_, List.getElem?_eq_getElem (by have := h1.1; omega)⟩
theorem TabV.congr {T' : Nat → Nat → Bool} (h : TabV w B g n len gs T a) (he : ∀ k i, T k i = T' k i) : TabV w B g n len gs T' a := by
  have : T = T' := by funext k i; exact he k i
  exact this ▸ h
end

section
variable {w w' : World} {B g n a : Nat} {len gs : Nat → Nat} {T : Nat → Nat → Bool}
theorem TabV.mono {B' : Nat} (h : TabV w B g n len gs T a) (hB : B' ≤ B) : TabV w B' g n len gs T a := by
  obtain ⟨cs, h1, h2, h3⟩ := h
  exact ⟨cs, row_mono h1 hB, fun k hk => ⟨(h2 k hk).1, row_mono (h2 k hk).2 hB⟩, h3⟩
theorem TabV.cellsOnly (h : TabV w B g n len gs T a) (hk : ∀ (k : Nat) c t f, w.heap[k]? = some (Obj.cells c t f) → w'.heap[k]? = w.heap[k]?) : TabV w' B g n len gs T a := h.kept fun k c t hc _ => hk k c t _ hc
theorem TabV.is_bool (h : TabV w B g n len gs T a) {k : Nat} (hk : k < a) : ∃ c, w.heap[gs k]? = some (.cells c 4 (0, 0)) := by
  obtain ⟨cs, h1, h2, h3⟩ := h
  exact (row_lt (h2 k hk).2 rfl).2.2
theorem TabV.is_outer (h : TabV w B g n len gs T a) : ∃ c, w.heap[g]? = some (.cells c 63 (0, 0)) := by
  obtain ⟨cs, h1, h2, h3⟩ := h
  exact (row_lt h1 rfl).2.2
theorem setCell_heap_ne {w : World} {k : Nat} {p : Addr} {u : Value} {c c' : Array Value} {t t' : TypeId} (h : w.heap[k]? = some (.cells c t (0, 0))) (hp : w.heap[p.block]? = some (.cells c' t' (0, 0))) (ht : t ≠ t') : (w.setCell p u).heap[k]? = w.heap[k]? :=
  Below.heap_setCell _ _ _ _ fun e => by subst e; rw [hp] at h; cases h; exact ht rfl
theorem three_boxU {w : World} {N : Nat} {a b c : Value} {t : TypeId} (h : w.heap[N]? = some (.cells #[a, b, c] t (0, 0))) : w.cell? ⟨N, 0, none⟩ = some a ∧ w.cell? ⟨N, 1, none⟩ = some b ∧ w.cell? ⟨N, 2, none⟩ = some c := by
  refine ⟨?_, ?_, ?_⟩ <;> simp [World.cell?, h]
theorem seven_boxU {w : World} {N : Nat} {a b c d e f g : Value} {t : TypeId} (h : w.heap[N]? = some (.cells #[a, b, c, d, e, f, g] t (0, 0))) : w.cell? ⟨N, 0, none⟩ = some a ∧ w.cell? ⟨N, 1, none⟩ = some b ∧ w.cell? ⟨N, 2, none⟩ = some c ∧ w.cell? ⟨N, 3, none⟩ = some d ∧ w.cell? ⟨N, 4, none⟩ = some e ∧ w.cell? ⟨N, 5, none⟩ = some f ∧ w.cell? ⟨N, 6, none⟩ = some g := by
  refine ⟨?_, ?_, ?_, ?_, ?_, ?_, ?_⟩ <;> simp [World.cell?, h]
end

/-! the makers and the work -/
structure Mks (w : World) (B M n : Nat) (vals : Int → Value) (mk : Int → List (Nat × Nat)) (v : Value) (W : List (Nat × Nat)) : Prop where
  map : MVal w M n vals
  rows : ∀ r, OwnPl w B (vals r) (mk r)
  apart : ∀ r r', r ≠ r' → (vals r).ownBlock = none ∨ (vals r).ownBlock ≠ (vals r').ownBlock
  work : OwnPl w B v W
  off : ∀ r, (vals r).ownBlock = none ∨ (vals r).ownBlock ≠ v.ownBlock
section
variable {w w' w0 w1 : World} {B M n : Nat} {vals : Int → Value} {mk : Int → List (Nat × Nat)} {v v' : Value} {W : List (Nat × Nat)}
theorem Mks.kept (h : Mks w B M n vals mk v W) (hm : w'.heap[M]? = w.heap[M]?) (hk : ∀ (k : Nat) (c : Array Value), w.heap[k]? = some (Obj.cells c 58 (0, 0)) → w'.heap[k]? = w.heap[k]?) : Mks w' B M n vals mk v W where
  map := h.map.of_heap hm
  rows r := (h.rows r).kept fun k hk' => by obtain ⟨-, -, c, hc⟩ := row_lt (h.rows r) hk'; exact hk k c hc
  apart := h.apart
  work := h.work.kept fun k hk' => by obtain ⟨-, -, c, hc⟩ := row_lt h.work hk'; exact hk k c hc
  off := h.off
theorem Mks.below (h : Mks w B M n vals mk v W) (hb : Below w.heap.size w w') : Mks w' B M n vals mk v W :=
  h.kept (hb.block M h.map.lt) fun k c hc => hb.block k (Array.getElem?_eq_some_iff.1 hc).1
theorem Mks.set_ (h : Mks w B M n vals mk v W) {p : Addr} {u : Value} {c : Array Value} {t : TypeId} (hp : w.heap[p.block]? = some (.cells c t (0, 0))) (ht : t ≠ 58) : Mks (w.setCell p u) B M n vals mk v W := by
  refine h.kept (Below.heap_setCell _ _ _ _ fun e => ?_) fun k c' hc => Below.heap_setCell _ _ _ _ fun e => ?_
  · obtain ⟨es, cl, h1⟩ := h.map.is_map
    rw [e, hp] at h1; cases h1
  · subst e
    rw [hp] at hc; cases hc; exact ht rfl
/-- the work's row, appended to; the world of the append: w0, that is w with a box behind it -/
theorem Mks.push (h : Mks w B M n vals mk v W) (hb : Below w.heap.size w w0) {g C : Nat} (hg : w0.grownBy w1 v.ownBlock) (hgq : v.ownBlock = some g ∨ w0.heap.size ≤ g) {p : Nat × Nat} (ho : w1.ownsRow B 58 3 (.slice (some ⟨g, 0, none⟩) (W.length + 1) C) (W.length + 1) (W.flatMap plc ++ plc p)) : Mks w1 B M n vals mk (.slice (some ⟨g, 0, none⟩) (W.length + 1) C) (W ++ [p]) := by
  have h0 := h.below hb
  have hoth : ∀ r, OwnPl w1 B (vals r) (mk r) := fun r => (h0.rows r).kept fun k hk => by
    have hlt := (row_lt (h0.rows r) hk).2.1
    refine hg.block k hlt fun e => ?_
    rcases h0.off r with e1 | e1
    · rw [e1] at hk; cases hk
    · exact e1 (hk.trans e)
  have hM : w1.heap[M]? = w0.heap[M]? := hg.block M h0.map.lt fun e => by
    obtain ⟨es, cl, h1⟩ := h0.map.is_map
    obtain ⟨-, -, c, hc⟩ := row_lt h0.work e.symm
    rw [hc] at h1; cases h1
  refine ⟨h0.map.of_heap hM, hoth, h.apart, ?_, fun r => ?_⟩
  · unfold OwnPl; rw [List.length_append, List.flatMap_append]; simpa using ho
  · show (vals r).ownBlock = none ∨ (vals r).ownBlock ≠ some g
    cases hv : (vals r).ownBlock with
    | none => exact .inl rfl
    | some k =>
      refine .inr fun e => ?_
      cases e
      rcases hgq with e1 | e1
      · rcases h0.off r with e2 | e2
        · rw [hv] at e2; cases e2
        · exact e2 (hv.trans e1.symm)
      · have := (row_lt (h0.rows r) hv).2.1; omega
/-- a maker's row, appended to, and laid into the map again -/
theorem Mks.grow (h : Mks w B M n vals mk v W) (hb : Below w.heap.size w w0) {r : Int} {g C : Nat} (hg : w0.grownBy w1 (vals r).ownBlock) (hgq : (vals r).ownBlock = some g ∨ w0.heap.size ≤ g) {p : Nat × Nat} (ho : w1.ownsRow B 58 3 (.slice (some ⟨g, 0, none⟩) ((mk r).length + 1) C) ((mk r).length + 1) ((mk r).flatMap plc ++ plc p))
    {T E : TypeId} (hT : Try.prog.underlying T = some (.map 3 E)) (hn : n < maxLen) (hr : (Lit.int .i64 r).wf = true) :
    ∃ w2, (Instr.mapUpdate T (.map (some M)) (.int .i64 r) (.slice (some ⟨g, 0, none⟩) ((mk r).length + 1) C)).run Try.prog w1 = .ok () w2 ∧ Mks w2 B M (n + 1) (fun x => if x = r then .slice (some ⟨g, 0, none⟩) ((mk r).length + 1) C else vals x) (fun x => if x = r then mk r ++ [p] else mk x) v W ∧ Only (fun k => k = M) w1.heap.size w1 w2 ∧ ∀ (k : Nat) c t f, w1.heap[k]? = some (Obj.cells c t f) → w2.heap[k]? = w1.heap[k]? := by
  have h0 := h.below hb
  have hM : w1.heap[M]? = w0.heap[M]? := hg.block M h0.map.lt fun e => by
    obtain ⟨es, cl, h1⟩ := h0.map.is_map
    obtain ⟨-, -, c, hc⟩ := row_lt (h0.rows r) e.symm
    rw [hc] at h1; cases h1
  obtain ⟨w2, hrun, hmap, hon⟩ := (h0.map.of_heap hM).store hT hn hr (v := .slice (some ⟨g, 0, none⟩) ((mk r).length + 1) C) rfl
  have hcell : ∀ (k : Nat) c t f, w1.heap[k]? = some (Obj.cells c t f) → w2.heap[k]? = w1.heap[k]? := fun k c t f hc => hon.block k (Array.getElem?_eq_some_iff.1 hc).1 fun e => by
    have e' : k = M := e
    subst e'
    obtain ⟨es, cl, h1⟩ := (h0.map.of_heap hM).is_map
    rw [hc] at h1; cases h1
  have hk2 : ∀ {x : Value} {l : List (Nat × Nat)}, OwnPl w1 B x l → OwnPl w2 B x l := fun {x l} h => h.kept fun k hk => by obtain ⟨-, -, c, hc⟩ := row_lt h hk; exact hcell k c _ _ hc
  refine ⟨w2, hrun, ⟨hmap, fun x => ?_, fun x x' hne => ?_, hk2 (h0.work.kept fun k hk => ?_), fun x => ?_⟩, hon, hcell⟩
  · by_cases e : x = r
    · subst e
      simp only [if_pos]
      exact hk2 (show w1.ownsRow B 58 3 _ _ _ by rw [List.length_append, List.flatMap_append]; simpa using ho)
    · simp only [if_neg e]
      refine hk2 ((h0.rows x).kept fun k hk => hg.block k (row_lt (h0.rows x) hk).2.1 fun e1 => ?_)
      rcases h0.apart x r e with e2 | e2
      · rw [e2] at hk; cases hk
      · exact e2 (hk.trans e1)
  · have key : ∀ y, y ≠ r → (vals y).ownBlock = none ∨ (vals y).ownBlock ≠ some g := fun y hy => by
      cases hv : (vals y).ownBlock with
      | none => exact .inl rfl
      | some k =>
        refine .inr fun e => ?_
        cases e
        rcases hgq with e1 | e1
        · rcases h0.apart y r hy with e2 | e2
          · rw [hv] at e2; cases e2
          · exact e2 (hv.trans e1.symm)
        · have := (row_lt (h0.rows y) hv).2.1; omega
    by_cases e : x = r
    · subst e
      simp only [if_pos, if_neg (fun e => hne e.symm : ¬ x' = x)]
      refine .inr fun e => ?_
      rcases key x' (fun e => hne e.symm) with e2 | e2
      · rw [e2] at e; cases e
      · exact e2 e.symm
    · by_cases e' : x' = r
      · subst e'
        simp only [if_pos, if_neg e]
        exact key x e
      · simp only [if_neg e, if_neg e']
        exact h0.apart x x' hne
  · refine hg.block k (row_lt h0.work hk).2.1 fun e => ?_
    rcases h0.off r with e2 | e2
    · rw [e2] at e; cases e
    · exact e2 (e.symm.trans hk.symm)
  · by_cases e : x = r
    · subst e
      simp only [if_pos]
      refine .inr fun e => ?_
      have hw : v.ownBlock = some g := e.symm
      rcases hgq with e1 | e1
      · rcases h0.off x with e2 | e2
        · rw [e1] at e2; cases e2
        · exact e2 (e1.trans hw.symm)
      · have := (row_lt h0.work hw).2.1; omega
    · simp only [if_neg e]
      exact h0.off x
theorem Mks.pop {g C : Nat} {p : Nat × Nat} (h : Mks w B M n vals mk (.slice (some ⟨g, 0, none⟩) (W.length + 1) C) (W ++ [p])) : Mks w B M n vals mk (.slice (some ⟨g, 0, none⟩) W.length C) W := ⟨h.map, h.rows, h.apart, h.work.pop, h.off⟩
theorem Mks.congr {vals' : Int → Value} {mk' : Int → List (Nat × Nat)} (h : Mks w B M n vals mk v W) (h1 : ∀ r, vals r = vals' r) (h2 : ∀ r, mk r = mk' r) : Mks w B M n vals' mk' v W := by
  have e1 : vals = vals' := funext h1
  have e2 : mk = mk' := funext h2
  exact e1 ▸ e2 ▸ h
end
end Go.Proofs.Ytaljdbmmjgmbbaa
