/- How data lie in memory: a word for each shape, and that it lasts while the blocks below a number stay as they are. No condition. -/
import Derived.WalkKit
import Derived.Deep.Slices
import Derived.Deep.Draws
import Derived.ChangeSame
import Derived.ChangeOld
namespace Go.Proofs.Yteeclobpajalmaa
open Go.RowKit

/-- HOW A DATUM LIES IN CELLS: in world w, below block B, these cells are the datum. -/
structure Rp (α : Type) where
  rep : World → Nat → List Value → α → Prop
  keep : ∀ {w w' : World} {B B' : Nat} {cs : List Value} {x : α}, rep w B cs x → (∀ p : Addr, p.block < B → w'.cell? p = w.cell? p) → B ≤ B' → rep w' B' cs x

/-- Plain cells: a function of the datum. -/
def Rp.plain {α : Type} (f : α → List Value) (ok : α → Prop) : Rp α := ⟨fun _ _ cs x => cs = f x ∧ ok x, fun h _ _ => h⟩

/-- A slice whose elements have n cells each. -/
def Rp.slice {α : Type} (n : Nat) (R : Rp α) : Rp (List α) where
  rep w B cs xs := ∃ A cap, cs = [.slice A xs.length cap] ∧ xs.length ≤ cap ∧ cap ≤ maxLen ∧ (0 < xs.length → ∃ b off, A = some ⟨b, off, none⟩ ∧ b < B ∧
    ∀ i x, xs[i]? = some x → ∃ es : List Value, es.length = n ∧ R.rep w B es x ∧ ∀ j u, es[j]? = some u → w.cell? ⟨b, off + (i * n + j), none⟩ = some u)
  keep := by
    rintro w w' B B' cs xs ⟨A, cap, h1, h2, h3, h⟩ hk hB
    refine ⟨A, cap, h1, h2, h3, fun hn => ?_⟩
    obtain ⟨b, off, hA, hb, he⟩ := h hn
    refine ⟨b, off, hA, by omega, fun i x hx => ?_⟩
    obtain ⟨es, hl, hr, hc⟩ := he i x hx
    exact ⟨es, hl, R.keep hr hk hB, fun j u hu => (hk _ hb).trans (hc j u hu)⟩

theorem Rp.nil_rep {α : Type} {n : Nat} {R : Rp α} {w : World} {B : Nat} : (Rp.slice n R).rep w B [.slice none 0 0] [] :=
  ⟨none, 0, rfl, Nat.le_refl _, by simp [maxLen], fun h => absurd h (by simp)⟩

theorem Rp.below {α : Type} {R : Rp α} {w w' : World} {B : Nat} {cs : List Value} {x : α} (h : R.rep w B cs x) (hb : Below B w w') : R.rep w' B cs x :=
  R.keep h (fun _ hp => hb.cell hp) (Nat.le_refl _)
/-- in a later world, below a greater number -/
theorem Rp.later {α : Type} {R : Rp α} {w w' : World} {B B' : Nat} {cs : List Value} {x : α} (h : R.rep w B cs x) (hb : Below B w w') (hB : B ≤ B') : R.rep w' B' cs x :=
  R.keep h (fun _ hp => hb.cell hp) hB

/-- THESE CELLS LIE FROM ⟨b, o⟩ ON, in w and in whatever world is as w was below B. -/
def Cells (w : World) (B b o : Nat) (l : List Value) : Prop := ∀ j u, l[j]? = some u → ∀ w', Below B w w' → w'.cell? ⟨b, o + j, none⟩ = some u
theorem Cells.mono {w : World} {B B' b o : Nat} {l : List Value} (h : Cells w B b o l) (hB : B ≤ B') : Cells w B' b o l := fun j u hu w' hw => h j u hu w' (hw.mono hB)
theorem Cells.later {w w1 : World} {B B' b o : Nat} {l : List Value} (h : Cells w B b o l) (h1 : Below B w w1) (hB : B ≤ B') : Cells w1 B' b o l := fun j u hu w' hw => h j u hu w' (h1.trans (hw.mono hB))
theorem Cells.at_ {w : World} {B b o : Nat} {l : List Value} (h : Cells w B b o l) (j : Nat) {u : Value} (hu : l[j]? = some u) : ∀ w', Below B w w' → w'.cell? ⟨b, o + j, none⟩ = some u := h j u hu

section
variable {w : World} {B b o : Nat} {u0 u1 u2 u3 u4 u5 u6 u7 : Value}
theorem Cells.one (h : Cells w B b o [u0]) : ∀ w', Below B w w' → w'.cell? ⟨b, o, none⟩ = some u0 := h.at_ 0 rfl
theorem Cells.two (h : Cells w B b o [u0, u1]) : (∀ w', Below B w w' → w'.cell? ⟨b, o, none⟩ = some u0) ∧ (∀ w', Below B w w' → w'.cell? ⟨b, o + 1, none⟩ = some u1) := ⟨h.at_ 0 rfl, h.at_ 1 rfl⟩
theorem Cells.three (h : Cells w B b o [u0, u1, u2]) : (∀ w', Below B w w' → w'.cell? ⟨b, o, none⟩ = some u0) ∧ (∀ w', Below B w w' → w'.cell? ⟨b, o + 1, none⟩ = some u1) ∧
    (∀ w', Below B w w' → w'.cell? ⟨b, o + 2, none⟩ = some u2) := ⟨h.at_ 0 rfl, h.at_ 1 rfl, h.at_ 2 rfl⟩
theorem Cells.four (h : Cells w B b o [u0, u1, u2, u3]) : (∀ w', Below B w w' → w'.cell? ⟨b, o, none⟩ = some u0) ∧ (∀ w', Below B w w' → w'.cell? ⟨b, o + 1, none⟩ = some u1) ∧
    (∀ w', Below B w w' → w'.cell? ⟨b, o + 2, none⟩ = some u2) ∧ (∀ w', Below B w w' → w'.cell? ⟨b, o + 3, none⟩ = some u3) := ⟨h.at_ 0 rfl, h.at_ 1 rfl, h.at_ 2 rfl, h.at_ 3 rfl⟩
theorem Cells.five (h : Cells w B b o [u0, u1, u2, u3, u4]) : (∀ w', Below B w w' → w'.cell? ⟨b, o, none⟩ = some u0) ∧ (∀ w', Below B w w' → w'.cell? ⟨b, o + 1, none⟩ = some u1) ∧
    (∀ w', Below B w w' → w'.cell? ⟨b, o + 2, none⟩ = some u2) ∧ (∀ w', Below B w w' → w'.cell? ⟨b, o + 3, none⟩ = some u3) ∧ (∀ w', Below B w w' → w'.cell? ⟨b, o + 4, none⟩ = some u4) :=
  ⟨h.at_ 0 rfl, h.at_ 1 rfl, h.at_ 2 rfl, h.at_ 3 rfl, h.at_ 4 rfl⟩
theorem Cells.seven (h : Cells w B b o [u0, u1, u2, u3, u4, u5, u6]) : (∀ w', Below B w w' → w'.cell? ⟨b, o, none⟩ = some u0) ∧ (∀ w', Below B w w' → w'.cell? ⟨b, o + 1, none⟩ = some u1) ∧
    (∀ w', Below B w w' → w'.cell? ⟨b, o + 2, none⟩ = some u2) ∧ (∀ w', Below B w w' → w'.cell? ⟨b, o + 3, none⟩ = some u3) ∧ (∀ w', Below B w w' → w'.cell? ⟨b, o + 4, none⟩ = some u4) ∧
    (∀ w', Below B w w' → w'.cell? ⟨b, o + 5, none⟩ = some u5) ∧ (∀ w', Below B w w' → w'.cell? ⟨b, o + 6, none⟩ = some u6) :=
  ⟨h.at_ 0 rfl, h.at_ 1 rfl, h.at_ 2 rfl, h.at_ 3 rfl, h.at_ 4 rfl, h.at_ 5 rfl, h.at_ 6 rfl⟩
end

/-- a cell of a block that was laid as b, in whatever later world -/
theorem box_cell {W w' : World} {b j : Nat} {cs : Array Value} {t : TypeId} {u : Value} (h : W.heap[b]? = some (.cells cs t (0, 0))) (hu : cs[j]? = some u) (hb : b < W.heap.size) (hw : Below W.heap.size W w') :
    w'.cell? ⟨b, j, none⟩ = some u := by
  rw [hw.cell (p := ⟨b, j, none⟩) hb]
  simp [World.cell?, h, hu]
theorem box_top (w : World) (o : Obj) : (w.alloc o).heap[w.heap.size]? = some o := heap_alloc_new w o
theorem box_under (w : World) (o o' : Obj) : ((w.alloc o).alloc o').heap[w.heap.size]? = some o := (Below.heap_alloc _ _ _ (by simp)).trans (heap_alloc_new w o)

/-- A SLICE, OPENED: every element's cells, in whatever later world. -/
theorem Rp.slice_open {α : Type} {n : Nat} {R : Rp α} {w : World} {B : Nat} {cs : List Value} {xs : List α} (h : (Rp.slice n R).rep w B cs xs) :
    ∃ A cap, cs = [.slice A xs.length cap] ∧ xs.length ≤ 9223372036854775807 ∧ (0 < xs.length → ∃ b off, A = some ⟨b, off, none⟩ ∧ ∀ i x, xs[i]? = some x →
      ∃ es : List Value, es.length = n ∧ R.rep w B es x ∧ Cells w B b (off + i * n) es) := by
  obtain ⟨A, cap, h1, h2, h3, h4⟩ := h
  unfold maxLen at h3
  refine ⟨A, cap, h1, by omega, fun hn => ?_⟩
  obtain ⟨b, off, hA, hb, he⟩ := h4 hn
  refine ⟨b, off, hA, fun i x hx => ?_⟩
  obtain ⟨es, hl, hr, hc⟩ := he i x hx
  exact ⟨es, hl, hr, fun j u hu w' hw => by rw [Nat.add_assoc]; exact (hw.cell (p := ⟨b, off + (i * n + j), none⟩) hb).trans (hc j u hu)⟩
/-- A slice of one-cell elements. -/
theorem Rp.slice1_open {α : Type} {R : Rp α} {w : World} {B : Nat} {cs : List Value} {xs : List α} (h : (Rp.slice 1 R).rep w B cs xs) :
    ∃ A cap, cs = [.slice A xs.length cap] ∧ xs.length ≤ 9223372036854775807 ∧ (0 < xs.length → ∃ b off, A = some ⟨b, off, none⟩ ∧ ∀ i x, xs[i]? = some x →
      ∃ c : Value, R.rep w B [c] x ∧ ∀ w', Below B w w' → w'.cell? ⟨b, off + i, none⟩ = some c) := by
  obtain ⟨A, cap, h1, h2, h3⟩ := Rp.slice_open h
  refine ⟨A, cap, h1, h2, fun hn => ?_⟩
  obtain ⟨b, off, hA, he⟩ := h3 hn
  refine ⟨b, off, hA, fun i x hx => ?_⟩
  obtain ⟨es, hl, hr, hc⟩ := he i x hx
  match es, hl with
  | [c], _ => exact ⟨c, hr, fun w' hw => by simpa using hc 0 c rfl w' hw⟩

/-- ONE BOX, TWO BOXES laid: the world under a name, and what the boxes hold in whatever later world. -/
theorem boxes1 (w : World) (c1 : Array Value) (t1 : TypeId) : ∃ W, w.alloc (.cells c1 t1) = W ∧ Below w.heap.size w W ∧ W.heap.size = w.heap.size + 1 ∧
    (∀ j u, c1[j]? = some u → ∀ w', Below W.heap.size W w' → w'.cell? ⟨w.heap.size, j, none⟩ = some u) :=
  ⟨_, rfl, (Below.refl _ _).alloc (Nat.le_refl _) _, by simp, fun _ _ hu _ hw => box_cell (box_top _ _) hu (by simp) hw⟩
theorem boxes2 (w : World) (c1 c2 : Array Value) (t1 t2 : TypeId) : ∃ W, (w.alloc (.cells c1 t1)).alloc (.cells c2 t2) = W ∧ Below w.heap.size w W ∧ W.heap.size = w.heap.size + 2 ∧
    (∀ j u, c1[j]? = some u → ∀ w', Below W.heap.size W w' → w'.cell? ⟨w.heap.size, j, none⟩ = some u) ∧
    (∀ j u, c2[j]? = some u → ∀ w', Below W.heap.size W w' → w'.cell? ⟨w.heap.size + 1, j, none⟩ = some u) :=
  ⟨_, rfl, ((Below.refl _ _).alloc (Nat.le_refl _) _).alloc (by simp) _, by simp, fun _ _ hu _ hw => box_cell (box_under _ _ _) hu (by simp; omega) hw,
    fun _ _ hu _ hw => box_cell (by have := box_top (w.alloc (.cells c1 t1)) (.cells c2 t2); simpa using this) hu (by simp) hw⟩

theorem boxes3 (w : World) (c1 c2 c3 : Array Value) (t1 t2 t3 : TypeId) : ∃ W, ((w.alloc (.cells c1 t1)).alloc (.cells c2 t2)).alloc (.cells c3 t3) = W ∧ Below w.heap.size w W ∧ W.heap.size = w.heap.size + 3 ∧
    (∀ j u, c1[j]? = some u → ∀ w', Below W.heap.size W w' → w'.cell? ⟨w.heap.size, j, none⟩ = some u) ∧
    (∀ j u, c2[j]? = some u → ∀ w', Below W.heap.size W w' → w'.cell? ⟨w.heap.size + 1, j, none⟩ = some u) ∧
    (∀ j u, c3[j]? = some u → ∀ w', Below W.heap.size W w' → w'.cell? ⟨w.heap.size + 1 + 1, j, none⟩ = some u) := by
  have s1 : (w.alloc (.cells c1 t1)).heap.size = w.heap.size + 1 := by simp
  have s2 : ((w.alloc (.cells c1 t1)).alloc (.cells c2 t2)).heap.size = w.heap.size + 1 + 1 := by simp
  have s3 : (((w.alloc (.cells c1 t1)).alloc (.cells c2 t2)).alloc (.cells c3 t3)).heap.size = w.heap.size + 1 + 1 + 1 := by simp
  have g3 : Below (w.heap.size + 1 + 1 + 1) (((w.alloc (.cells c1 t1)).alloc (.cells c2 t2)).alloc (.cells c3 t3)) (((w.alloc (.cells c1 t1)).alloc (.cells c2 t2)).alloc (.cells c3 t3)) := Below.refl _ _
  have g2 : Below (w.heap.size + 1 + 1) ((w.alloc (.cells c1 t1)).alloc (.cells c2 t2)) (((w.alloc (.cells c1 t1)).alloc (.cells c2 t2)).alloc (.cells c3 t3)) := ((Below.refl _ _).alloc (by rw [s2]; omega) _).trans (g3.mono (by omega))
  have g1 : Below (w.heap.size + 1) (w.alloc (.cells c1 t1)) (((w.alloc (.cells c1 t1)).alloc (.cells c2 t2)).alloc (.cells c3 t3)) := ((Below.refl _ _).alloc (by rw [s1]; omega) _).trans (g2.mono (by omega))
  refine ⟨_, rfl, ((Below.refl _ _).alloc (Nat.le_refl _) _).trans (g1.mono (by omega)), s3, fun _ _ hu _ hw => box_cell ((g1.block _ (by omega)).trans (box_top w _)) hu (by rw [s3]; omega) hw,
    fun _ _ hu _ hw => box_cell ((g2.block _ (by omega)).trans ((show ((w.alloc (.cells c1 t1)).alloc (.cells c2 t2)).heap[w.heap.size + 1]? = _ by rw [← s1]; exact box_top _ _))) hu (by rw [s3]; omega) hw,
    fun _ _ hu _ hw => box_cell ((g3.block _ (by omega)).trans ((show (((w.alloc (.cells c1 t1)).alloc (.cells c2 t2)).alloc (.cells c3 t3)).heap[w.heap.size + 1 + 1]? = _ by rw [← s2]; exact box_top _ _))) hu (by rw [s3]; omega) hw⟩
theorem boxes4 (w : World) (c1 c2 c3 c4 : Array Value) (t1 t2 t3 t4 : TypeId) : ∃ W, (((w.alloc (.cells c1 t1)).alloc (.cells c2 t2)).alloc (.cells c3 t3)).alloc (.cells c4 t4) = W ∧ Below w.heap.size w W ∧ W.heap.size = w.heap.size + 4 ∧
    (∀ j u, c1[j]? = some u → ∀ w', Below W.heap.size W w' → w'.cell? ⟨w.heap.size, j, none⟩ = some u) ∧
    (∀ j u, c2[j]? = some u → ∀ w', Below W.heap.size W w' → w'.cell? ⟨w.heap.size + 1, j, none⟩ = some u) ∧
    (∀ j u, c3[j]? = some u → ∀ w', Below W.heap.size W w' → w'.cell? ⟨w.heap.size + 1 + 1, j, none⟩ = some u) ∧
    (∀ j u, c4[j]? = some u → ∀ w', Below W.heap.size W w' → w'.cell? ⟨w.heap.size + 1 + 1 + 1, j, none⟩ = some u) := by
  have s1 : (w.alloc (.cells c1 t1)).heap.size = w.heap.size + 1 := by simp
  have s2 : ((w.alloc (.cells c1 t1)).alloc (.cells c2 t2)).heap.size = w.heap.size + 1 + 1 := by simp
  have s3 : (((w.alloc (.cells c1 t1)).alloc (.cells c2 t2)).alloc (.cells c3 t3)).heap.size = w.heap.size + 1 + 1 + 1 := by simp
  have s4 : ((((w.alloc (.cells c1 t1)).alloc (.cells c2 t2)).alloc (.cells c3 t3)).alloc (.cells c4 t4)).heap.size = w.heap.size + 1 + 1 + 1 + 1 := by simp
  have g4 : Below (w.heap.size + 1 + 1 + 1 + 1) ((((w.alloc (.cells c1 t1)).alloc (.cells c2 t2)).alloc (.cells c3 t3)).alloc (.cells c4 t4)) ((((w.alloc (.cells c1 t1)).alloc (.cells c2 t2)).alloc (.cells c3 t3)).alloc (.cells c4 t4)) := Below.refl _ _
  have g3 : Below (w.heap.size + 1 + 1 + 1) (((w.alloc (.cells c1 t1)).alloc (.cells c2 t2)).alloc (.cells c3 t3)) ((((w.alloc (.cells c1 t1)).alloc (.cells c2 t2)).alloc (.cells c3 t3)).alloc (.cells c4 t4)) := ((Below.refl _ _).alloc (by rw [s3]; omega) _).trans (g4.mono (by omega))
  have g2 : Below (w.heap.size + 1 + 1) ((w.alloc (.cells c1 t1)).alloc (.cells c2 t2)) ((((w.alloc (.cells c1 t1)).alloc (.cells c2 t2)).alloc (.cells c3 t3)).alloc (.cells c4 t4)) := ((Below.refl _ _).alloc (by rw [s2]; omega) _).trans (g3.mono (by omega))
  have g1 : Below (w.heap.size + 1) (w.alloc (.cells c1 t1)) ((((w.alloc (.cells c1 t1)).alloc (.cells c2 t2)).alloc (.cells c3 t3)).alloc (.cells c4 t4)) := ((Below.refl _ _).alloc (by rw [s1]; omega) _).trans (g2.mono (by omega))
  refine ⟨_, rfl, ((Below.refl _ _).alloc (Nat.le_refl _) _).trans (g1.mono (by omega)), s4, fun _ _ hu _ hw => box_cell ((g1.block _ (by omega)).trans (box_top w _)) hu (by rw [s4]; omega) hw,
    fun _ _ hu _ hw => box_cell ((g2.block _ (by omega)).trans ((show ((w.alloc (.cells c1 t1)).alloc (.cells c2 t2)).heap[w.heap.size + 1]? = _ by rw [← s1]; exact box_top _ _))) hu (by rw [s4]; omega) hw,
    fun _ _ hu _ hw => box_cell ((g3.block _ (by omega)).trans ((show (((w.alloc (.cells c1 t1)).alloc (.cells c2 t2)).alloc (.cells c3 t3)).heap[w.heap.size + 1 + 1]? = _ by rw [← s2]; exact box_top _ _))) hu (by rw [s4]; omega) hw,
    fun _ _ hu _ hw => box_cell ((g4.block _ (by omega)).trans ((show ((((w.alloc (.cells c1 t1)).alloc (.cells c2 t2)).alloc (.cells c3 t3)).alloc (.cells c4 t4)).heap[w.heap.size + 1 + 1 + 1]? = _ by rw [← s3]; exact box_top _ _))) hu (by rw [s4]; omega) hw⟩
theorem boxes5 (w : World) (c1 c2 c3 c4 c5 : Array Value) (t1 t2 t3 t4 t5 : TypeId) : ∃ W, ((((w.alloc (.cells c1 t1)).alloc (.cells c2 t2)).alloc (.cells c3 t3)).alloc (.cells c4 t4)).alloc (.cells c5 t5) = W ∧ Below w.heap.size w W ∧ W.heap.size = w.heap.size + 5 ∧
    (∀ j u, c1[j]? = some u → ∀ w', Below W.heap.size W w' → w'.cell? ⟨w.heap.size, j, none⟩ = some u) ∧
    (∀ j u, c2[j]? = some u → ∀ w', Below W.heap.size W w' → w'.cell? ⟨w.heap.size + 1, j, none⟩ = some u) ∧
    (∀ j u, c3[j]? = some u → ∀ w', Below W.heap.size W w' → w'.cell? ⟨w.heap.size + 1 + 1, j, none⟩ = some u) ∧
    (∀ j u, c4[j]? = some u → ∀ w', Below W.heap.size W w' → w'.cell? ⟨w.heap.size + 1 + 1 + 1, j, none⟩ = some u) ∧
    (∀ j u, c5[j]? = some u → ∀ w', Below W.heap.size W w' → w'.cell? ⟨w.heap.size + 1 + 1 + 1 + 1, j, none⟩ = some u) := by
  have s1 : (w.alloc (.cells c1 t1)).heap.size = w.heap.size + 1 := by simp
  have s2 : ((w.alloc (.cells c1 t1)).alloc (.cells c2 t2)).heap.size = w.heap.size + 1 + 1 := by simp
  have s3 : (((w.alloc (.cells c1 t1)).alloc (.cells c2 t2)).alloc (.cells c3 t3)).heap.size = w.heap.size + 1 + 1 + 1 := by simp
  have s4 : ((((w.alloc (.cells c1 t1)).alloc (.cells c2 t2)).alloc (.cells c3 t3)).alloc (.cells c4 t4)).heap.size = w.heap.size + 1 + 1 + 1 + 1 := by simp
  have s5 : (((((w.alloc (.cells c1 t1)).alloc (.cells c2 t2)).alloc (.cells c3 t3)).alloc (.cells c4 t4)).alloc (.cells c5 t5)).heap.size = w.heap.size + 1 + 1 + 1 + 1 + 1 := by simp
  have g5 : Below (w.heap.size + 1 + 1 + 1 + 1 + 1) (((((w.alloc (.cells c1 t1)).alloc (.cells c2 t2)).alloc (.cells c3 t3)).alloc (.cells c4 t4)).alloc (.cells c5 t5)) (((((w.alloc (.cells c1 t1)).alloc (.cells c2 t2)).alloc (.cells c3 t3)).alloc (.cells c4 t4)).alloc (.cells c5 t5)) := Below.refl _ _
  have g4 : Below (w.heap.size + 1 + 1 + 1 + 1) ((((w.alloc (.cells c1 t1)).alloc (.cells c2 t2)).alloc (.cells c3 t3)).alloc (.cells c4 t4)) (((((w.alloc (.cells c1 t1)).alloc (.cells c2 t2)).alloc (.cells c3 t3)).alloc (.cells c4 t4)).alloc (.cells c5 t5)) := ((Below.refl _ _).alloc (by rw [s4]; omega) _).trans (g5.mono (by omega))
  have g3 : Below (w.heap.size + 1 + 1 + 1) (((w.alloc (.cells c1 t1)).alloc (.cells c2 t2)).alloc (.cells c3 t3)) (((((w.alloc (.cells c1 t1)).alloc (.cells c2 t2)).alloc (.cells c3 t3)).alloc (.cells c4 t4)).alloc (.cells c5 t5)) := ((Below.refl _ _).alloc (by rw [s3]; omega) _).trans (g4.mono (by omega))
  have g2 : Below (w.heap.size + 1 + 1) ((w.alloc (.cells c1 t1)).alloc (.cells c2 t2)) (((((w.alloc (.cells c1 t1)).alloc (.cells c2 t2)).alloc (.cells c3 t3)).alloc (.cells c4 t4)).alloc (.cells c5 t5)) := ((Below.refl _ _).alloc (by rw [s2]; omega) _).trans (g3.mono (by omega))
  have g1 : Below (w.heap.size + 1) (w.alloc (.cells c1 t1)) (((((w.alloc (.cells c1 t1)).alloc (.cells c2 t2)).alloc (.cells c3 t3)).alloc (.cells c4 t4)).alloc (.cells c5 t5)) := ((Below.refl _ _).alloc (by rw [s1]; omega) _).trans (g2.mono (by omega))
  refine ⟨_, rfl, ((Below.refl _ _).alloc (Nat.le_refl _) _).trans (g1.mono (by omega)), s5, fun _ _ hu _ hw => box_cell ((g1.block _ (by omega)).trans (box_top w _)) hu (by rw [s5]; omega) hw,
    fun _ _ hu _ hw => box_cell ((g2.block _ (by omega)).trans ((show ((w.alloc (.cells c1 t1)).alloc (.cells c2 t2)).heap[w.heap.size + 1]? = _ by rw [← s1]; exact box_top _ _))) hu (by rw [s5]; omega) hw,
    fun _ _ hu _ hw => box_cell ((g3.block _ (by omega)).trans ((show (((w.alloc (.cells c1 t1)).alloc (.cells c2 t2)).alloc (.cells c3 t3)).heap[w.heap.size + 1 + 1]? = _ by rw [← s2]; exact box_top _ _))) hu (by rw [s5]; omega) hw,
    fun _ _ hu _ hw => box_cell ((g4.block _ (by omega)).trans ((show ((((w.alloc (.cells c1 t1)).alloc (.cells c2 t2)).alloc (.cells c3 t3)).alloc (.cells c4 t4)).heap[w.heap.size + 1 + 1 + 1]? = _ by rw [← s3]; exact box_top _ _))) hu (by rw [s5]; omega) hw,
    fun _ _ hu _ hw => box_cell ((g5.block _ (by omega)).trans ((show (((((w.alloc (.cells c1 t1)).alloc (.cells c2 t2)).alloc (.cells c3 t3)).alloc (.cells c4 t4)).alloc (.cells c5 t5)).heap[w.heap.size + 1 + 1 + 1 + 1]? = _ by rw [← s4]; exact box_top _ _))) hu (by rw [s5]; omega) hw⟩
theorem boxes6 (w : World) (c1 c2 c3 c4 c5 c6 : Array Value) (t1 t2 t3 t4 t5 t6 : TypeId) : ∃ W, (((((w.alloc (.cells c1 t1)).alloc (.cells c2 t2)).alloc (.cells c3 t3)).alloc (.cells c4 t4)).alloc (.cells c5 t5)).alloc (.cells c6 t6) = W ∧ Below w.heap.size w W ∧ W.heap.size = w.heap.size + 6 ∧
    (∀ j u, c1[j]? = some u → ∀ w', Below W.heap.size W w' → w'.cell? ⟨w.heap.size, j, none⟩ = some u) ∧
    (∀ j u, c2[j]? = some u → ∀ w', Below W.heap.size W w' → w'.cell? ⟨w.heap.size + 1, j, none⟩ = some u) ∧
    (∀ j u, c3[j]? = some u → ∀ w', Below W.heap.size W w' → w'.cell? ⟨w.heap.size + 1 + 1, j, none⟩ = some u) ∧
    (∀ j u, c4[j]? = some u → ∀ w', Below W.heap.size W w' → w'.cell? ⟨w.heap.size + 1 + 1 + 1, j, none⟩ = some u) ∧
    (∀ j u, c5[j]? = some u → ∀ w', Below W.heap.size W w' → w'.cell? ⟨w.heap.size + 1 + 1 + 1 + 1, j, none⟩ = some u) ∧
    (∀ j u, c6[j]? = some u → ∀ w', Below W.heap.size W w' → w'.cell? ⟨w.heap.size + 1 + 1 + 1 + 1 + 1, j, none⟩ = some u) := by
  have s1 : (w.alloc (.cells c1 t1)).heap.size = w.heap.size + 1 := by simp
  have s2 : ((w.alloc (.cells c1 t1)).alloc (.cells c2 t2)).heap.size = w.heap.size + 1 + 1 := by simp
  have s3 : (((w.alloc (.cells c1 t1)).alloc (.cells c2 t2)).alloc (.cells c3 t3)).heap.size = w.heap.size + 1 + 1 + 1 := by simp
  have s4 : ((((w.alloc (.cells c1 t1)).alloc (.cells c2 t2)).alloc (.cells c3 t3)).alloc (.cells c4 t4)).heap.size = w.heap.size + 1 + 1 + 1 + 1 := by simp
  have s5 : (((((w.alloc (.cells c1 t1)).alloc (.cells c2 t2)).alloc (.cells c3 t3)).alloc (.cells c4 t4)).alloc (.cells c5 t5)).heap.size = w.heap.size + 1 + 1 + 1 + 1 + 1 := by simp
  have s6 : ((((((w.alloc (.cells c1 t1)).alloc (.cells c2 t2)).alloc (.cells c3 t3)).alloc (.cells c4 t4)).alloc (.cells c5 t5)).alloc (.cells c6 t6)).heap.size = w.heap.size + 1 + 1 + 1 + 1 + 1 + 1 := by simp
  have g6 : Below (w.heap.size + 1 + 1 + 1 + 1 + 1 + 1) ((((((w.alloc (.cells c1 t1)).alloc (.cells c2 t2)).alloc (.cells c3 t3)).alloc (.cells c4 t4)).alloc (.cells c5 t5)).alloc (.cells c6 t6)) ((((((w.alloc (.cells c1 t1)).alloc (.cells c2 t2)).alloc (.cells c3 t3)).alloc (.cells c4 t4)).alloc (.cells c5 t5)).alloc (.cells c6 t6)) := Below.refl _ _
  have g5 : Below (w.heap.size + 1 + 1 + 1 + 1 + 1) (((((w.alloc (.cells c1 t1)).alloc (.cells c2 t2)).alloc (.cells c3 t3)).alloc (.cells c4 t4)).alloc (.cells c5 t5)) ((((((w.alloc (.cells c1 t1)).alloc (.cells c2 t2)).alloc (.cells c3 t3)).alloc (.cells c4 t4)).alloc (.cells c5 t5)).alloc (.cells c6 t6)) := ((Below.refl _ _).alloc (by rw [s5]; omega) _).trans (g6.mono (by omega))
  have g4 : Below (w.heap.size + 1 + 1 + 1 + 1) ((((w.alloc (.cells c1 t1)).alloc (.cells c2 t2)).alloc (.cells c3 t3)).alloc (.cells c4 t4)) ((((((w.alloc (.cells c1 t1)).alloc (.cells c2 t2)).alloc (.cells c3 t3)).alloc (.cells c4 t4)).alloc (.cells c5 t5)).alloc (.cells c6 t6)) := ((Below.refl _ _).alloc (by rw [s4]; omega) _).trans (g5.mono (by omega))
  have g3 : Below (w.heap.size + 1 + 1 + 1) (((w.alloc (.cells c1 t1)).alloc (.cells c2 t2)).alloc (.cells c3 t3)) ((((((w.alloc (.cells c1 t1)).alloc (.cells c2 t2)).alloc (.cells c3 t3)).alloc (.cells c4 t4)).alloc (.cells c5 t5)).alloc (.cells c6 t6)) := ((Below.refl _ _).alloc (by rw [s3]; omega) _).trans (g4.mono (by omega))
  have g2 : Below (w.heap.size + 1 + 1) ((w.alloc (.cells c1 t1)).alloc (.cells c2 t2)) ((((((w.alloc (.cells c1 t1)).alloc (.cells c2 t2)).alloc (.cells c3 t3)).alloc (.cells c4 t4)).alloc (.cells c5 t5)).alloc (.cells c6 t6)) := ((Below.refl _ _).alloc (by rw [s2]; omega) _).trans (g3.mono (by omega))
  have g1 : Below (w.heap.size + 1) (w.alloc (.cells c1 t1)) ((((((w.alloc (.cells c1 t1)).alloc (.cells c2 t2)).alloc (.cells c3 t3)).alloc (.cells c4 t4)).alloc (.cells c5 t5)).alloc (.cells c6 t6)) := ((Below.refl _ _).alloc (by rw [s1]; omega) _).trans (g2.mono (by omega))
  refine ⟨_, rfl, ((Below.refl _ _).alloc (Nat.le_refl _) _).trans (g1.mono (by omega)), s6, fun _ _ hu _ hw => box_cell ((g1.block _ (by omega)).trans (box_top w _)) hu (by rw [s6]; omega) hw,
    fun _ _ hu _ hw => box_cell ((g2.block _ (by omega)).trans ((show ((w.alloc (.cells c1 t1)).alloc (.cells c2 t2)).heap[w.heap.size + 1]? = _ by rw [← s1]; exact box_top _ _))) hu (by rw [s6]; omega) hw,
    fun _ _ hu _ hw => box_cell ((g3.block _ (by omega)).trans ((show (((w.alloc (.cells c1 t1)).alloc (.cells c2 t2)).alloc (.cells c3 t3)).heap[w.heap.size + 1 + 1]? = _ by rw [← s2]; exact box_top _ _))) hu (by rw [s6]; omega) hw,
    fun _ _ hu _ hw => box_cell ((g4.block _ (by omega)).trans ((show ((((w.alloc (.cells c1 t1)).alloc (.cells c2 t2)).alloc (.cells c3 t3)).alloc (.cells c4 t4)).heap[w.heap.size + 1 + 1 + 1]? = _ by rw [← s3]; exact box_top _ _))) hu (by rw [s6]; omega) hw,
    fun _ _ hu _ hw => box_cell ((g5.block _ (by omega)).trans ((show (((((w.alloc (.cells c1 t1)).alloc (.cells c2 t2)).alloc (.cells c3 t3)).alloc (.cells c4 t4)).alloc (.cells c5 t5)).heap[w.heap.size + 1 + 1 + 1 + 1]? = _ by rw [← s4]; exact box_top _ _))) hu (by rw [s6]; omega) hw,
    fun _ _ hu _ hw => box_cell ((g6.block _ (by omega)).trans ((show ((((((w.alloc (.cells c1 t1)).alloc (.cells c2 t2)).alloc (.cells c3 t3)).alloc (.cells c4 t4)).alloc (.cells c5 t5)).alloc (.cells c6 t6)).heap[w.heap.size + 1 + 1 + 1 + 1 + 1]? = _ by rw [← s5]; exact box_top _ _))) hu (by rw [s6]; omega) hw⟩
theorem boxes7 (w : World) (c1 c2 c3 c4 c5 c6 c7 : Array Value) (t1 t2 t3 t4 t5 t6 t7 : TypeId) : ∃ W, ((((((w.alloc (.cells c1 t1)).alloc (.cells c2 t2)).alloc (.cells c3 t3)).alloc (.cells c4 t4)).alloc (.cells c5 t5)).alloc (.cells c6 t6)).alloc (.cells c7 t7) = W ∧ Below w.heap.size w W ∧ W.heap.size = w.heap.size + 7 ∧
    (∀ j u, c1[j]? = some u → ∀ w', Below W.heap.size W w' → w'.cell? ⟨w.heap.size, j, none⟩ = some u) ∧
    (∀ j u, c2[j]? = some u → ∀ w', Below W.heap.size W w' → w'.cell? ⟨w.heap.size + 1, j, none⟩ = some u) ∧
    (∀ j u, c3[j]? = some u → ∀ w', Below W.heap.size W w' → w'.cell? ⟨w.heap.size + 1 + 1, j, none⟩ = some u) ∧
    (∀ j u, c4[j]? = some u → ∀ w', Below W.heap.size W w' → w'.cell? ⟨w.heap.size + 1 + 1 + 1, j, none⟩ = some u) ∧
    (∀ j u, c5[j]? = some u → ∀ w', Below W.heap.size W w' → w'.cell? ⟨w.heap.size + 1 + 1 + 1 + 1, j, none⟩ = some u) ∧
    (∀ j u, c6[j]? = some u → ∀ w', Below W.heap.size W w' → w'.cell? ⟨w.heap.size + 1 + 1 + 1 + 1 + 1, j, none⟩ = some u) ∧
    (∀ j u, c7[j]? = some u → ∀ w', Below W.heap.size W w' → w'.cell? ⟨w.heap.size + 1 + 1 + 1 + 1 + 1 + 1, j, none⟩ = some u) := by
  have s1 : (w.alloc (.cells c1 t1)).heap.size = w.heap.size + 1 := by simp
  have s2 : ((w.alloc (.cells c1 t1)).alloc (.cells c2 t2)).heap.size = w.heap.size + 1 + 1 := by simp
  have s3 : (((w.alloc (.cells c1 t1)).alloc (.cells c2 t2)).alloc (.cells c3 t3)).heap.size = w.heap.size + 1 + 1 + 1 := by simp
  have s4 : ((((w.alloc (.cells c1 t1)).alloc (.cells c2 t2)).alloc (.cells c3 t3)).alloc (.cells c4 t4)).heap.size = w.heap.size + 1 + 1 + 1 + 1 := by simp
  have s5 : (((((w.alloc (.cells c1 t1)).alloc (.cells c2 t2)).alloc (.cells c3 t3)).alloc (.cells c4 t4)).alloc (.cells c5 t5)).heap.size = w.heap.size + 1 + 1 + 1 + 1 + 1 := by simp
  have s6 : ((((((w.alloc (.cells c1 t1)).alloc (.cells c2 t2)).alloc (.cells c3 t3)).alloc (.cells c4 t4)).alloc (.cells c5 t5)).alloc (.cells c6 t6)).heap.size = w.heap.size + 1 + 1 + 1 + 1 + 1 + 1 := by simp
  have s7 : (((((((w.alloc (.cells c1 t1)).alloc (.cells c2 t2)).alloc (.cells c3 t3)).alloc (.cells c4 t4)).alloc (.cells c5 t5)).alloc (.cells c6 t6)).alloc (.cells c7 t7)).heap.size = w.heap.size + 1 + 1 + 1 + 1 + 1 + 1 + 1 := by simp
  have g7 : Below (w.heap.size + 1 + 1 + 1 + 1 + 1 + 1 + 1) (((((((w.alloc (.cells c1 t1)).alloc (.cells c2 t2)).alloc (.cells c3 t3)).alloc (.cells c4 t4)).alloc (.cells c5 t5)).alloc (.cells c6 t6)).alloc (.cells c7 t7)) (((((((w.alloc (.cells c1 t1)).alloc (.cells c2 t2)).alloc (.cells c3 t3)).alloc (.cells c4 t4)).alloc (.cells c5 t5)).alloc (.cells c6 t6)).alloc (.cells c7 t7)) := Below.refl _ _
  have g6 : Below (w.heap.size + 1 + 1 + 1 + 1 + 1 + 1) ((((((w.alloc (.cells c1 t1)).alloc (.cells c2 t2)).alloc (.cells c3 t3)).alloc (.cells c4 t4)).alloc (.cells c5 t5)).alloc (.cells c6 t6)) (((((((w.alloc (.cells c1 t1)).alloc (.cells c2 t2)).alloc (.cells c3 t3)).alloc (.cells c4 t4)).alloc (.cells c5 t5)).alloc (.cells c6 t6)).alloc (.cells c7 t7)) := ((Below.refl _ _).alloc (by rw [s6]; omega) _).trans (g7.mono (by omega))
  have g5 : Below (w.heap.size + 1 + 1 + 1 + 1 + 1) (((((w.alloc (.cells c1 t1)).alloc (.cells c2 t2)).alloc (.cells c3 t3)).alloc (.cells c4 t4)).alloc (.cells c5 t5)) (((((((w.alloc (.cells c1 t1)).alloc (.cells c2 t2)).alloc (.cells c3 t3)).alloc (.cells c4 t4)).alloc (.cells c5 t5)).alloc (.cells c6 t6)).alloc (.cells c7 t7)) := ((Below.refl _ _).alloc (by rw [s5]; omega) _).trans (g6.mono (by omega))
  have g4 : Below (w.heap.size + 1 + 1 + 1 + 1) ((((w.alloc (.cells c1 t1)).alloc (.cells c2 t2)).alloc (.cells c3 t3)).alloc (.cells c4 t4)) (((((((w.alloc (.cells c1 t1)).alloc (.cells c2 t2)).alloc (.cells c3 t3)).alloc (.cells c4 t4)).alloc (.cells c5 t5)).alloc (.cells c6 t6)).alloc (.cells c7 t7)) := ((Below.refl _ _).alloc (by rw [s4]; omega) _).trans (g5.mono (by omega))
  have g3 : Below (w.heap.size + 1 + 1 + 1) (((w.alloc (.cells c1 t1)).alloc (.cells c2 t2)).alloc (.cells c3 t3)) (((((((w.alloc (.cells c1 t1)).alloc (.cells c2 t2)).alloc (.cells c3 t3)).alloc (.cells c4 t4)).alloc (.cells c5 t5)).alloc (.cells c6 t6)).alloc (.cells c7 t7)) := ((Below.refl _ _).alloc (by rw [s3]; omega) _).trans (g4.mono (by omega))
  have g2 : Below (w.heap.size + 1 + 1) ((w.alloc (.cells c1 t1)).alloc (.cells c2 t2)) (((((((w.alloc (.cells c1 t1)).alloc (.cells c2 t2)).alloc (.cells c3 t3)).alloc (.cells c4 t4)).alloc (.cells c5 t5)).alloc (.cells c6 t6)).alloc (.cells c7 t7)) := ((Below.refl _ _).alloc (by rw [s2]; omega) _).trans (g3.mono (by omega))
  have g1 : Below (w.heap.size + 1) (w.alloc (.cells c1 t1)) (((((((w.alloc (.cells c1 t1)).alloc (.cells c2 t2)).alloc (.cells c3 t3)).alloc (.cells c4 t4)).alloc (.cells c5 t5)).alloc (.cells c6 t6)).alloc (.cells c7 t7)) := ((Below.refl _ _).alloc (by rw [s1]; omega) _).trans (g2.mono (by omega))
  refine ⟨_, rfl, ((Below.refl _ _).alloc (Nat.le_refl _) _).trans (g1.mono (by omega)), s7, fun _ _ hu _ hw => box_cell ((g1.block _ (by omega)).trans (box_top w _)) hu (by rw [s7]; omega) hw,
    fun _ _ hu _ hw => box_cell ((g2.block _ (by omega)).trans ((show ((w.alloc (.cells c1 t1)).alloc (.cells c2 t2)).heap[w.heap.size + 1]? = _ by rw [← s1]; exact box_top _ _))) hu (by rw [s7]; omega) hw,
    fun _ _ hu _ hw => box_cell ((g3.block _ (by omega)).trans ((show (((w.alloc (.cells c1 t1)).alloc (.cells c2 t2)).alloc (.cells c3 t3)).heap[w.heap.size + 1 + 1]? = _ by rw [← s2]; exact box_top _ _))) hu (by rw [s7]; omega) hw,
    fun _ _ hu _ hw => box_cell ((g4.block _ (by omega)).trans ((show ((((w.alloc (.cells c1 t1)).alloc (.cells c2 t2)).alloc (.cells c3 t3)).alloc (.cells c4 t4)).heap[w.heap.size + 1 + 1 + 1]? = _ by rw [← s3]; exact box_top _ _))) hu (by rw [s7]; omega) hw,
    fun _ _ hu _ hw => box_cell ((g5.block _ (by omega)).trans ((show (((((w.alloc (.cells c1 t1)).alloc (.cells c2 t2)).alloc (.cells c3 t3)).alloc (.cells c4 t4)).alloc (.cells c5 t5)).heap[w.heap.size + 1 + 1 + 1 + 1]? = _ by rw [← s4]; exact box_top _ _))) hu (by rw [s7]; omega) hw,
    fun _ _ hu _ hw => box_cell ((g6.block _ (by omega)).trans ((show ((((((w.alloc (.cells c1 t1)).alloc (.cells c2 t2)).alloc (.cells c3 t3)).alloc (.cells c4 t4)).alloc (.cells c5 t5)).alloc (.cells c6 t6)).heap[w.heap.size + 1 + 1 + 1 + 1 + 1]? = _ by rw [← s5]; exact box_top _ _))) hu (by rw [s7]; omega) hw,
    fun _ _ hu _ hw => box_cell ((g7.block _ (by omega)).trans ((show (((((((w.alloc (.cells c1 t1)).alloc (.cells c2 t2)).alloc (.cells c3 t3)).alloc (.cells c4 t4)).alloc (.cells c5 t5)).alloc (.cells c6 t6)).alloc (.cells c7 t7)).heap[w.heap.size + 1 + 1 + 1 + 1 + 1 + 1]? = _ by rw [← s6]; exact box_top _ _))) hu (by rw [s7]; omega) hw⟩

theorem get_ex {α : Type} {l : List α} {k : Nat} (h : k < l.length) : ∃ x, Hid (l[k]? = some x) := ⟨_, List.getElem?_eq_getElem h⟩
theorem getD_of {α : Type} [Inhabited α] {l : List α} {k : Nat} {x : α} (h : l[k]? = some x) : l.getD k default = x := by simp [List.getD, h]

theorem below_drewN {B : Nat} {a w : World} (h : Below B a w) (n : Nat) : Below B a (w.drewN n) := ⟨h.os, h.tape, h.output, h.size, h.block⟩
/-- A step of a callee that makes memory alone. -/
theorem below_next {B : Nat} {a b c : World} (h : Below B a b) (hB : B ≤ a.heap.size) (k : Below b.heap.size b c) : Below B a c := h.trans (k.mono (Nat.le_trans hB h.size))
theorem hide {p : Prop} (h : p) : Hid p := h
theorem ret_bool {a b : Bool} (h : a = b) : Ending.returned (.bool a) = .returned (.bool b) := by rw [h]
theorem ret_int {k : IntKind} {a b : Int} (h : a = b) : Ending.returned (.int k a) = .returned (.int k b) := by rw [h]

end Go.Proofs.Yteeclobpajalmaa
