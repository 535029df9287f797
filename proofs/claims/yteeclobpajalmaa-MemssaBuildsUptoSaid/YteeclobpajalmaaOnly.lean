/- 'Only S B w w'': below block B all but S's blocks are as they were. A slice opened, its block told. No condition. -/
import Derived.Test.YteeclobpajalmaaRep
namespace Go.Proofs.Yteeclobpajalmaa
open Go.RowKit

/-- Below block B, of the blocks that are not S's, the world w' is as w was. -/
structure Only (S : Nat → Prop) (B : Nat) (w w' : World) : Prop where
  os : w'.os = w.os
  tape : w'.tape = w.tape
  output : w'.output = w.output
  size : w.heap.size ≤ w'.heap.size
  block : ∀ k, k < B → ¬ S k → w'.heap[k]? = w.heap[k]?

section
variable {S S' : Nat → Prop} {B B' : Nat} {a b c w w' : World}
theorem Only.refl (S : Nat → Prop) (B : Nat) (w : World) : Only S B w w := ⟨rfl, rfl, rfl, Nat.le_refl _, fun _ _ _ => rfl⟩
theorem Only.trans (h : Only S B a b) (k : Only S B b c) : Only S B a c :=
  ⟨k.os.trans h.os, k.tape.trans h.tape, k.output.trans h.output, Nat.le_trans h.size k.size, fun i hi hs => (k.block i hi hs).trans (h.block i hi hs)⟩
theorem Only.mono (h : Only S B w w') (hB : B' ≤ B) : Only S B' w w' := ⟨h.os, h.tape, h.output, h.size, fun k hk => h.block k (Nat.lt_of_lt_of_le hk hB)⟩
theorem Only.more (h : Only S B w w') (hS : ∀ k, k < B → S k → S' k) : Only S' B w w' := ⟨h.os, h.tape, h.output, h.size, fun k hk hs => h.block k hk (fun h' => hs (hS k hk h'))⟩
theorem Only.next (h : Only S B a b) (hB : B ≤ a.heap.size) (k : Only S b.heap.size b c) : Only S B a c := h.trans (k.mono (Nat.le_trans hB h.size))
theorem Only.of_below (h : Below B w w') : Only S B w w' := ⟨h.os, h.tape, h.output, h.size, fun k hk _ => h.block k hk⟩
theorem Only.to_below (h : Only S B w w') (hS : ∀ k, S k → B' ≤ k) (hB : B' ≤ B) : Below B' w w' := ⟨h.os, h.tape, h.output, h.size, fun k hk => h.block k (by omega) (fun hs => by have := hS k hs; omega)⟩
theorem Only.then_below (h : Only S B a b) (hB : B ≤ a.heap.size) (k : Below b.heap.size b c) : Only S B a c := h.next hB (.of_below k)
theorem Only.drew (h : Only S B a w) : Only S B a w.drew := ⟨h.os, h.tape, h.output, h.size, h.block⟩
theorem Only.drewN (h : Only S B a w) (n : Nat) : Only S B a (w.drewN n) := ⟨h.os, h.tape, h.output, h.size, h.block⟩
theorem Only.alloc (h : Only S B a w) (hB : B ≤ w.heap.size) (o : Obj) : Only S B a (w.alloc o) :=
  h.trans ⟨rfl, rfl, rfl, by simp, fun k hk _ => Below.heap_alloc _ _ _ (by omega)⟩
theorem Only.setCell (h : Only S B a w) {p : Addr} (hp : S p.block ∨ B ≤ p.block) (u : Value) : Only S B a (w.setCell p u) :=
  h.trans ⟨rfl, rfl, rfl, by simp [World.setCell], fun k hk hs => Below.heap_setCell _ _ _ _ (by
    rintro rfl
    rcases hp with hp | hp
    · exact hs hp
    · omega)⟩
theorem Only.cell (h : Only S B w w') {p : Addr} (hp : p.block < B) (hs : ¬ S p.block) : w'.cell? p = w.cell? p := World.cell?_of_block (w := w) (h.block p.block hp hs)
end

/-- A datum that lies below B, in a later world that differs in S's blocks alone, all of them from B on. -/
theorem Rp.only {α : Type} {R : Rp α} {S : Nat → Prop} {w w' : World} {B B' : Nat} {cs : List Value} {x : α} (h : R.rep w B cs x) (hw : Only S B' w w') (hS : ∀ k, S k → B ≤ k) (hB : B ≤ B') : R.rep w' B cs x :=
  R.keep h (fun p hp => hw.cell (by omega) (fun hs => by have := hS _ hs; omega)) (Nat.le_refl _)

/-- plain cells of a world, one behind the other -/
def At (w : World) (b o : Nat) (l : List Value) : Prop := ∀ j u, l[j]? = some u → w.cell? ⟨b, o + j, none⟩ = some u
theorem At.only {S : Nat → Prop} {w w' : World} {B B' b o : Nat} {l : List Value} (h : At w b o l) (hw : Only S B' w w') (hS : ∀ k, S k → B ≤ k) (hb : b < B) (hB : B ≤ B') : At w' b o l :=
  fun j u hu => (hw.cell (p := ⟨b, o + j, none⟩) (by show b < B'; omega) (fun hs => by have := hS _ hs; exact absurd hb (by show ¬ b < B; have : B ≤ b := this; omega))).trans (h j u hu)

/-- these cells, in whatever world that differs in S's blocks alone -/
def OCells (S : Nat → Prop) (B : Nat) (w : World) (b o : Nat) (l : List Value) : Prop := ∀ j u, l[j]? = some u → ∀ w', Only S B w w' → w'.cell? ⟨b, o + j, none⟩ = some u
theorem At.ocells {S : Nat → Prop} {w : World} {B B' b o : Nat} {l : List Value} (h : At w b o l) (hS : ∀ k, S k → B ≤ k) (hb : b < B) (hB : B ≤ B') : OCells S B' w b o l :=
  fun j u hu _ hw => (h.only hw hS hb hB) j u hu
theorem OCells.at_ {S : Nat → Prop} {w : World} {B b o : Nat} {l : List Value} (h : OCells S B w b o l) (j : Nat) {u : Value} (hu : l[j]? = some u) : ∀ w', Only S B w w' → w'.cell? ⟨b, o + j, none⟩ = some u := h j u hu
section
variable {S : Nat → Prop} {w : World} {B b o : Nat} {u0 u1 u2 u3 u4 u5 u6 u7 : Value}
theorem OCells.one (h : OCells S B w b o [u0]) : ∀ w', Only S B w w' → w'.cell? ⟨b, o, none⟩ = some u0 := h.at_ 0 rfl
theorem OCells.three (h : OCells S B w b o [u0, u1, u2]) : (∀ w', Only S B w w' → w'.cell? ⟨b, o, none⟩ = some u0) ∧ (∀ w', Only S B w w' → w'.cell? ⟨b, o + 1, none⟩ = some u1) ∧
    (∀ w', Only S B w w' → w'.cell? ⟨b, o + 2, none⟩ = some u2) := ⟨h.at_ 0 rfl, h.at_ 1 rfl, h.at_ 2 rfl⟩
theorem OCells.seven (h : OCells S B w b o [u0, u1, u2, u3, u4, u5, u6]) : (∀ w', Only S B w w' → w'.cell? ⟨b, o, none⟩ = some u0) ∧ (∀ w', Only S B w w' → w'.cell? ⟨b, o + 1, none⟩ = some u1) ∧
    (∀ w', Only S B w w' → w'.cell? ⟨b, o + 2, none⟩ = some u2) ∧ (∀ w', Only S B w w' → w'.cell? ⟨b, o + 3, none⟩ = some u3) ∧ (∀ w', Only S B w w' → w'.cell? ⟨b, o + 4, none⟩ = some u4) ∧
    (∀ w', Only S B w w' → w'.cell? ⟨b, o + 5, none⟩ = some u5) ∧ (∀ w', Only S B w w' → w'.cell? ⟨b, o + 6, none⟩ = some u6) :=
  ⟨h.at_ 0 rfl, h.at_ 1 rfl, h.at_ 2 rfl, h.at_ 3 rfl, h.at_ 4 rfl, h.at_ 5 rfl, h.at_ 6 rfl⟩
end

/-- A SLICE, OPENED: its block, and each element's cells. -/
theorem Rp.slice_at {α : Type} {n : Nat} {R : Rp α} {w : World} {B : Nat} {cs : List Value} {xs : List α} (h : (Rp.slice n R).rep w B cs xs) :
    ∃ A cap, cs = [.slice A xs.length cap] ∧ xs.length ≤ 9223372036854775807 ∧ (0 < xs.length → ∃ b off, A = some ⟨b, off, none⟩ ∧ b < B ∧ ∀ i x, xs[i]? = some x →
      ∃ es : List Value, es.length = n ∧ R.rep w B es x ∧ At w b (off + i * n) es) := by
  obtain ⟨A, cap, h1, h2, h3, h4⟩ := h
  unfold maxLen at h3
  refine ⟨A, cap, h1, by omega, fun hn => ?_⟩
  obtain ⟨b, off, hA, hb, he⟩ := h4 hn
  refine ⟨b, off, hA, hb, fun i x hx => ?_⟩
  obtain ⟨es, hl, hr, hc⟩ := he i x hx
  exact ⟨es, hl, hr, fun j u hu => by rw [Nat.add_assoc]; exact hc j u hu⟩
theorem Rp.slice1_at {α : Type} {R : Rp α} {w : World} {B : Nat} {cs : List Value} {xs : List α} (h : (Rp.slice 1 R).rep w B cs xs) :
    ∃ A cap, cs = [.slice A xs.length cap] ∧ xs.length ≤ 9223372036854775807 ∧ (0 < xs.length → ∃ b off, A = some ⟨b, off, none⟩ ∧ b < B ∧ ∀ i x, xs[i]? = some x →
      ∃ c : Value, R.rep w B [c] x ∧ w.cell? ⟨b, off + i, none⟩ = some c) := by
  obtain ⟨A, cap, h1, h2, h3⟩ := Rp.slice_at h
  refine ⟨A, cap, h1, h2, fun hn => ?_⟩
  obtain ⟨b, off, hA, hb, he⟩ := h3 hn
  refine ⟨b, off, hA, hb, fun i x hx => ?_⟩
  obtain ⟨es, hl, hr, hc⟩ := he i x hx
  match es, hl with
  | [c], _ => exact ⟨c, hr, by simpa using hc 0 c rfl⟩
/-- one cell, in whatever world that differs in S's blocks alone -/
theorem only_cell {S : Nat → Prop} {w : World} {B B' b o : Nat} {u : Value} (h : w.cell? ⟨b, o, none⟩ = some u) (hS : ∀ k, S k → B ≤ k) (hb : b < B) (hB : B ≤ B') : ∀ w', Only S B' w w' → w'.cell? ⟨b, o, none⟩ = some u :=
  fun w' hw => (hw.cell (p := ⟨b, o, none⟩) (by show b < B'; omega) (fun hs => by have : B ≤ b := hS _ hs; omega)).trans h

/-- a variable's one cell, written -/
theorem set_one {w : World} {N : Nat} {u v : Value} {t : TypeId} (h : w.heap[N]? = some (.cells #[u] t (0, 0))) : (w.setCell ⟨N, 0, none⟩ v).heap[N]? = some (.cells #[v] t (0, 0)) := by
  simp [World.setCell, Array.getElem?_modify, h]
theorem one_alloc {w : World} {N : Nat} {x : Obj} (h : w.heap[N]? = some x) (o : Obj) : (w.alloc o).heap[N]? = some x := by
  have hN : N < w.heap.size := by
    rcases Nat.lt_or_ge N w.heap.size with h' | h'
    · exact h'
    · rw [Array.getElem?_eq_none h'] at h; cases h
  exact (Below.heap_alloc w o N hN).trans h
theorem one_cell {w : World} {N : Nat} {u : Value} {t : TypeId} (h : w.heap[N]? = some (.cells #[u] t (0, 0))) : w.cell? ⟨N, 0, none⟩ = some u := by simp [World.cell?, h]
theorem one_free {w : World} {N j : Nat} {cs : Array Value} {t : TypeId} (h : w.heap[N]? = some (.cells cs t (0, 0))) : w.frozen? ⟨N, j, none⟩ = false := by simp [World.frozen?, h]

theorem three_cells {w : World} {N : Nat} {u0 u1 u2 : Value} {t : TypeId} (h : w.heap[N]? = some (.cells #[u0, u1, u2] t (0, 0))) : w.cell? ⟨N, 0, none⟩ = some u0 ∧ w.cell? ⟨N, 1, none⟩ = some u1 ∧ w.cell? ⟨N, 2, none⟩ = some u2 := by simp [World.cell?, h]
theorem set_heap {w : World} {N j : Nat} {cs : Array Value} {v : Value} {t : TypeId} (h : w.heap[N]? = some (.cells cs t (0, 0))) : (w.setCell ⟨N, j, none⟩ v).heap[N]? = some (.cells (cs.setIfInBounds j v) t (0, 0)) := by
  simp [World.setCell, Array.getElem?_modify, h]
theorem set_far {w : World} {N M j : Nat} {x : Option Obj} {v : Value} (h : w.heap[N]? = x) (hne : N ≠ M) : (w.setCell ⟨M, j, none⟩ v).heap[N]? = x := (Below.heap_setCell _ _ _ _ hne).trans h

theorem cells_sub {k : Nat} {es : List Value} {cs : Array Value} (h : (cs.toList.drop k).take es.length = es) : ∀ (j : Nat) u, es[j]? = some u → cs[k + j]? = some u := fun j u hu => by
  have hj := (List.getElem?_eq_some_iff.1 hu).1
  rw [← h, List.getElem?_take_of_lt hj, List.getElem?_drop] at hu
  rw [← Array.getElem?_toList]
  exact hu
/-- a slice at the head of a block that is known whole -/
theorem slice_mk {α : Type} {n : Nat} {R : Rp α} {w : World} {B b cap : Nat} {cs : Array Value} {t : TypeId} {xs : List α} (hb : b < B) (hh : w.heap[b]? = some (.cells cs t (0, 0))) (hl : xs.length ≤ cap) (hc : cap ≤ maxLen)
    (h : ∀ (i : Nat) x, xs[i]? = some x → ∃ es : List Value, es.length = n ∧ R.rep w B es x ∧ (cs.toList.drop (i * n)).take es.length = es) : (Rp.slice n R).rep w B [.slice (some ⟨b, 0, none⟩) xs.length cap] xs := by
  refine ⟨_, cap, rfl, hl, hc, fun _ => ⟨b, 0, rfl, hb, fun i x hx => ?_⟩⟩
  obtain ⟨es, h1, h2, h3⟩ := h i x hx
  refine ⟨es, h1, h2, fun j u hu => ?_⟩
  have := cells_sub h3 j u hu
  simp [World.cell?, hh, this]

end Go.Proofs.Yteeclobpajalmaa
