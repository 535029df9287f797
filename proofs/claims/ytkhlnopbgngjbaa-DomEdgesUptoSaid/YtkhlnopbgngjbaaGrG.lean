/- graph.Order's memory: the stack, in the heap. No condition. -/
import Derived.Test.YtkhlnopbgngjbaaHm
import Derived.Test.YtkhlnopbgngjbaaGrE
import Derived.Test.YtkhlnopbgngjbaaGrF
namespace Go.Proofs.Ytkhlnopbgngjbaa
open Go.RowKit
set_option linter.unusedSimpArgs false
set_option linter.unusedVariables false

/-- a slice of numbers that is read alone: its block is not 'no' -/
def RestAt (w : World) (no : Option Nat) (c : Value) (l : List Int) : Prop :=
  ∃ A cap, c = .slice A l.length cap ∧ l.length ≤ cap ∧ cap ≤ maxLen ∧ (0 < l.length → ∃ b off cur, A = some ⟨b, off, none⟩ ∧ no ≠ some b ∧ w.heap[b]? = some (.cells cur 3 (0, 0)) ∧ ∀ (i : Nat) x, l[i]? = some x → cur[off + i]? = some (.int .i64 x))
section
variable {w w' : World} {no no' : Option Nat} {c : Value} {l : List Int} {B : Nat}
theorem RestAt.turn (h : RestAt w no c l) (hk : ∀ (k : Nat) cur, w.heap[k]? = some (.cells cur 3 (0, 0)) → no ≠ some k → w'.heap[k]? = w.heap[k]? ∧ no' ≠ some k) : RestAt w' no' c l := by
  obtain ⟨A, cap, h1, h2, h3, h4⟩ := h
  refine ⟨A, cap, h1, h2, h3, fun hl => ?_⟩
  obtain ⟨b, off, cur, g1, g2, g3, g4⟩ := h4 hl
  exact ⟨b, off, cur, g1, (hk b cur g3 g2).2, (hk b cur g3 g2).1.trans g3, g4⟩
theorem RestAt.but {T : TypeId} (h : RestAt w no c l) (hb : But T w w') (hT : 3 ≠ T) : RestAt w' no c l := h.turn fun k cur hk hn => ⟨hb k cur _ _ hk hT, hn⟩
theorem RestAt.below (h : RestAt w no c l) (hb : Below w.heap.size w w') : RestAt w' no c l := h.turn fun k cur hk hn => ⟨hb.block k (Array.getElem?_eq_some_iff.1 hk).1, hn⟩
theorem RestAt.of_own {v : Value} (h : OwnI w B v l) (hno : ∀ k, B ≤ k → no ≠ some k) : RestAt w no v l := by
  obtain ⟨h0, hr⟩ := h.row
  rcases hr with ⟨rfl, h1⟩ | ⟨g, cap, cur, rfl, hb, hg, hn, hc, hs, ht⟩
  · exact ⟨none, 0, by rw [h1], by omega, by simp [maxLen], fun hl => by omega⟩
  · refine ⟨_, cap, rfl, hn, hc, fun hl => ⟨g, 0, cur, rfl, hno g hb, hg, fun i x hi => ?_⟩⟩
    have hil := (List.getElem?_eq_some_iff.1 hi).1
    have h2 : (l.map fun z => Value.int .i64 z)[i]? = some (.int .i64 x) := by rw [List.getElem?_map, hi]; rfl
    rw [← ht, List.getElem?_take_of_lt (by omega), Array.getElem?_toList] at h2
    rw [Nat.zero_add]; exact h2
theorem RestAt.tail {t : Int} {A : Option Addr} {n cap : Nat} (h : RestAt w no (.slice A n cap) (t :: l)) : ∃ b off, A = some ⟨b, off, none⟩ ∧ n = l.length + 1 ∧ l.length + 1 ≤ cap ∧ cap ≤ maxLen ∧ w.cell? ⟨b, off, none⟩ = some (.int .i64 t) ∧ ∀ A', (0 < l.length → A' = some ⟨b, off + 1, none⟩) → RestAt w no (.slice A' l.length (cap - 1)) l := by
  obtain ⟨A', cap', h1, h2, h3, h4⟩ := h
  cases h1
  obtain ⟨b, off, cur, g1, g2, g3, g4⟩ := h4 (by simp)
  refine ⟨b, off, g1, by simp, by simpa using h2, h3, ?_, fun A2 hA2 => ⟨A2, cap - 1, rfl, by simp at h2; omega, by omega, fun hl => ⟨b, off + 1, cur, hA2 hl, g2, g3, fun i x hi => ?_⟩⟩⟩
  · have := g4 0 t rfl
    simp [World.cell?, g3]
    simpa using this
  · have := g4 (i + 1) x (by simpa using hi)
    rw [show off + 1 + i = off + (i + 1) by omega]; exact this
end

/-- the stack's cells, its top last -/
def stc : List (Int × List Int) → List Value → List Value
  | p :: st, c :: cs => stc st cs ++ [.int .i64 p.1, c]
  | _, _ => []
theorem stc_len : ∀ (st : List (Int × List Int)) (cs : List Value), cs.length = st.length → (stc st cs).length = st.length * 2
  | [], [], _ => rfl
  | [], c :: cs, h => by simp at h
  | p :: st, [], h => by simp at h
  | p :: st, c :: cs, h => by
    have := stc_len st cs (by simpa using h)
    simp only [stc, List.length_append, this, List.length_cons, List.length_nil]
    omega
def StackAt (w : World) (B : Nat) (no : Option Nat) (v : Value) (st : List (Int × List Int)) : Prop :=
  ∃ cs : List Value, cs.length = st.length ∧ w.ownsRow B 109 2 v st.length (stc st cs) ∧ ∀ (i : Nat) c p, cs[i]? = some c → st[i]? = some p → RestAt w no c p.2
section
variable {w w' : World} {no no' : Option Nat} {v : Value} {st : List (Int × List Int)} {B : Nat}
theorem StackAt.but {T : TypeId} (h : StackAt w B no v st) (hb : But T w w') (h1 : 3 ≠ T) (h2 : 109 ≠ T) : StackAt w' B no v st := by
  obtain ⟨cs, a1, a2, a3⟩ := h
  exact ⟨cs, a1, hb.row h2 a2, fun i c p hc hp => (a3 i c p hc hp).but hb h1⟩
theorem StackAt.below (h : StackAt w B no v st) (hb : Below w.heap.size w w') : StackAt w' B no v st := by
  obtain ⟨cs, a1, a2, a3⟩ := h
  exact ⟨cs, a1, row_kept a2 fun k hk => hb.block k (row_lt a2 hk).2.1, fun i c p hc hp => (a3 i c p hc hp).below hb⟩
/-- behind an append to the list that was put out -/
theorem StackAt.grown (h : StackAt w B no v st) (hg : w.grownBy w' no) (hn : ∀ k, no' = some k → no = some k ∨ w.heap.size ≤ k) (hv : ∀ k cur t f, no = some k → w.heap[k]? = some (.cells cur t f) → t = 3) : StackAt w' B no' v st := by
  obtain ⟨cs, a1, a2, a3⟩ := h
  refine ⟨cs, a1, row_kept a2 fun k hk => ?_, fun i c p hc hp => (a3 i c p hc hp).turn fun k cur hk hno => ?_⟩
  · obtain ⟨-, h1, c', h2⟩ := row_lt a2 hk
    exact hg.block k h1 (fun e => by have := hv k _ _ _ e.symm h2; exact absurd this (by decide))
  · have h1 := (Array.getElem?_eq_some_iff.1 hk).1
    refine ⟨hg.block k h1 (fun e => hno e.symm), fun e => ?_⟩
    rcases hn k e with h2 | h2
    · exact hno h2
    · omega
/-- the top -/
theorem StackAt.top {b : Int} {l : List Int} (h : StackAt w B no v ((b, l) :: st)) : ∃ g cap cs A C, v = .slice (some ⟨g, 0, none⟩) (st.length + 1) cap ∧ B ≤ g ∧ g < w.heap.size ∧ st.length + 1 ≤ cap ∧ cap ≤ maxLen ∧ cs.length = st.length ∧
    w.ownsRow B 109 2 v (st.length + 1) (stc st cs ++ [.int .i64 b, .slice A l.length C]) ∧ RestAt w no (.slice A l.length C) l ∧ (∀ (i : Nat) c p, cs[i]? = some c → st[i]? = some p → RestAt w no c p.2) ∧
    w.cell? ⟨g, st.length * 2, none⟩ = some (.int .i64 b) ∧ w.cell? ⟨g, st.length * 2 + 1, none⟩ = some (.slice A l.length C) := by
  obtain ⟨cs, a1, a2, a3⟩ := h
  match cs, a1 with
  | c :: cs, a1 =>
    have a1' : cs.length = st.length := by simpa using a1
    have h0 := a3 0 c _ rfl rfl
    obtain ⟨A, C, rfl, -, -, -⟩ := id h0
    obtain ⟨g, cap, hv, hb, hlt⟩ := a2.form (by simp)
    subst hv
    have hl := stc_len st cs a1'
    refine ⟨g, cap, cs, A, C, rfl, hb, hlt, ?_, ?_, a1', a2, h0, fun i c p hc hp => a3 (i + 1) c p (by simpa using hc) (by simpa using hp), ?_, ?_⟩
    · rcases a2.2 with ⟨h, _⟩ | ⟨_, _, _, e, _, _, h, _⟩
      · cases h
      · cases e; exact h
    · rcases a2.2 with ⟨h, _⟩ | ⟨_, _, _, e, _, _, _, h, _⟩
      · cases h
      · cases e; exact h
    · rw [World.ownsRow.cellAt a2 _ (by first | (simp; omega) | simp)]
      show (stc st cs ++ [_, _])[_]? = _
      rw [List.getElem?_append_right (by omega), hl, Nat.sub_self]; rfl
    · rw [World.ownsRow.cellAt a2 _ (by first | (simp; omega) | simp)]
      show (stc st cs ++ [_, _])[_]? = _
      rw [List.getElem?_append_right (by omega), hl, show st.length * 2 + 1 - st.length * 2 = 1 by omega]; rfl
/-- a row that is cut by its last element -/
theorem row_cut {e : TypeId} {size n cap g : Nat} {xs ys : List Value} (h : w.ownsRow B e size (.slice (some ⟨g, 0, none⟩) (n + 1) cap) (n + 1) (xs ++ ys)) (hx : xs.length = n * size) : w.ownsRow B e size (.slice (some ⟨g, 0, none⟩) n cap) n xs := by
  rcases h.2 with ⟨h1, _⟩ | ⟨g', cap', cur, hv, hb, hg, hn, hc, hs, ht⟩
  · cases h1
  · cases hv
    refine ⟨hx, .inr ⟨g, cap, cur, rfl, hb, hg, by omega, hc, hs, ?_⟩⟩
    have h2 : cur.toList.take (n * size) = (cur.toList.take ((n + 1) * size)).take (n * size) := by rw [List.take_take, Nat.min_eq_left (Nat.mul_le_mul_right _ (by omega))]
    rw [h2, ht, ← hx, List.take_left]
theorem StackAt.pop {g cap : Nat} {cs : List Value} {ys : List Value} (hc : cs.length = st.length) (h : w.ownsRow B 109 2 (.slice (some ⟨g, 0, none⟩) (st.length + 1) cap) (st.length + 1) (stc st cs ++ ys)) (hr : ∀ (i : Nat) c p, cs[i]? = some c → st[i]? = some p → RestAt w no c p.2) : StackAt w B no (.slice (some ⟨g, 0, none⟩) st.length cap) st :=
  ⟨cs, hc, row_cut h (stc_len st cs hc), hr⟩
/-- the top's rest is cut by one -/
theorem StackAt.shrink {g cap : Nat} {b : Int} {l : List Int} {cs : List Value} {c c' : Value} (hc : cs.length = st.length) (h : w.ownsRow B 109 2 (.slice (some ⟨g, 0, none⟩) (st.length + 1) cap) (st.length + 1) (stc st cs ++ [.int .i64 b, c])) (hr : ∀ (i : Nat) c p, cs[i]? = some c → st[i]? = some p → RestAt w no c p.2) (h0 : RestAt w no c' l) :
    StackAt (w.setCell ⟨g, st.length * 2 + 1, none⟩ c') B no (.slice (some ⟨g, 0, none⟩) (st.length + 1) cap) ((b, l) :: st) := by
  have h1 := (World.ownsRow.stored h (st.length * 2 + 1) c').1
  have hl := stc_len st cs hc
  rw [List.set_append, if_neg (by omega), hl, show st.length * 2 + 1 - st.length * 2 = 1 by omega] at h1
  have hb := But.stored (j := st.length * 2 + 1) (u := c') h
  refine ⟨c' :: cs, by simp [hc], h1, fun i c p h2 h3 => ?_⟩
  cases i with
  | zero => cases h2; cases h3; exact h0.but hb (by decide)
  | succ i => exact (hr i c p (by simpa using h2) (by simpa using h3)).but hb (by decide)
/-- one more on the stack -/
theorem StackAt.push {b : Int} {l : List Int} {c : Value} (h : StackAt w B no v st) (h0 : RestAt w no c l) : ∃ xs, w.ownsRow B 109 2 v st.length xs ∧ ∀ w' v', w'.ownsRow B 109 2 v' (st.length + 1) (xs ++ [.int .i64 b, c]) → But 109 w w' → StackAt w' B no v' ((b, l) :: st) := by
  obtain ⟨cs, a1, a2, a3⟩ := h
  refine ⟨_, a2, fun w' v' h1 hb => ⟨c :: cs, by simp [a1], h1, fun i c p h2 h3 => ?_⟩⟩
  cases i with
  | zero => cases h2; cases h3; exact h0.but hb (by decide)
  | succ i => exact (a3 i c p (by simpa using h2) (by simpa using h3)).but hb (by decide)
end
end Go.Proofs.Ytkhlnopbgngjbaa
