/- Layer 2: a copied function in the heap: rows that a call has built, in rows. No condition. -/
import Derived.Test.YtkhlnopbgngjbaaIrO
import Derived.Test.YtkhlnopbgngjbaaOwn
namespace Go.Proofs.Ytkhlnopbgngjbaa
open Go.RowKit
set_option linter.unusedSimpArgs false
set_option linter.unusedVariables false

theorem row_lt {w : World} {base : Nat} {e : TypeId} {size : Nat} {v : Value} {n : Nat} {xs : List Value} {k : Nat} (h : w.ownsRow base e size v n xs) (hk : v.ownBlock = some k) : base ≤ k ∧ k < w.heap.size ∧ ∃ c, w.heap[k]? = some (.cells c e (0, 0)) := by
  rcases h.2 with ⟨rfl, _⟩ | ⟨B, C, cur, rfl, hb, hB, _⟩
  · cases hk
  · cases hk; exact ⟨hb, (Array.getElem?_eq_some_iff.1 hB).1, cur, hB⟩
theorem row_kept {w w' : World} {base : Nat} {e : TypeId} {size : Nat} {v : Value} {n : Nat} {xs : List Value} (h : w.ownsRow base e size v n xs) (hk : ∀ k, v.ownBlock = some k → w'.heap[k]? = w.heap[k]?) : w'.ownsRow base e size v n xs := by
  refine ⟨h.1, ?_⟩
  rcases h.2 with hn | ⟨g, cap, cur, rfl, hb, hgg, rest⟩
  · exact .inl hn
  · exact .inr ⟨g, cap, cur, rfl, hb, (hk g rfl).trans hgg, rest⟩
theorem row_mono {w : World} {b b' : Nat} {e : TypeId} {size : Nat} {v : Value} {n : Nat} {xs : List Value} (h : w.ownsRow b e size v n xs) (hb : b' ≤ b) : w.ownsRow b' e size v n xs := by
  refine ⟨h.1, ?_⟩
  rcases h.2 with h1 | ⟨g, cap, cur, e, h1, rest⟩
  · exact .inl h1
  · exact .inr ⟨g, cap, cur, e, Nat.le_trans hb h1, rest⟩
theorem row_form {w : World} {b : Nat} {e : TypeId} {size : Nat} {v : Value} {n : Nat} {xs : List Value} (h : w.ownsRow b e size v n xs) : ∃ A C, v = .slice A n C := by
  rcases h.2 with ⟨e, h0⟩ | ⟨g, c, cur, e, _⟩
  · exact ⟨none, 0, by rw [e, h0]⟩
  · exact ⟨_, c, e⟩
/-- blocks of other types than T are as they were -/
def But (T : TypeId) (w w' : World) : Prop := ∀ (k : Nat) (c : Array Value) (t : TypeId) (f : Nat × Nat), w.heap[k]? = some (Obj.cells c t f) → t ≠ T → w'.heap[k]? = w.heap[k]?
theorem But.grown {w w' : World} {B : Nat} {T : TypeId} {n m : Nat} {v : Value} {xs : List Value} {o : Obj} (h : w.ownsRow B T n v m xs) (hg : (w.alloc o).grownBy w' v.ownBlock) : But T w w' := fun k c t f hk ht => by
  have hlt := (Array.getElem?_eq_some_iff.1 hk).1
  rw [hg.block k (by simp; omega) (fun e => ?_)]
  · exact Below.heap_alloc w o k hlt
  · obtain ⟨-, -, c', h1⟩ := row_lt h e.symm
    rw [hk] at h1
    injection h1 with h1
    injection h1 with _ h2
    exact ht h2
theorem But.row {w w' : World} {T : TypeId} {base : Nat} {e : TypeId} {size : Nat} {v : Value} {n : Nat} {xs : List Value} (hb : But T w w') (he : e ≠ T) (h : w.ownsRow base e size v n xs) : w'.ownsRow base e size v n xs := row_kept h fun k hk => by
  obtain ⟨-, -, c, h1⟩ := row_lt h hk
  exact hb k c e _ h1 he
def oc (x : Opd) : List Value := [.int .i64 x.kind, .int .i64 x.num, .int .u64 x.bits]
theorem oc_len (l : List Opd) : (l.flatMap oc).length = l.length * 3 := by
  induction l with
  | nil => rfl
  | cons x l ih => rw [List.flatMap_cons, List.length_append, ih, List.length_cons]; show 3 + _ = _; omega
theorem oc_get : ∀ (l : List Opd) (m : Nat), (l.flatMap oc)[m]? = (l[m / 3]?).bind fun b => (oc b)[m % 3]?
  | [], m => by simp
  | b :: l, m => by
    have e3 : (oc b).length = 3 := rfl
    rw [List.flatMap_cons]
    rcases Nat.lt_or_ge m 3 with h | h
    · rw [List.getElem?_append_left (by rw [e3]; exact h), Nat.div_eq_of_lt h, Nat.mod_eq_of_lt h]; rfl
    · rw [List.getElem?_append_right (by rw [e3]; exact h), e3, oc_get l (m - 3)]
      obtain ⟨n, rfl⟩ : ∃ n, m = n + 3 := ⟨m - 3, by omega⟩
      rw [show (n + 3) / 3 = n / 3 + 1 by omega, show (n + 3) % 3 = n % 3 by omega, Nat.add_sub_cancel, List.getElem?_cons_succ]
structure OwnI (w : World) (B : Nat) (v : Value) (l : List Int) : Prop where
  row : w.ownsRow B 3 1 v l.length (l.map fun z => Value.int .i64 z)
  ok : ∀ x, x ∈ l → I64 x
structure OwnV (w : World) (B : Nat) (v : Value) (l : List Opd) : Prop where
  row : w.ownsRow B 77 3 v l.length (l.flatMap oc)
  ok : ∀ x, x ∈ l → I64 x.kind ∧ I64 x.num
def insC (x : Ins) (c d : Value) : List Value := [.int .i64 x.op, .int .i64 x.reg, .int .i64 x.ty, .int .i64 x.num, .int .i64 x.flags, c, d]
/-- an instruction's own numbers lie within their kinds -/
def InsOk (x : Ins) : Prop := I64 x.op ∧ I64 x.reg ∧ I64 x.ty ∧ I64 x.num ∧ I64 x.flags
structure OwnC (w : World) (B : Nat) (v : Value) (l : List Ins) : Prop where
  body : ∃ ess : List (List Value), ess.length = l.length ∧ w.ownsRow B 74 7 v l.length ess.flatten ∧ ∀ (i : Nat) es x, ess[i]? = some es → l[i]? = some x → ∃ c d, es = insC x c d ∧ OwnV w B c x.args ∧ OwnI w B d x.to ∧ InsOk x
structure OwnK (w : World) (B : Nat) (v : Value) (bs : List (List Ins)) : Prop where
  body : ∃ xs : List Value, xs.length = bs.length ∧ w.ownsRow B 71 1 v bs.length xs ∧ ∀ (i : Nat) x b, xs[i]? = some x → bs[i]? = some b → OwnC w B x b
section
variable {w w' : World} {B B' : Nat} {v : Value}
theorem OwnI.kept {l : List Int} (h : OwnI w B v l) (hk : ∀ k, B ≤ k → k < w.heap.size → w'.heap[k]? = w.heap[k]?) : OwnI w' B v l := ⟨row_kept h.row fun k hv => hk k (row_lt h.row hv).1 (row_lt h.row hv).2.1, h.ok⟩
theorem OwnV.kept {l : List Opd} (h : OwnV w B v l) (hk : ∀ k, B ≤ k → k < w.heap.size → w'.heap[k]? = w.heap[k]?) : OwnV w' B v l := ⟨row_kept h.row fun k hv => hk k (row_lt h.row hv).1 (row_lt h.row hv).2.1, h.ok⟩
theorem OwnC.kept {l : List Ins} (h : OwnC w B v l) (hk : ∀ k, B ≤ k → k < w.heap.size → w'.heap[k]? = w.heap[k]?) : OwnC w' B v l := by
  obtain ⟨ess, h1, h2, h3⟩ := h
  refine ⟨ess, h1, row_kept h2 fun k hv => hk k (row_lt h2 hv).1 (row_lt h2 hv).2.1, fun i es x he hx => ?_⟩
  obtain ⟨c, d, e, h4, h5, h6⟩ := h3 i es x he hx
  exact ⟨c, d, e, h4.kept hk, h5.kept hk, h6⟩
theorem OwnK.kept {bs : List (List Ins)} (h : OwnK w B v bs) (hk : ∀ k, B ≤ k → k < w.heap.size → w'.heap[k]? = w.heap[k]?) : OwnK w' B v bs := by
  obtain ⟨xs, h1, h2, h3⟩ := h
  exact ⟨xs, h1, row_kept h2 fun k hv => hk k (row_lt h2 hv).1 (row_lt h2 hv).2.1, fun i x b hx hb => (h3 i x b hx hb).kept hk⟩
theorem OwnI.mono {l : List Int} (h : OwnI w B v l) (hb : B' ≤ B) : OwnI w B' v l := ⟨row_mono h.row hb, h.ok⟩
theorem OwnV.mono {l : List Opd} (h : OwnV w B v l) (hb : B' ≤ B) : OwnV w B' v l := ⟨row_mono h.row hb, h.ok⟩
theorem OwnC.mono {l : List Ins} (h : OwnC w B v l) (hb : B' ≤ B) : OwnC w B' v l := by
  obtain ⟨ess, h1, h2, h3⟩ := h
  refine ⟨ess, h1, row_mono h2 hb, fun i es x he hx => ?_⟩
  obtain ⟨c, d, e, h4, h5, h6⟩ := h3 i es x he hx
  exact ⟨c, d, e, h4.mono hb, h5.mono hb, h6⟩
theorem OwnK.mono {bs : List (List Ins)} (h : OwnK w B v bs) (hb : B' ≤ B) : OwnK w B' v bs := by
  obtain ⟨xs, h1, h2, h3⟩ := h
  exact ⟨xs, h1, row_mono h2 hb, fun i x b hx hb' => (h3 i x b hx hb').mono hb⟩
theorem OwnC.but {T : TypeId} {l : List Ins} (hb : But T w w') (h1 : 74 ≠ T) (h2 : 77 ≠ T) (h3 : 3 ≠ T) (h : OwnC w B v l) : OwnC w' B v l := by
  obtain ⟨ess, g1, g2, g3⟩ := h
  refine ⟨ess, g1, hb.row h1 g2, fun i es x he hx => ?_⟩
  obtain ⟨c, d, e, h4, h5, h6⟩ := g3 i es x he hx
  exact ⟨c, d, e, ⟨hb.row h2 h4.row, h4.ok⟩, ⟨hb.row h3 h5.row, h5.ok⟩, h6⟩
theorem OwnI.nil_ : OwnI w B (.slice none 0 0) [] := ⟨⟨rfl, .inl ⟨rfl, rfl⟩⟩, fun x h => by cases h⟩
theorem OwnV.nil_ : OwnV w B (.slice none 0 0) [] := ⟨⟨rfl, .inl ⟨rfl, rfl⟩⟩, fun x h => by cases h⟩
theorem OwnC.nil_ : OwnC w B (.slice none 0 0) [] := ⟨[], rfl, ⟨rfl, .inl ⟨rfl, rfl⟩⟩, fun i es x h => by simp at h⟩
theorem OwnK.nil_ : OwnK w B (.slice none 0 0) [] := ⟨[], rfl, ⟨rfl, .inl ⟨rfl, rfl⟩⟩, fun i x b h => by simp at h⟩
/-- one instruction more -/
theorem OwnC.more {l : List Ins} (h : OwnC w B v l) : ∃ xs, w.ownsRow B 74 7 v l.length xs ∧ ∀ (x : Ins) (c d : Value) (w' : World) (v' : Value), OwnV w B c x.args → OwnI w B d x.to → InsOk x →
    w'.ownsRow B 74 7 v' (l.length + 1) (xs ++ insC x c d) → (w.alloc (.cells (insC x c d).toArray 74)).grownBy w' v.ownBlock → OwnC w' B v' (l ++ [x]) := by
  obtain ⟨ess, h1, h2, h3⟩ := h
  refine ⟨ess.flatten, h2, fun x c d w' v' hc hd hx ho hg => ?_⟩
  have hb := But.grown h2 hg
  refine ⟨ess ++ [insC x c d], by simp [h1], by simpa [List.flatten_append] using ho, fun i es y he hy => ?_⟩
  rcases Nat.lt_or_ge i ess.length with hi | hi
  · rw [List.getElem?_append_left hi] at he
    rw [List.getElem?_append_left (by omega)] at hy
    obtain ⟨c', d', e, h4, h5, h6⟩ := h3 i es y he hy
    exact ⟨c', d', e, ⟨hb.row (by decide) h4.row, h4.ok⟩, ⟨hb.row (by decide) h5.row, h5.ok⟩, h6⟩
  · rw [List.getElem?_append_right hi] at he
    rw [List.getElem?_append_right (by omega)] at hy
    have e0 : i - ess.length = 0 := by have := (List.getElem?_eq_some_iff.1 he).1; simp at this; omega
    rw [e0] at he
    rw [show i - l.length = 0 by omega] at hy
    cases he; cases hy
    exact ⟨c, d, rfl, ⟨hb.row (by decide) hc.row, hc.ok⟩, ⟨hb.row (by decide) hd.row, hd.ok⟩, hx⟩
/-- one block more -/
theorem OwnK.more {bs : List (List Ins)} (h : OwnK w B v bs) : ∃ xs, w.ownsRow B 71 1 v bs.length xs ∧ ∀ (b : List Ins) (c : Value) (w' : World) (v' : Value), OwnC w B c b →
    w'.ownsRow B 71 1 v' (bs.length + 1) (xs ++ [c]) → (w.alloc (.cells #[c] 71)).grownBy w' v.ownBlock → OwnK w' B v' (bs ++ [b]) := by
  obtain ⟨xs, h1, h2, h3⟩ := h
  refine ⟨xs, h2, fun b c w' v' hc ho hg => ?_⟩
  have hb := But.grown h2 hg
  refine ⟨xs ++ [c], by simp [h1], by simpa using ho, fun i x y hx hy => ?_⟩
  rcases Nat.lt_or_ge i xs.length with hi | hi
  · rw [List.getElem?_append_left hi] at hx
    rw [List.getElem?_append_left (by omega)] at hy
    exact (h3 i x y hx hy).but hb (by decide) (by decide) (by decide)
  · rw [List.getElem?_append_right hi] at hx
    rw [List.getElem?_append_right (by omega)] at hy
    have e0 : i - xs.length = 0 := by have := (List.getElem?_eq_some_iff.1 hx).1; simp at this; omega
    rw [e0] at hx
    rw [show i - bs.length = 0 by omega] at hy
    cases hx; cases hy
    exact hc.but hb (by decide) (by decide) (by decide)
/-! ### as data that is read -/
theorem OwnI.rep {l : List Int} (h : OwnI w B v l) : RInts.rep w w.heap.size [v] l := by
  refine Own.rep (R := RInt) (B := 0) (base := B) (T := 3) ⟨l.map fun z => [.int .i64 z], by simp, ?_, fun i es y h1 h2 => ?_⟩ (Nat.zero_le _)
  · have e : (l.map fun z => [Value.int .i64 z]).flatten = l.map fun z => Value.int .i64 z := by
      clear h
      induction l with
      | nil => rfl
      | cons z l ih => rw [List.map_cons, List.flatten_cons, ih]; rfl
    rw [e]; exact h.row
  · rw [List.getElem?_map, h2] at h1
    cases h1
    exact ⟨rfl, rfl, h.ok y (List.mem_of_getElem? h2)⟩
theorem OwnV.rep {l : List Opd} (h : OwnV w B v l) : ROpds.rep w w.heap.size [v] l := by
  refine Own.rep (R := ROpd) (B := 0) (base := B) (T := 77) ⟨l.map oc, by simp, ?_, fun i es y h1 h2 => ?_⟩ (Nat.zero_le _)
  · rw [← List.flatMap_def]; exact h.row
  · rw [List.getElem?_map, h2] at h1
    cases h1
    exact ⟨rfl, rfl, h.ok y (List.mem_of_getElem? h2)⟩
theorem OwnC.rep {l : List Ins} (h : OwnC w B v l) : RBlk.rep w w.heap.size [v] l := by
  obtain ⟨ess, h1, h2, h3⟩ := h
  refine Own.rep (R := RIns) (B := w.heap.size) (base := B) (T := 74) ⟨ess, h1, h2, fun i es y he hy => ?_⟩ (Nat.le_refl _)
  obtain ⟨c, d, e, h4, h5, h6⟩ := h3 i es y he hy
  subst e
  exact ⟨rfl, c, d, rfl, h4.rep, h5.rep, h6⟩
theorem OwnK.rep {bs : List (List Ins)} (h : OwnK w B v bs) : RBlks.rep w w.heap.size [v] bs := by
  obtain ⟨xs, h1, h2, h3⟩ := h
  refine Own.rep (R := RBlk) (B := w.heap.size) (base := B) (T := 71) ⟨xs.map fun x => [x], by simp [h1], ?_, fun i es y he hy => ?_⟩ (Nat.le_refl _)
  · have e : (xs.map fun x => [x]).flatten = xs := by
      clear h1 h2 h3
      induction xs with
      | nil => rfl
      | cons z l ih => rw [List.map_cons, List.flatten_cons, ih]; rfl
    rw [e]; exact h2
  · rw [List.getElem?_map] at he
    cases hx : xs[i]? with
    | none => rw [hx] at he; cases he
    | some x =>
      rw [hx] at he
      cases he
      exact ⟨rfl, (h3 i x y hx hy).rep⟩
end
end Go.Proofs.Ytkhlnopbgngjbaa
