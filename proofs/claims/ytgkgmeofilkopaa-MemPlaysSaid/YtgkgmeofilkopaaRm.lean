/- Layer 9: the reference's memory in the heap. No condition. -/
import Derived.Test.YtgkgmeofilkopaaMmV
import Derived.Test.YtgkgmeofilkopaaMwR
import Derived.Test.YtgkgmeofilkopaaOwn
namespace Go.Proofs.Ytgkgmeofilkopaa
open Go.RowKit
set_option linter.unusedSimpArgs false
set_option linter.unusedVariables false

/-- a block's bytes: x is the slice, all its blocks from B on and below E -/
structure BlkR (w : World) (B E : Nat) (x : Value) (l : List Byt) : Prop where
  own : OwnB w B x l
  lt : ∀ k, x.ownBlock = some k → k < E
  ok : OkB l
  len : l.length ≤ 4096
/-- the reference's memory -/
structure RefM (w : World) (B E : Nat) (v : Value) (bs : MemS) : Prop where
  size : E ≤ w.heap.size
  body : ∃ ess : List (List Value), ess.length = bs.length ∧ w.ownsRow B 137 2 v bs.length ess.flatten ∧ (∀ k, v.ownBlock = some k → k < E) ∧
    (∀ (i : Nat) es b, ess[i]? = some es → bs[i]? = some b → ∃ x, es = [.bool b.isSome, x] ∧ BlkR w B E x (b.getD [])) ∧
    (∀ (i j : Nat) a a' x y q, i ≠ j → ess[i]? = some [a, x] → ess[j]? = some [a', y] → x.ownBlock = some q → y.ownBlock ≠ some q)
theorem BlkR.kept {w w' : World} {B E E' : Nat} {x : Value} {l : List Byt} (h : BlkR w B E x l) (hk : ∀ k, B ≤ k → k < E → w'.heap[k]? = w.heap[k]?) (hE : E ≤ E') : BlkR w' B E' x l :=
  ⟨ownsRow_kept h.own fun k hv => hk k (own_lt h.own hv).1 (h.lt k hv), fun k hv => Nat.lt_of_lt_of_le (h.lt k hv) hE, h.ok, h.len⟩
theorem RefM.kept {w w' : World} {B E E' : Nat} {v : Value} {bs : MemS} (h : RefM w B E v bs) (hk : ∀ k, B ≤ k → k < E → w'.heap[k]? = w.heap[k]?) (hE : E ≤ E') (hs : E' ≤ w'.heap.size) : RefM w' B E' v bs := by
  obtain ⟨h0, ess, h1, h2, h3, h4, h5⟩ := h
  refine ⟨hs, ess, h1, ownsRow_kept h2 fun k hv => hk k (own_lt h2 hv).1 (h3 k hv), fun k hv => Nat.lt_of_lt_of_le (h3 k hv) hE, fun i es b he hb => ?_, h5⟩
  obtain ⟨x, e, hx⟩ := h4 i es b he hb
  exact ⟨x, e, hx.kept hk hE⟩
theorem RefM.later {w w' : World} {B E : Nat} {v : Value} {bs : MemS} (h : RefM w B E v bs) (hb : Below w.heap.size w w') : RefM w' B E v bs := h.kept (fun k _ hk => hb.block k (Nat.lt_of_lt_of_le hk h.size)) (Nat.le_refl _) (Nat.le_trans h.size hb.size)
theorem RefM.grown {w w' : World} {B E : Nat} {v : Value} {bs : MemS} (h : RefM w B E v bs) (hb : Below w.heap.size w w') : RefM w' B w'.heap.size v bs := h.kept (fun k _ hk => hb.block k (Nat.lt_of_lt_of_le hk h.size)) (Nat.le_trans h.size hb.size) (Nat.le_refl _)
theorem RefM.upd {w w' : World} {F : Nat → Prop} {B E : Nat} {v : Value} {bs : MemS} (h : RefM w B E v bs) (hb : Upd F w w') (hF : ∀ k, F k → k < B ∨ E ≤ k) : RefM w' B E v bs :=
  h.kept (fun k h1 h2 => hb.block k (Nat.lt_of_lt_of_le h2 h.size) (fun hf => by have := hF k hf; omega)) (Nat.le_refl _) (Nat.le_trans h.size hb.size)
theorem RefM.nil_ (w : World) (B : Nat) : RefM w B w.heap.size (.slice none 0 0) [] := ⟨Nat.le_refl _, [], rfl, ⟨rfl, .inl ⟨rfl, rfl⟩⟩, fun k h => (by cases h), fun i es b h => (by simp at h), fun i j a a' x y q _ h => (by simp at h)⟩
theorem RefM.form {w : World} {B E : Nat} {v : Value} {bs : MemS} (h : RefM w B E v bs) : ∃ A C, v = .slice A bs.length C := by
  obtain ⟨-, ess, -, h, -⟩ := h
  rcases h.2 with ⟨rfl, h0⟩ | ⟨g, C, cur, rfl, hb, _⟩
  · exact ⟨none, 0, by rw [h0]⟩
  · exact ⟨_, C, rfl⟩
theorem BlkR.form {w : World} {B E : Nat} {x : Value} {l : List Byt} (h : BlkR w B E x l) : ∃ A c, x = .slice A l.length c := by
  rcases h.own.2 with ⟨e, h0⟩ | ⟨g, c, cur, e, _⟩
  · exact ⟨none, 0, by rw [e, h0]⟩
  · exact ⟨_, c, e⟩
/-- block i, as a walk reads it -/
theorem RefM.at_ {w : World} {B E : Nat} {v : Value} {bs : MemS} (h : RefM w B E v bs) {i : Nat} {b : Option (List Byt)} (hb : bs[i]? = some b) : ∃ g C A c, v = .slice (some ⟨g, 0, none⟩) bs.length C ∧ B ≤ g ∧ g < E ∧
    w.cell? ⟨g, i * 2, none⟩ = some (.bool b.isSome) ∧ w.cell? ⟨g, i * 2 + 1, none⟩ = some (.slice A (b.getD []).length c) ∧ BlkR w B E (.slice A (b.getD []).length c) (b.getD []) := by
  obtain ⟨-, ess, h1, h2, h3, h4, h5⟩ := h
  have hi := (List.getElem?_eq_some_iff.1 hb).1
  obtain ⟨es, hes⟩ : ∃ es, ess[i]? = some es := ⟨_, List.getElem?_eq_getElem (by omega)⟩
  obtain ⟨x, rfl, hx⟩ := h4 i es b hes hb
  obtain ⟨A, c, rfl⟩ := hx.form
  have hall : ∀ es, es ∈ ess → es.length = 2 := fun es hm => by
    obtain ⟨k, hk⟩ := List.mem_iff_getElem?.1 hm
    have hk' := (List.getElem?_eq_some_iff.1 hk).1
    obtain ⟨x, rfl, -⟩ := h4 k es _ hk (List.getElem?_eq_getElem (by omega))
    rfl
  have f0 := flatten_at hall hes (j := 0) (u := .bool b.isSome) rfl
  have f1 := flatten_at hall hes (j := 1) (u := .slice A (b.getD []).length c) rfl
  rcases h2.2 with ⟨e, h0⟩ | ⟨g, C, cur, e, hbg, hg, rest⟩
  · omega
  · subst e
    refine ⟨g, C, A, c, rfl, hbg, h3 g rfl, ?_, ?_, hx⟩
    · rw [World.ownsRow.cellAt h2 (i * 2) (by omega)]; exact f0
    · rw [World.ownsRow.cellAt h2 (i * 2 + 1) (by omega)]; exact f1
theorem RefM.free_ {w : World} {B E g C : Nat} {bs : MemS} (h : RefM w B E (.slice (some ⟨g, 0, none⟩) bs.length C) bs) (j : Nat) : w.frozen? ⟨g, j, none⟩ = false := by
  obtain ⟨-, ess, h1, h2, -⟩ := h
  exact World.ownsRow.frozenAt h2 j
/-- one byte of block k becomes another -/
theorem RefM.byte {w : World} {B E q c k j : Nat} {v : Value} {bs : MemS} {l : List Byt} {b : Byt} (h : RefM w B E v bs) (hk : bs[k]? = some (some l)) (hc : ∃ g C, v = .slice (some ⟨g, 0, none⟩) bs.length C ∧ w.cell? ⟨g, k * 2 + 1, none⟩ = some (.slice (some ⟨q, 0, none⟩) l.length c))
    (hj : j < l.length) (hb : 0 ≤ b.bits ∧ b.bits ≤ 255) {w' : World}
    (hw' : w' = ((((w.setCell ⟨q, j * 5, none⟩ (.int .i64 b.kind)).setCell ⟨q, j * 5 + 1, none⟩ (.int .u8 b.bits)).setCell ⟨q, j * 5 + 2, none⟩ (.int .i64 b.block)).setCell ⟨q, j * 5 + 3, none⟩ (.int .i64 b.off)).setCell ⟨q, j * 5 + 4, none⟩ (.int .i64 b.i)) :
    RefM w' B E v (bs.set k (some (l.set j b))) ∧ B ≤ q := by
  subst hw'
  obtain ⟨h0, ess, h1, h2, h3, h4, h5⟩ := h
  have hi := (List.getElem?_eq_some_iff.1 hk).1
  obtain ⟨es, hes⟩ : ∃ es, ess[k]? = some es := ⟨_, List.getElem?_eq_getElem (by omega)⟩
  obtain ⟨x, rfl, hx⟩ := h4 k es _ hes hk
  have hall : ∀ es, es ∈ ess → es.length = 2 := fun es hm => by
    obtain ⟨k, hk⟩ := List.mem_iff_getElem?.1 hm
    have hk' := (List.getElem?_eq_some_iff.1 hk).1
    obtain ⟨x, rfl, -⟩ := h4 k es _ hk (List.getElem?_eq_getElem (by omega))
    rfl
  have f1 := flatten_at hall hes (j := 1) (u := x) rfl
  obtain ⟨g, C, hv, hcell⟩ := hc
  subst hv
  have hxx : x = .slice (some ⟨q, 0, none⟩) l.length c := by
    rw [World.ownsRow.cellAt h2 (k * 2 + 1) (by omega)] at hcell
    rw [f1] at hcell
    cases hcell; rfl
  subst hxx
  have hgq : g ≠ q := by
    have := own_ne h2 hx.own (by decide)
    rcases this with e | e
    · cases e
    · intro e2; exact e (by rw [e2]; rfl)
  refine ⟨⟨by simpa [World.setCell] using h0, ess, by rw [h1, List.length_set], ?_, h3, fun i es b' he hb' => ?_, h5⟩, (own_lt hx.own (k := q) rfl).1⟩
  · rw [List.length_set]
    exact ownsRow_kept h2 fun i hi => by cases hi; exact heap_five hgq
  · rw [List.getElem?_set] at hb'
    by_cases e : k = i
    · subst e
      rw [if_pos rfl, if_pos hi] at hb'
      cases hb'
      rw [hes] at he
      cases he
      refine ⟨_, rfl, ?_⟩
      refine ⟨?_, hx.lt, okB_set hx.ok hb, by simpa using hx.len⟩
      have := OwnB.put hx.own hj b
      simpa using this
    · rw [if_neg e] at hb'
      obtain ⟨y, rfl, hy⟩ := h4 i es b' he hb'
      refine ⟨y, rfl, ⟨ownsRow_kept hy.own fun i' hi' => heap_five fun e2 => ?_, hy.lt, hy.ok, hy.len⟩⟩
      exact h5 k i _ _ _ _ q e hes he rfl (e2 ▸ hi')
theorem flatten_set2 : ∀ {ess : List (List Value)} {k : Nat} {a b : Value}, (∀ es, es ∈ ess → es.length = 2) → k < ess.length → (ess.flatten.set (k * 2) a).set (k * 2 + 1) b = (ess.set k [a, b]).flatten
  | [], k, a, b, _, h => by simp at h
  | e :: r, 0, a, b, hl, _ => by
    have := hl e (List.mem_cons_self ..)
    match e, this with
    | [x, y], _ => rfl
  | e :: r, k + 1, a, b, hl, h => by
    have h2 := hl e (List.mem_cons_self ..)
    have ih := flatten_set2 (ess := r) (k := k) (a := a) (b := b) (fun es hm => hl es (List.mem_cons_of_mem _ hm)) (by simpa using h)
    match e, h2 with
    | [x, y], _ =>
      rw [List.set_cons_succ, List.flatten_cons, List.flatten_cons, ← ih]
      have e1 : (k + 1) * 2 = k * 2 + 1 + 1 := by omega
      rw [e1]
      rfl
/-- block k dies -/
theorem RefM.drop {w : World} {B E g C k : Nat} {bs : MemS} (h : RefM w B E (.slice (some ⟨g, 0, none⟩) bs.length C) bs) (hk : k < bs.length) :
    RefM ((w.setCell ⟨g, k * 2, none⟩ (.bool false)).setCell ⟨g, k * 2 + 1, none⟩ (.slice none 0 0)) B E (.slice (some ⟨g, 0, none⟩) bs.length C) (bs.set k none) ∧ B ≤ g := by
  obtain ⟨h0, ess, h1, h2, h3, h4, h5⟩ := h
  have hall : ∀ es, es ∈ ess → es.length = 2 := fun es hm => by
    obtain ⟨k, hk⟩ := List.mem_iff_getElem?.1 hm
    have hk' := (List.getElem?_eq_some_iff.1 hk).1
    obtain ⟨x, rfl, -⟩ := h4 k es _ hk (List.getElem?_eq_getElem (by omega))
    rfl
  have hfar : ∀ i, i ≠ g → ((w.setCell ⟨g, k * 2, none⟩ (.bool false)).setCell ⟨g, k * 2 + 1, none⟩ (.slice none 0 0)).heap[i]? = w.heap[i]? := fun i hi => by
    rw [Below.heap_setCell _ _ _ _ hi, Below.heap_setCell _ _ _ _ hi]
  refine ⟨⟨by simpa [World.setCell] using h0, ess.set k [.bool false, .slice none 0 0], by simp [h1], ?_, h3, fun i es b' he hb' => ?_, fun i j a a' x y q hij hx hy hq => ?_⟩, (own_lt h2 (k := g) rfl).1⟩
  · rw [List.length_set, ← flatten_set2 hall (by omega)]
    exact ((h2.stored _ _).1.stored _ _).1
  · rw [List.getElem?_set] at he hb'
    by_cases e : k = i
    · subst e
      rw [if_pos rfl, if_pos (by omega)] at he hb'
      cases he; cases hb'
      exact ⟨_, rfl, ⟨⟨rfl, .inl ⟨rfl, rfl⟩⟩, fun k hk => (by cases hk), fun b hb => (by cases hb), Nat.zero_le _⟩⟩
    · rw [if_neg e] at he hb'
      obtain ⟨y, rfl, hy⟩ := h4 i es b' he hb'
      refine ⟨y, rfl, ⟨ownsRow_kept hy.own fun i' hi' => hfar i' fun e2 => ?_, hy.lt, hy.ok, hy.len⟩⟩
      rcases own_ne hy.own h2 (by decide) with e3 | e3
      · rw [e3] at hi'; cases hi'
      · exact e3 (by rw [hi', e2]; rfl)
  · rw [List.getElem?_set] at hx hy
    by_cases e : k = i
    · subst e
      rw [if_pos rfl, if_pos (by omega)] at hx
      cases hx; cases hq
    · by_cases e2 : k = j
      · subst e2
        rw [if_pos rfl, if_pos (by omega)] at hy
        cases hy
        exact fun h => by cases h
      · rw [if_neg e] at hx
        rw [if_neg e2] at hy
        exact h5 i j a a' x y q hij hx hy hq
/-- behind 'append(out, Block{alive, x})' -/
theorem RefM.snoc {w w' : World} {B : Nat} {v v' x : Value} {bs : MemS} {b : Option (List Byt)} {ess : List (List Value)} (h1 : ess.length = bs.length) (h2 : w.ownsRow B 137 2 v bs.length ess.flatten)
    (h4 : ∀ (i : Nat) es b, ess[i]? = some es → bs[i]? = some b → ∃ x, es = [.bool b.isSome, x] ∧ BlkR w B w.heap.size x (b.getD []))
    (h5 : ∀ (i j : Nat) a a' x y q, i ≠ j → ess[i]? = some [a, x] → ess[j]? = some [a', y] → x.ownBlock = some q → y.ownBlock ≠ some q)
    (hx : BlkR w B w.heap.size x (b.getD [])) (hne : ∀ (i : Nat) a y q, ess[i]? = some [a, y] → x.ownBlock = some q → y.ownBlock ≠ some q)
    (ho : w'.ownsRow B 137 2 v' (bs.length + 1) (ess.flatten ++ [.bool b.isSome, x])) (hg : (w.alloc (.cells #[.bool b.isSome, x] 137)).grownBy w' v.ownBlock) : RefM w' B w'.heap.size v' (bs ++ [b]) := by
  have hws : w.heap.size ≤ w'.heap.size := by have := hg.size; simp at this; omega
  have hall : ∀ x l, BlkR w B w.heap.size x l → BlkR w' B w'.heap.size x l := fun x l h => ⟨World.ownsRow.kept (World.ownsRow.alloc h.own _) hg (own_ne h.own h2 (by decide)), fun k hk => Nat.lt_of_lt_of_le (h.lt k hk) hws, h.ok, h.len⟩
  refine ⟨Nat.le_refl _, ess ++ [[.bool b.isSome, x]], by simp [h1], by simpa [List.flatten_append] using ho, fun k hk => (own_lt ho hk).2, fun i es b' he hb' => ?_, fun i j a a' y z q hij hy hz hq => ?_⟩
  · rcases Nat.lt_or_ge i ess.length with hi | hi
    · rw [List.getElem?_append_left hi] at he
      rw [List.getElem?_append_left (by omega)] at hb'
      obtain ⟨y, e, hy⟩ := h4 i es b' he hb'
      exact ⟨y, e, hall _ _ hy⟩
    · rw [List.getElem?_append_right hi] at he
      rw [List.getElem?_append_right (by omega)] at hb'
      have e0 : i - ess.length = 0 := by have := (List.getElem?_eq_some_iff.1 he).1; simp at this; omega
      rw [e0] at he
      rw [show i - bs.length = 0 by omega] at hb'
      cases he; cases hb'
      exact ⟨x, rfl, hall _ _ hx⟩
  · have key : ∀ (i : Nat) a y, (ess ++ [[Value.bool b.isSome, x]])[i]? = some [a, y] → (i < ess.length ∧ ess[i]? = some [a, y]) ∨ (i = ess.length ∧ y = x) := fun i a y hy => by
      rcases Nat.lt_or_ge i ess.length with hi | hi
      · rw [List.getElem?_append_left hi] at hy; exact .inl ⟨hi, hy⟩
      · rw [List.getElem?_append_right hi] at hy
        have e0 : i - ess.length = 0 := by have := (List.getElem?_eq_some_iff.1 hy).1; simp at this; omega
        rw [e0] at hy
        cases hy
        exact .inr ⟨by omega, rfl⟩
    rcases key i a y hy with ⟨i1, i2⟩ | ⟨i1, rfl⟩
    · rcases key j a' z hz with ⟨j1, j2⟩ | ⟨j1, rfl⟩
      · exact h5 i j a a' y z q hij i2 j2 hq
      · exact fun e => hne i a y q i2 e hq
    · rcases key j a' z hz with ⟨j1, j2⟩ | ⟨j1, rfl⟩
      · exact hne j a' z q j2 hq
      · omega
end Go.Proofs.Ytgkgmeofilkopaa
