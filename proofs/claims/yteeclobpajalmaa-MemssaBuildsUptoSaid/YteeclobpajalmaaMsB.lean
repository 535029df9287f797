/- Rows of accesses in memory. No condition. -/
import Derived.Test.YteeclobpajalmaaLoK
namespace Go.Proofs.Yteeclobpajalmaa
open Go.RowKit
set_option linter.unusedSimpArgs false
set_option linter.unusedVariables false

structure Ac where
  kind : Int
  block : Int
  pos : Int
  defs : List Int
  orig : List Int
structure AcV where
  d : Value
  f : Value
def AcV.has (x : AcV) (g : Nat) : Prop := x.d.ownBlock = some g ∨ x.f.ownBlock = some g
/-- its two rows lie in two blocks -/
def AcV.Sep (x : AcV) : Prop := ∀ g, x.d.ownBlock = some g → x.f.ownBlock ≠ some g
def acC (x : Ac) (v : AcV) : List Value := [.int .i64 x.kind, .int .i64 x.block, .int .i64 x.pos, v.d, v.f]
structure OwnAc (w : World) (B Bi : Nat) (v : Value) (ls : List Ac) (es : List AcV) : Prop where
  len : es.length = ls.length
  row : w.ownsRow B 37 5 v ls.length (List.zipWith acC ls es).flatten
  inn : ∀ (i : Nat) x e, ls[i]? = some x → es[i]? = some e → OwnI w Bi e.d x.defs ∧ OwnI w Bi e.f x.orig
  apart : ∀ (i j : Nat) e e' g, es[i]? = some e → es[j]? = some e' → i ≠ j → e.has g → ¬ e'.has g
  self : ∀ (i : Nat) e, es[i]? = some e → e.Sep
section
variable {w w' : World} {B B' Bi : Nat} {v : Value} {ls : List Ac} {es : List AcV}
theorem OwnAc.nil_ : OwnAc w B Bi (.slice none 0 0) [] [] := ⟨rfl, ⟨rfl, .inl ⟨rfl, rfl⟩⟩, fun i x e h => by simp at h, fun i j e e' g h => by simp at h, fun i e h => by simp at h⟩
theorem OwnAc.kept (h : OwnAc w B Bi v ls es) (hk : ∀ k, B ≤ k ∨ Bi ≤ k → k < w.heap.size → w'.heap[k]? = w.heap[k]?) : OwnAc w' B Bi v ls es :=
  ⟨h.len, row_kept h.row fun k hv => hk k (.inl (row_lt h.row hv).1) (row_lt h.row hv).2.1, fun i x e hx he => by
    obtain ⟨h1, h2⟩ := h.inn i x e hx he
    exact ⟨h1.kept fun k h => hk k (.inr h), h2.kept fun k h => hk k (.inr h)⟩, h.apart, h.self⟩
theorem OwnAc.below (h : OwnAc w B Bi v ls es) (hb : Below w.heap.size w w') : OwnAc w' B Bi v ls es := h.kept fun k _ hk => hb.block k hk
theorem OwnAc.mono (h : OwnAc w B Bi v ls es) (hb : B' ≤ B) : OwnAc w B' Bi v ls es := ⟨h.len, row_mono h.row hb, h.inn, h.apart, h.self⟩
/-- without rows of their own, they lie over any base -/
theorem OwnAc.rebase {Bi' : Nat} (h : OwnAc w B Bi v ls es) (hb : ∀ (i : Nat) x e, ls[i]? = some x → es[i]? = some e → x.defs = [] ∧ x.orig = [] ∧ e.d = .slice none 0 0 ∧ e.f = .slice none 0 0) : OwnAc w B Bi' v ls es :=
  ⟨h.len, h.row, fun i x e hx he => by
    obtain ⟨h1, h2, h3, h4⟩ := hb i x e hx he
    rw [h1, h2, h3, h4]
    exact ⟨OwnI.nil_, OwnI.nil_⟩, h.apart, h.self⟩
theorem OwnAc.at_ (h : OwnAc w B Bi v ls es) {i : Nat} {x : Ac} (hx : ls[i]? = some x) : ∃ e, es[i]? = some e := ⟨_, List.getElem?_eq_getElem (by rw [h.len]; exact (List.getElem?_eq_some_iff.1 hx).1)⟩
theorem OwnAc.in_lt (h : OwnAc w B Bi v ls es) {i : Nat} {e : AcV} {g : Nat} (he : es[i]? = some e) (hg : e.has g) : Bi ≤ g ∧ g < w.heap.size ∧ ∃ c, w.heap[g]? = some (.cells c 3 (0, 0)) := by
  have hi : i < ls.length := by rw [← h.len]; exact (List.getElem?_eq_some_iff.1 he).1
  obtain ⟨h1, h2⟩ := h.inn i _ e (List.getElem?_eq_getElem hi) he
  rcases hg with hg | hg
  · exact row_lt h1.row hg
  · exact row_lt h2.row hg
theorem acC_all {ls : List Ac} {es : List AcV} : ∀ c, c ∈ List.zipWith acC ls es → c.length = 5 := fun c hc => by
  obtain ⟨k, hk⟩ := List.mem_iff_getElem?.1 hc
  rw [List.getElem?_zipWith] at hk
  cases h1 : ls[k]? <;> cases h2 : es[k]? <;> rw [h1, h2] at hk <;> simp at hk
  subst hk
  rfl
theorem acC_at {i : Nat} {x : Ac} {e : AcV} (hx : ls[i]? = some x) (he : es[i]? = some e) : (List.zipWith acC ls es)[i]? = some (acC x e) := by rw [List.getElem?_zipWith, hx, he]
theorem OwnAc.num {g C N : Nat} (h : OwnAc w B Bi (.slice (some ⟨g, 0, none⟩) N C) ls es) : N = ls.length := by
  obtain ⟨A, C', he⟩ := row_form h.row
  cases he; rfl
theorem OwnAc.cells {g C N : Nat} (h : OwnAc w B Bi (.slice (some ⟨g, 0, none⟩) N C) ls es) {i : Nat} {x : Ac} {e : AcV} (hx : ls[i]? = some x) (he : es[i]? = some e) :
    w.cell? ⟨g, i * 5, none⟩ = some (.int .i64 x.kind) ∧ w.cell? ⟨g, i * 5 + 1, none⟩ = some (.int .i64 x.block) ∧ w.cell? ⟨g, i * 5 + 2, none⟩ = some (.int .i64 x.pos) ∧ w.cell? ⟨g, i * 5 + 3, none⟩ = some e.d ∧ w.cell? ⟨g, i * 5 + 4, none⟩ = some e.f := by
  have hi := (List.getElem?_eq_some_iff.1 hx).1
  have key : ∀ (j : Nat) u, (acC x e)[j]? = some u → w.cell? ⟨g, i * 5 + j, none⟩ = some u := fun j u hu => by
    have hj : j < 5 := (List.getElem?_eq_some_iff.1 hu).1
    have hN := h.num
    subst hN
    rw [World.ownsRow.cellAt h.row (i * 5 + j) (by omega)]
    exact flatten_at acC_all (acC_at hx he) hu
  exact ⟨key 0 _ rfl, key 1 _ rfl, key 2 _ rfl, key 3 _ rfl, key 4 _ rfl⟩
theorem OwnAc.frozen {g C N : Nat} (h : OwnAc w B Bi (.slice (some ⟨g, 0, none⟩) N C) ls es) (k : Nat) : w.frozen? ⟨g, k, none⟩ = false := by
  have hN := h.num
  subst hN
  exact World.ownsRow.frozenAt h.row k
theorem zip_set {i : Nat} {x : Ac} {e : AcV} (hl : es.length = ls.length) (hi : i < ls.length) : (List.zipWith acC ls es).set i (acC x e) = List.zipWith acC (ls.set i x) (es.set i e) := by
  refine List.ext_getElem? fun k => ?_
  rw [List.getElem?_zipWith]
  by_cases ek : i = k
  · subst ek
    rw [List.getElem?_set_self (by rw [List.length_zipWith, hl]; omega), List.getElem?_set_self hi, List.getElem?_set_self (by omega)]
  · rw [List.getElem?_set_ne ek, List.getElem?_set_ne ek, List.getElem?_set_ne ek, List.getElem?_zipWith]
/-- one access more, behind an append -/
theorem OwnAc.snoc {w1 : World} {x : Ac} {e : AcV} {v' : Value} {o : Obj} (h : OwnAc w B Bi v ls es) (h1 : OwnI w Bi e.d x.defs) (h2 : OwnI w Bi e.f x.orig) (hf : ∀ (k : Nat) e' g, es[k]? = some e' → e'.has g → ¬ e.has g) (hsep : e.Sep)
    (hown : w1.ownsRow B 37 5 v' (ls.length + 1) ((List.zipWith acC ls es).flatten ++ acC x e)) (hg : (w.alloc o).grownBy w1 v.ownBlock) : OwnAc w1 B Bi v' (ls ++ [x]) (es ++ [e]) := by
  have hb := But.grown h.row hg
  have hI : ∀ {u : Value} {l : List Int}, OwnI w Bi u l → OwnI w1 Bi u l := fun hu => ⟨hb.row (by decide) hu.row, hu.ok⟩
  refine ⟨by simp [h.len], ?_, fun i y e' hy he => ?_, fun i j ei ej g hi hj hij hgi => ?_, fun i e' he => ?_⟩
  rotate_right
  · rcases Nat.lt_or_ge i es.length with hl | hl
    · rw [List.getElem?_append_left hl] at he
      exact h.self i e' he
    · rw [List.getElem?_append_right hl] at he
      have e0 : i - es.length = 0 := by have := (List.getElem?_eq_some_iff.1 he).1; simp at this; omega
      rw [e0] at he
      cases he
      exact hsep
  · rw [List.length_append, List.zipWith_append h.len.symm, List.flatten_append]
    simpa using hown
  · rcases Nat.lt_or_ge i ls.length with hl | hl
    · rw [List.getElem?_append_left hl] at hy
      rw [List.getElem?_append_left (by rw [h.len]; exact hl)] at he
      obtain ⟨g1, g2⟩ := h.inn i y e' hy he
      exact ⟨hI g1, hI g2⟩
    · rw [List.getElem?_append_right hl] at hy
      rw [List.getElem?_append_right (by rw [h.len]; exact hl)] at he
      have e0 : i - ls.length = 0 := by have := (List.getElem?_eq_some_iff.1 hy).1; simp at this; omega
      rw [h.len, e0] at he
      rw [e0] at hy
      cases hy; cases he
      exact ⟨hI h1, hI h2⟩
  · rcases Nat.lt_or_ge i es.length with hl | hl
    · rw [List.getElem?_append_left hl] at hi
      rcases Nat.lt_or_ge j es.length with hl' | hl'
      · rw [List.getElem?_append_left hl'] at hj
        exact h.apart i j ei ej g hi hj hij hgi
      · rw [List.getElem?_append_right hl'] at hj
        have e0 : j - es.length = 0 := by have := (List.getElem?_eq_some_iff.1 hj).1; simp at this; omega
        rw [e0] at hj
        cases hj
        exact hf i ei g hi hgi
    · have hi' := (List.getElem?_eq_some_iff.1 hi).1
      rw [List.length_append] at hi'
      simp at hi'
      rw [List.getElem?_append_right hl] at hi
      have e0 : i - es.length = 0 := by omega
      rw [e0] at hi
      cases hi
      have hj' := (List.getElem?_eq_some_iff.1 hj).1
      rw [List.length_append] at hj'
      simp at hj'
      have hl' : j < es.length := by omega
      rw [List.getElem?_append_left hl'] at hj
      exact fun hgj => hf j ej g hj hgj hgi
/-- an access without rows of its own -/
theorem OwnAc.bare {w1 : World} {k b p : Int} {v' : Value} {o : Obj} (h : OwnAc w B Bi v ls es)
    (hown : w1.ownsRow B 37 5 v' (ls.length + 1) ((List.zipWith acC ls es).flatten ++ [.int .i64 k, .int .i64 b, .int .i64 p, .slice none 0 0, .slice none 0 0])) (hg : (w.alloc o).grownBy w1 v.ownBlock) : OwnAc w1 B Bi v' (ls ++ [⟨k, b, p, [], []⟩]) (es ++ [⟨.slice none 0 0, .slice none 0 0⟩]) :=
  h.snoc (x := ⟨k, b, p, [], []⟩) (e := ⟨.slice none 0 0, .slice none 0 0⟩) OwnI.nil_ OwnI.nil_ (fun k e' g _ _ hg => by rcases hg with hg | hg <;> cases hg) (fun g hg => by cases hg) hown hg
/-- one access made anew: x' for x -/
theorem OwnAc.remake {g C N : Nat} (h : OwnAc w B Bi (.slice (some ⟨g, 0, none⟩) N C) ls es) {i : Nat} {x x' : Ac} {e e' : AcV} (hx : ls[i]? = some x) (he : es[i]? = some e) {w2 : World}
    (hrow : w2.ownsRow B 37 5 (.slice (some ⟨g, 0, none⟩) N C) N (List.zipWith acC (ls.set i x') (es.set i e')).flatten)
    (h1 : OwnI w2 Bi e'.d x'.defs) (h2 : OwnI w2 Bi e'.f x'.orig) (hsep : e'.Sep)
    (hk : ∀ k, Bi ≤ k → k < w.heap.size → ¬ e.has k → k ≠ g → w2.heap[k]? = w.heap[k]?) (hfr : ∀ k, e'.has k → e.has k ∨ w.heap.size ≤ k) :
    OwnAc w2 B Bi (.slice (some ⟨g, 0, none⟩) N C) (ls.set i x') (es.set i e') := by
  have hN := h.num
  have hi := (List.getElem?_eq_some_iff.1 hx).1
  have hl := h.len
  have hgT : ∃ c, w.heap[g]? = some (.cells c 37 (0, 0)) := (row_lt h.row (k := g) rfl).2.2
  have hne : ∀ {k : Nat} {c : Array Value}, w.heap[k]? = some (.cells c 3 (0, 0)) → k ≠ g := fun hc e => by
    obtain ⟨c', h'⟩ := hgT
    rw [← e, hc] at h'
    cases h'
  refine ⟨by simp [hl], by rw [List.length_set, ← hN]; exact hrow, fun j y ej hy hej => ?_, fun j k ej ek q hj hk' hjk hq hq' => ?_, fun j ej hj => ?_⟩
  · by_cases ej' : i = j
    · subst ej'
      rw [List.getElem?_set_self hi] at hy
      rw [List.getElem?_set_self (by omega)] at hej
      cases hy; cases hej
      exact ⟨h1, h2⟩
    · rw [List.getElem?_set_ne ej'] at hy hej
      obtain ⟨g1, g2⟩ := h.inn j y ej hy hej
      have key : ∀ {u : Value} {l : List Int}, (∀ q, u.ownBlock = some q → ej.has q) → OwnI w Bi u l → OwnI w2 Bi u l := fun hu ho => ⟨row_kept ho.row fun q hq => by
        obtain ⟨a1, a2, c, a3⟩ := row_lt ho.row hq
        exact hk q a1 a2 (h.apart j i ej e q hej he (fun e2 => ej' e2.symm) (hu q hq)) (hne a3), ho.ok⟩
      exact ⟨key (fun q hq => .inl hq) g1, key (fun q hq => .inr hq) g2⟩
  · by_cases ei : i = j
    · subst ei
      rw [List.getElem?_set_self (by omega)] at hj
      rw [List.getElem?_set_ne hjk] at hk'
      cases hj
      rcases hfr q hq with h3 | h3
      · exact h.apart i k e ek q he hk' hjk h3 hq'
      · have := (h.in_lt hk' hq').2.1; omega
    · rw [List.getElem?_set_ne ei] at hj
      by_cases ei2 : i = k
      · subst ei2
        rw [List.getElem?_set_self (by omega)] at hk'
        cases hk'
        rcases hfr q hq' with h3 | h3
        · exact h.apart j i ej e q hj he hjk hq h3
        · have := (h.in_lt hj hq).2.1; omega
      · rw [List.getElem?_set_ne ei2] at hk'
        exact h.apart j k ej ek q hj hk' hjk hq hq'
  · by_cases ei : i = j
    · subst ei
      rw [List.getElem?_set_self (by omega)] at hj
      cases hj
      exact hsep
    · rw [List.getElem?_set_ne ei] at hj
      exact h.self j ej hj
theorem ac_row_put {w1 : World} {g C N : Nat} {L : List (List Value)} {i j : Nat} {c : List Value} {u : Value} (h : w1.ownsRow B 37 5 (.slice (some ⟨g, 0, none⟩) N C) N L.flatten) (hl : ∀ c, c ∈ L → c.length = 5) (hc : L[i]? = some c) (hj : j < 5) :
    (w1.setCell ⟨g, i * 5 + j, none⟩ u).ownsRow B 37 5 (.slice (some ⟨g, 0, none⟩) N C) N (L.set i (c.set j u)).flatten := by
  have hst := (World.ownsRow.stored h (i * 5 + j) u).1
  rwa [flatten_put hl hc hj] at hst
end
theorem cinfo_Access : (Try.prog.info? 37).map (fun i => (i.zero, i.size, i.bytes)) = some (some (.agg #[.int .i64 0, .int .i64 0, .int .i64 0, .slice none 0 0, .slice none 0 0]), 5, 72) := by kernel_rfl
end Go.Proofs.Yteeclobpajalmaa
