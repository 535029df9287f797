/- A map as a set, a map with the exact list of its keys. No condition. -/
import Derived.Test.YtamjcafjdioidaaRows
import Derived.Test.YtamjcafjdioidaaApn
import Derived.Maps.OwnOps
import Derived.Maps.OwnSet
import Derived.Maps.Views
import Derived.KernelRfl
namespace Go.Proofs.Ytamjcafjdioidaa
open Go.RowKit Go.Maps

/-- block M is a map of at most n entries: 1 at the keys of which q holds, nothing elsewhere -/
def MSet (w : World) (M n : Nat) (q : Int → Bool) : Prop :=
  ∃ D : DataW Unit, w.ownsMap Try.prog 3 (plainElem Try.prog 3) M n D ∧ ∀ r : Int, D.atKey (.int .i64 r) (.lit (.int .i64 0)) = .lit (.int .i64 (if q r then 1 else 0))

theorem zero_int (w : World) : (zeroValue 3).run Try.prog w = .ok (.int .i64 0) w := by kernel_rfl
theorem MSet.of_heap {w w' : World} {M n : Nat} {q : Int → Bool} (h : MSet w M n q) (hb : w'.heap[M]? = w.heap[M]?) : MSet w' M n q := by
  obtain ⟨D, ⟨es, clock, h1, h2⟩, hq⟩ := h
  exact ⟨D, ⟨es, clock, hb.trans h1, h2⟩, hq⟩
theorem MSet.lt {w : World} {M n : Nat} {q : Int → Bool} (h : MSet w M n q) : M < w.heap.size := by
  obtain ⟨D, h, _⟩ := h
  exact h.lt
theorem MSet.alloc {w : World} {M n : Nat} {q : Int → Bool} (h : MSet w M n q) (o : Obj) : MSet (w.alloc o) M n q := h.of_heap (Below.heap_alloc w o M h.lt)
theorem MSet.congr {w : World} {M n : Nat} {q q' : Int → Bool} (h : MSet w M n q) (hq : ∀ r, q r = q' r) : MSet w M n q' := by
  have : q = q' := funext hq
  exact this ▸ h
theorem MSet.mono {w : World} {M n n' : Nat} {q : Int → Bool} (h : MSet w M n q) (hn : n ≤ n') : MSet w M n' q := by
  obtain ⟨D, h, hq⟩ := h
  exact ⟨D, h.mono hn, hq⟩
theorem MSet.made (w : World) : MSet (w.alloc (.map #[] 0)) w.heap.size 0 (fun _ => false) :=
  ⟨.map [], World.ownsMap_made _ _ _ _, fun r => by simp [DataW.atKey]⟩
theorem MSet.look {w : World} {M n : Nat} {q : Int → Bool} (h : MSet w M n q) {r : Int} (hr : (Lit.int .i64 r).wf = true) :
    (Instr.lookup 61 (.map (some M)) (.int .i64 r) false).run Try.prog w = .ok (.int .i64 (if q r then 1 else 0)) w := by
  obtain ⟨D, h, hq⟩ := h
  obtain ⟨c, hrun, hat, _⟩ := h.lookup_int (int_keyed Try.underlying3) Try.underlying61 Try.underlying3 (zero_int w) (keyOf_int_mk Try.underlying3 hr)
  have hc : DataW.lit (H := Unit) (.int .i64 (if q r then 1 else 0)) = .lit (.int .i64 c) := (hq r).symm.trans hat
  have hc' : (if q r then 1 else 0 : Int) = c := by simpa using hc
  rw [hc']
  exact hrun
theorem MSet.store {w : World} {M n : Nat} {q : Int → Bool} (h : MSet w M n q) (hn : n < maxLen) {r : Int} (hr : (Lit.int .i64 r).wf = true) :
    ∃ w', (Instr.mapUpdate 61 (.map (some M)) (.int .i64 r) (.int .i64 1)).run Try.prog w = .ok () w' ∧ MSet w' M (n + 1) (fun x => q x || r == x) ∧ Only (fun k => k = M) w.heap.size w w' := by
  obtain ⟨D, h, hq⟩ := h
  obtain ⟨w', hrun, hown, hg⟩ := h.update (int_keyed Try.underlying3) Try.underlying61 hn (keyOf_int_mk Try.underlying3 hr) (plainElem_int Try.underlying3 (a := 1) (by decide))
  refine ⟨w', hrun, ⟨_, hown, fun x => ?_⟩, ⟨hg.os, hg.tape, hg.output, hg.size, fun k hk hne => hg.block k hk (fun e => hne (by injection e))⟩⟩
  by_cases hx : x = r
  · subst hx
    rw [Maps.atKey_put_same h.isMap (by simp [WideAt.IsKeyLit])]
    simp
  · rw [Maps.atKey_put_other (by intro e; injection e with _ e; exact hx e), hq x]
    have : (r == x) = false := by simpa using fun e => hx e.symm
    simp [this]

end Go.Proofs.Ytamjcafjdioidaa

namespace Go.Proofs.Ytamjcafjdioidaa
open Go.RowKit Go.Maps
set_option linter.unusedVariables false

/-- block M is a map: 1 at each of the keys l, nothing elsewhere -/
def MKeys (w : World) (M : Nat) (l : List Int) : Prop :=
  ∃ D : DataW Unit, w.ownsMap Try.prog 3 (plainElem Try.prog 3) M l.length D ∧ (∀ r : Int, D.atKey (.int .i64 r) (.lit (.int .i64 0)) = .lit (.int .i64 (if decide (r ∈ l) = true then 1 else 0))) ∧ (∀ r : Int, Maps.has D (.int .i64 r) = decide (r ∈ l)) ∧ Maps.size D = l.length
section
variable {w w' : World} {M n : Nat} {l : List Int} {r : Int}
theorem MKeys.of_heap (h : MKeys w M l) (hb : w'.heap[M]? = w.heap[M]?) : MKeys w' M l := by
  obtain ⟨D, ⟨es, clock, h1, h2⟩, hq⟩ := h
  exact ⟨D, ⟨es, clock, hb.trans h1, h2⟩, hq⟩
theorem MKeys.lt (h : MKeys w M l) : M < w.heap.size := by
  obtain ⟨D, h, _⟩ := h
  exact h.lt
theorem MKeys.made (w : World) : MKeys (w.alloc (.map #[] 0)) w.heap.size [] :=
  ⟨.map [], World.ownsMap_made _ _ _ _, fun r => by simp [DataW.atKey], fun r => by simp [Maps.has], rfl⟩
theorem MKeys.look (h : MKeys w M l) (hr : (Lit.int .i64 r).wf = true) :
    (Instr.lookup 61 (.map (some M)) (.int .i64 r) false).run Try.prog w = .ok (.int .i64 (if decide (r ∈ l) = true then 1 else 0)) w := by
  obtain ⟨D, h, hq, -⟩ := h
  exact MSet.look (q := fun r => decide (r ∈ l)) ⟨D, h, hq⟩ hr
theorem MKeys.isMap (h : MKeys w M l) : ∃ es clock, w.heap[M]? = some (.map es clock) ∧ es.size = l.length := by
  obtain ⟨D, ⟨es, clock, h1, h2, h3, rfl⟩, -, -, h4⟩ := h
  refine ⟨es, clock, h1, ?_⟩
  rw [← h4]
  simp [Maps.size, length_sorted]
theorem MKeys.len (h : MKeys w M l) (ty : TypeId) : (Builtin.len_ #[61] ty #[.map (some M)]).run Try.prog w = .ok (.int .i64 l.length) w := by
  obtain ⟨D, h, -, -, h4⟩ := h
  rw [h.len Try.underlying61 ty, h4]
theorem ownsMap_tight {D : DataW Unit} (h : w.ownsMap Try.prog 3 (plainElem Try.prog 3) M n D) : w.ownsMap Try.prog 3 (plainElem Try.prog 3) M (Maps.size D) D := by
  obtain ⟨es, clock, h1, h2, h3, rfl⟩ := h
  exact ⟨es, clock, h1, h2, by simp [Maps.size, length_sorted], rfl⟩
/-- the key r stored -/
theorem MKeys.store (h : MKeys w M l) (hn : l.length < maxLen) (hr : (Lit.int .i64 r).wf = true) :
    ∃ w', (Instr.mapUpdate 61 (.map (some M)) (.int .i64 r) (.int .i64 1)).run Try.prog w = .ok () w' ∧ MKeys w' M (if r ∈ l then l else l ++ [r]) ∧ Only (fun k => k = M) w.heap.size w w' := by
  obtain ⟨D, h, hq, hh, hs⟩ := h
  obtain ⟨w', hrun, hown, hg⟩ := h.update (int_keyed Try.underlying3) Try.underlying61 hn (keyOf_int_mk Try.underlying3 hr) (plainElem_int Try.underlying3 (a := 1) (by decide))
  have hT := h.tidy (int_keyed Try.underlying3)
  have hsz := size_put (k := .int .i64 r) hT (.lit (.int .i64 1))
  rw [hh r, hs] at hsz
  have hlen : Maps.size (D.put (.int .i64 r) (.lit (.int .i64 1))) = (if r ∈ l then l else l ++ [r]).length := by
    rw [hsz]
    by_cases e : r ∈ l <;> simp [e]
  have hmem : ∀ x : Int, x ∈ (if r ∈ l then l else l ++ [r]) ↔ (x ∈ l ∨ x = r) := fun x => by
    by_cases e : r ∈ l
    · rw [if_pos e]
      exact ⟨.inl, fun h => h.elim id fun h => h ▸ e⟩
    · rw [if_neg e]
      simp
  refine ⟨w', hrun, ⟨_, hlen ▸ ownsMap_tight hown, fun x => ?_, fun x => ?_, hlen⟩, ⟨hg.os, hg.tape, hg.output, hg.size, fun k hk hne => hg.block k hk (fun e => hne (by injection e))⟩⟩
  · by_cases hx : x = r
    · subst hx
      rw [Maps.atKey_put_same h.isMap (by simp [WideAt.IsKeyLit]), decide_eq_true ((hmem x).2 (.inr rfl))]
      simp
    · rw [Maps.atKey_put_other (by intro e; injection e with _ e; exact hx e), hq x]
      have : decide (x ∈ (if r ∈ l then l else l ++ [r])) = decide (x ∈ l) := by
        rw [Bool.eq_iff_iff, decide_eq_true_iff, decide_eq_true_iff, hmem x]
        exact ⟨fun h => h.resolve_right hx, .inl⟩
      rw [this]
  · by_cases hx : x = r
    · subst hx
      rw [Maps.has_put_same h.isMap (by simp [WideAt.IsKeyLit]), decide_eq_true ((hmem x).2 (.inr rfl))]
    · rw [Maps.has_put_other (by intro e; injection e with _ e; exact hx e), hh x]
      rw [Bool.eq_iff_iff, decide_eq_true_iff, decide_eq_true_iff, hmem x]
      exact ⟨.inl, fun h => h.resolve_right hx⟩
end
/-- maps S, S + 1, ..: the rows of ls are their keys -/
def MapsK (w : World) (S : Nat) (ls : List (List Int)) : Prop := ∀ (k : Nat) l, ls[k]? = some l → MKeys w (S + k) l
section
variable {w w' : World} {S : Nat} {ls : List (List Int)}
theorem MapsK.put (h : MapsK w S ls) {k : Nat} {l l' : List Int} (hl : ls[k]? = some l) (ho : Only (fun j => j = S + k) w.heap.size w w') (hm : MKeys w' (S + k) l') : MapsK w' S (ls.set k l') := fun j x hj => by
  by_cases e : k = j
  · subst e
    rw [List.getElem?_set_self (List.getElem?_eq_some_iff.1 hl).1] at hj
    cases hj
    exact hm
  · rw [List.getElem?_set_ne e] at hj
    have := h j x hj
    exact this.of_heap (ho.block _ this.lt (fun e2 => e (by have e3 : S + j = S + k := e2; omega)))
theorem MapsK.below (h : MapsK w S ls) (hb : Below w.heap.size w w') : MapsK w' S ls := fun k l hl => (h k l hl).of_heap (hb.block _ (h k l hl).lt)
theorem set_same {k : Nat} {l : List Int} (h : ls[k]? = some l) : ls.set k l = ls := by
  refine List.ext_getElem? fun j => ?_
  by_cases e : k = j
  · subst e; rw [List.getElem?_set_self (List.getElem?_eq_some_iff.1 h).1, h]
  · rw [List.getElem?_set_ne e]
end
end Go.Proofs.Ytamjcafjdioidaa
