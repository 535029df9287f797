/- A map from int to int that the call makes and uses as a set. No condition. | A map from int to int that the call makes and uses as a set: its keys, with their number. No condition. | What loops.Find stands on: a work list taken from its end, a map gone through in any order, a row sorted by the library; and the plain side of its work list. No condition but sizes. | What one round of loops.Find has in hand: a loop's own block, its blocks, the map of its exits, the counts. No condition. -/
import Derived.Test.YteeclobpajalmaaRows
import Derived.Test.YteeclobpajalmaaOnly
import Derived.Maps.OwnOps
import Derived.Maps.OwnSet
import Derived.Maps.Views
import Derived.KernelRfl
import Derived.Test.YteeclobpajalmaaFrC
import Derived.Test.YteeclobpajalmaaLoK
import Derived.Test.YteeclobpajalmaaApn
import Derived.Maps.RangeWalk
import Derived.Sort.OwnSortedInts
import Derived.Test.YteeclobpajalmaaLoM
namespace Go.Proofs.Yteeclobpajalmaa
open Go.RowKit Go.Maps

/-- block M is a map of at most n entries: 1 at the keys of which q holds, nothing elsewhere -/
def MSet (w : World) (M n : Nat) (q : Int → Bool) : Prop :=
  ∃ D : DataW Unit, w.ownsMap Try.prog 3 (plainElem Try.prog 3) M n D ∧ ∀ r : Int, D.atKey (.int .i64 r) (.lit (.int .i64 0)) = .lit (.int .i64 (if q r then 1 else 0))

theorem zero_int (w : World) : (zeroValue 3).run Try.prog w = .ok (.int .i64 0) w := by kernel_rfl
theorem MSet.of_heap {w w' : World} {M n : Nat} {q : Int → Bool} (h : MSet w M n q) (hb : w'.heap[M]? = w.heap[M]?) : MSet w' M n q := by
  obtain ⟨D, ⟨es, clock, h1, h2⟩, hq⟩ := h
  exact ⟨D, ⟨es, clock, hb.trans h1, h2⟩, hq⟩
theorem MSet.lt {w : World} {M n : Nat} {q : Int → Bool} (h : MSet w M n q) : M < w.heap.size := by
  obtain ⟨D, h, _⟩ := h
  exact h.lt
theorem MSet.alloc {w : World} {M n : Nat} {q : Int → Bool} (h : MSet w M n q) (o : Obj) : MSet (w.alloc o) M n q := h.of_heap (Below.heap_alloc w o M h.lt)
theorem MSet.congr {w : World} {M n : Nat} {q q' : Int → Bool} (h : MSet w M n q) (hq : ∀ r, q r = q' r) : MSet w M n q' := by
  have : q = q' := funext hq
  exact this ▸ h
theorem MSet.mono {w : World} {M n n' : Nat} {q : Int → Bool} (h : MSet w M n q) (hn : n ≤ n') : MSet w M n' q := by
  obtain ⟨D, h, hq⟩ := h
  exact ⟨D, h.mono hn, hq⟩
theorem MSet.made (w : World) : MSet (w.alloc (.map #[] 0)) w.heap.size 0 (fun _ => false) :=
  ⟨.map [], World.ownsMap_made _ _ _ _, fun r => by simp [DataW.atKey]⟩
theorem MSet.look {w : World} {M n : Nat} {q : Int → Bool} (h : MSet w M n q) {r : Int} (hr : (Lit.int .i64 r).wf = true) :
    (Instr.lookup 78 (.map (some M)) (.int .i64 r) false).run Try.prog w = .ok (.int .i64 (if q r then 1 else 0)) w := by
  obtain ⟨D, h, hq⟩ := h
  obtain ⟨c, hrun, hat, _⟩ := h.lookup_int (int_keyed Try.underlying3) Try.underlying78 Try.underlying3 (zero_int w) (keyOf_int_mk Try.underlying3 hr)
  have hc : DataW.lit (H := Unit) (.int .i64 (if q r then 1 else 0)) = .lit (.int .i64 c) := (hq r).symm.trans hat
  have hc' : (if q r then 1 else 0 : Int) = c := by simpa using hc
  rw [hc']
  exact hrun
theorem MSet.store {w : World} {M n : Nat} {q : Int → Bool} (h : MSet w M n q) (hn : n < maxLen) {r : Int} (hr : (Lit.int .i64 r).wf = true) :
    ∃ w', (Instr.mapUpdate 78 (.map (some M)) (.int .i64 r) (.int .i64 1)).run Try.prog w = .ok () w' ∧ MSet w' M (n + 1) (fun x => q x || r == x) ∧ Only (fun k => k = M) w.heap.size w w' := by
  obtain ⟨D, h, hq⟩ := h
  obtain ⟨w', hrun, hown, hg⟩ := h.update (int_keyed Try.underlying3) Try.underlying78 hn (keyOf_int_mk Try.underlying3 hr) (plainElem_int Try.underlying3 (a := 1) (by decide))
  refine ⟨w', hrun, ⟨_, hown, fun x => ?_⟩, ⟨hg.os, hg.tape, hg.output, hg.size, fun k hk hne => hg.block k hk (fun e => hne (by injection e))⟩⟩
  by_cases hx : x = r
  · subst hx
    rw [Maps.atKey_put_same h.isMap (by simp [WideAt.IsKeyLit])]
    simp
  · rw [Maps.atKey_put_other (by intro e; injection e with _ e; exact hx e), hq x]
    have : (r == x) = false := by simpa using fun e => hx e.symm
    simp [this]

end Go.Proofs.Yteeclobpajalmaa

namespace Go.Proofs.Yteeclobpajalmaa
open Go.RowKit Go.Maps
set_option linter.unusedVariables false

/-- block M is a map: 1 at each of the keys l, nothing elsewhere -/
def MKeys (w : World) (M : Nat) (l : List Int) : Prop :=
  ∃ D : DataW Unit, w.ownsMap Try.prog 3 (plainElem Try.prog 3) M l.length D ∧ (∀ r : Int, D.atKey (.int .i64 r) (.lit (.int .i64 0)) = .lit (.int .i64 (if decide (r ∈ l) = true then 1 else 0))) ∧ (∀ r : Int, Maps.has D (.int .i64 r) = decide (r ∈ l)) ∧ Maps.size D = l.length
section
variable {w w' : World} {M n : Nat} {l : List Int} {r : Int}
theorem MKeys.of_heap (h : MKeys w M l) (hb : w'.heap[M]? = w.heap[M]?) : MKeys w' M l := by
  obtain ⟨D, ⟨es, clock, h1, h2⟩, hq⟩ := h
  exact ⟨D, ⟨es, clock, hb.trans h1, h2⟩, hq⟩
theorem MKeys.lt (h : MKeys w M l) : M < w.heap.size := by
  obtain ⟨D, h, _⟩ := h
  exact h.lt
theorem MKeys.made (w : World) : MKeys (w.alloc (.map #[] 0)) w.heap.size [] :=
  ⟨.map [], World.ownsMap_made _ _ _ _, fun r => by simp [DataW.atKey], fun r => by simp [Maps.has], rfl⟩
theorem MKeys.look (h : MKeys w M l) (hr : (Lit.int .i64 r).wf = true) :
    (Instr.lookup 78 (.map (some M)) (.int .i64 r) false).run Try.prog w = .ok (.int .i64 (if decide (r ∈ l) = true then 1 else 0)) w := by
  obtain ⟨D, h, hq, -⟩ := h
  exact MSet.look (q := fun r => decide (r ∈ l)) ⟨D, h, hq⟩ hr
theorem MKeys.isMap (h : MKeys w M l) : ∃ es clock, w.heap[M]? = some (.map es clock) ∧ es.size = l.length := by
  obtain ⟨D, ⟨es, clock, h1, h2, h3, rfl⟩, -, -, h4⟩ := h
  refine ⟨es, clock, h1, ?_⟩
  rw [← h4]
  simp [Maps.size, length_sorted]
theorem MKeys.len (h : MKeys w M l) (ty : TypeId) : (Builtin.len_ #[78] ty #[.map (some M)]).run Try.prog w = .ok (.int .i64 l.length) w := by
  obtain ⟨D, h, -, -, h4⟩ := h
  rw [h.len Try.underlying78 ty, h4]
theorem ownsMap_tight {D : DataW Unit} (h : w.ownsMap Try.prog 3 (plainElem Try.prog 3) M n D) : w.ownsMap Try.prog 3 (plainElem Try.prog 3) M (Maps.size D) D := by
  obtain ⟨es, clock, h1, h2, h3, rfl⟩ := h
  exact ⟨es, clock, h1, h2, by simp [Maps.size, length_sorted], rfl⟩
/-- the key r stored -/
theorem MKeys.store (h : MKeys w M l) (hn : l.length < maxLen) (hr : (Lit.int .i64 r).wf = true) :
    ∃ w', (Instr.mapUpdate 78 (.map (some M)) (.int .i64 r) (.int .i64 1)).run Try.prog w = .ok () w' ∧ MKeys w' M (if r ∈ l then l else l ++ [r]) ∧ Only (fun k => k = M) w.heap.size w w' := by
  obtain ⟨D, h, hq, hh, hs⟩ := h
  obtain ⟨w', hrun, hown, hg⟩ := h.update (int_keyed Try.underlying3) Try.underlying78 hn (keyOf_int_mk Try.underlying3 hr) (plainElem_int Try.underlying3 (a := 1) (by decide))
  have hT := h.tidy (int_keyed Try.underlying3)
  have hsz := size_put (k := .int .i64 r) hT (.lit (.int .i64 1))
  rw [hh r, hs] at hsz
  have hlen : Maps.size (D.put (.int .i64 r) (.lit (.int .i64 1))) = (if r ∈ l then l else l ++ [r]).length := by
    rw [hsz]
    by_cases e : r ∈ l <;> simp [e]
  have hmem : ∀ x : Int, x ∈ (if r ∈ l then l else l ++ [r]) ↔ (x ∈ l ∨ x = r) := fun x => by
    by_cases e : r ∈ l
    · rw [if_pos e]
      exact ⟨.inl, fun h => h.elim id fun h => h ▸ e⟩
    · rw [if_neg e]
      simp
  refine ⟨w', hrun, ⟨_, hlen ▸ ownsMap_tight hown, fun x => ?_, fun x => ?_, hlen⟩, ⟨hg.os, hg.tape, hg.output, hg.size, fun k hk hne => hg.block k hk (fun e => hne (by injection e))⟩⟩
  · by_cases hx : x = r
    · subst hx
      rw [Maps.atKey_put_same h.isMap (by simp [WideAt.IsKeyLit]), decide_eq_true ((hmem x).2 (.inr rfl))]
      simp
    · rw [Maps.atKey_put_other (by intro e; injection e with _ e; exact hx e), hq x]
      have : decide (x ∈ (if r ∈ l then l else l ++ [r])) = decide (x ∈ l) := by
        rw [Bool.eq_iff_iff, decide_eq_true_iff, decide_eq_true_iff, hmem x]
        exact ⟨fun h => h.resolve_right hx, .inl⟩
      rw [this]
  · by_cases hx : x = r
    · subst hx
      rw [Maps.has_put_same h.isMap (by simp [WideAt.IsKeyLit]), decide_eq_true ((hmem x).2 (.inr rfl))]
    · rw [Maps.has_put_other (by intro e; injection e with _ e; exact hx e), hh x]
      rw [Bool.eq_iff_iff, decide_eq_true_iff, decide_eq_true_iff, hmem x]
      exact ⟨.inl, fun h => h.resolve_right hx⟩
end
/-- maps S, S + 1, ..: the rows of ls are their keys -/
def MapsK (w : World) (S : Nat) (ls : List (List Int)) : Prop := ∀ (k : Nat) l, ls[k]? = some l → MKeys w (S + k) l
section
variable {w w' : World} {S : Nat} {ls : List (List Int)}
theorem MapsK.put (h : MapsK w S ls) {k : Nat} {l l' : List Int} (hl : ls[k]? = some l) (ho : Only (fun j => j = S + k) w.heap.size w w') (hm : MKeys w' (S + k) l') : MapsK w' S (ls.set k l') := fun j x hj => by
  by_cases e : k = j
  · subst e
    rw [List.getElem?_set_self (List.getElem?_eq_some_iff.1 hl).1] at hj
    cases hj
    exact hm
  · rw [List.getElem?_set_ne e] at hj
    have := h j x hj
    exact this.of_heap (ho.block _ this.lt (fun e2 => e (by have e3 : S + j = S + k := e2; omega)))
theorem MapsK.below (h : MapsK w S ls) (hb : Below w.heap.size w w') : MapsK w' S ls := fun k l hl => (h k l hl).of_heap (hb.block _ (h k l hl).lt)
theorem set_same {k : Nat} {l : List Int} (h : ls[k]? = some l) : ls.set k l = ls := by
  refine List.ext_getElem? fun j => ?_
  by_cases e : k = j
  · subst e; rw [List.getElem?_set_self (List.getElem?_eq_some_iff.1 h).1, h]
  · rw [List.getElem?_set_ne e]
end
end Go.Proofs.Yteeclobpajalmaa

namespace Go.Proofs.Yteeclobpajalmaa
open Go.RowKit Go.Sort
set_option linter.unusedSimpArgs false
set_option linter.unusedVariables false

theorem OwnI.pop {w : World} {B g C : Nat} {l : List Int} {x : Int} (h : OwnI w B (.slice (some ⟨g, 0, none⟩) (l.length + 1) C) (l ++ [x])) : OwnI w B (.slice (some ⟨g, 0, none⟩) l.length C) l := by
  refine ⟨?_, fun y hy => h.ok y (List.mem_append_left _ hy)⟩
  rcases h.row.2 with ⟨e, _⟩ | ⟨g', cap', cur, e, hb, hh, hnc, hcm, hcs, ht⟩
  · cases e
  · simp only [Value.slice.injEq, Option.some.injEq, Addr.mk.injEq, and_true, true_and] at e
    obtain ⟨rfl, -, rfl⟩ := e
    rw [List.length_append, List.length_singleton] at hnc ht
    refine ⟨by simp, .inr ⟨g, C, cur, rfl, hb, hh, by omega, hcm, hcs, ?_⟩⟩
    have e2 : cur.toList.take (l.length * 1) = (cur.toList.take ((l.length + 1) * 1)).take (l.length * 1) := by rw [List.take_take]; congr 1; omega
    rw [e2, ht, List.map_append, List.take_append_of_le_length (by simp), List.take_of_length_le (by simp)]
theorem OwnI.last {w : World} {B g C : Nat} {l : List Int} {x : Int} (h : OwnI w B (.slice (some ⟨g, 0, none⟩) (l.length + 1) C) (l ++ [x])) : w.cell? ⟨g, l.length, none⟩ = some (.int .i64 x) ∧ l.length + 1 ≤ C ∧ C ≤ 9223372036854775807 := by
  have hr := h.row
  rw [List.length_append, List.length_singleton] at hr
  refine ⟨by rw [World.ownsRow.cellAt hr l.length (by omega), List.getElem?_map]; simp, ?_⟩
  rcases hr.2 with ⟨e, _⟩ | ⟨g', cap', cur, e, hb, hh, hnc, hcm, hcs, ht⟩
  · cases e
  · simp only [Value.slice.injEq, Option.some.injEq, Addr.mk.injEq, and_true, true_and] at e
    obtain ⟨-, rfl⟩ := e
    unfold maxLen at hcm
    exact ⟨hnc, by omega⟩
/-- slices.Sort at a row of the call's own -/
theorem sort_any (v : Value) (l : List Int) (w : World) (S : Nat) (h : OwnI w S v l) (hl : l.length ≤ 2000000) :
    Calls Try.prog 120 #[v] w fun e w' => e = .returned (.tuple #[]) ∧ OwnI w' S v (l.mergeSort fun x y => decide (x ≤ y)) ∧ w.grownBy w' v.ownBlock := by
  rcases h.row.2 with ⟨e, h0⟩ | ⟨g, C, cur, e, hb, hh, hnc, hcm, hcs, ht⟩
  · subst e
    refine (AnyM.slices_Sort_int_none sortLaid none 0 w).mono ?_
    rintro e w' ⟨rfl, rfl⟩
    have : l = [] := List.eq_nil_of_length_eq_zero h0
    subst this
    exact ⟨rfl, by simpa using h, World.grownBy.refl _ _⟩
  · subst e
    have hg : g < w.heap.size := (Array.getElem?_eq_some_iff.1 hh).1
    have hH := holds_own h
    refine (AnyM.slices_Sort_int sortLaid g 0 C l w hH hg (by omega)).mono ?_
    rintro e w' ⟨rfl, n, os, rfl⟩
    refine ⟨rfl, ⟨?_, fun x hx => h.ok x ((List.mergeSort_perm l _).mem_iff.1 hx)⟩, grownBy_sortedI _⟩
    have := ownsRow_sortedI (w := w) (n := n) (os := os) (ss := l) (ts := l.mergeSort fun x y => decide (x ≤ y)) (by simp) hb hh hnc hcm hcs
    rw [List.length_mergeSort]
    exact this
/-- what has come out of a map: q, in whatever order; the rest is still to come -/
def Got (D : DataW Unit) (left : Lit → Bool) (q : List Int) : Prop := q.Nodup ∧ (∀ r, r ∈ q → I64 r) ∧ ∀ r : Int, Maps.has D (.int .i64 r) = (left (.int .i64 r) || decide (r ∈ q)) ∧ (r ∈ q → left (.int .i64 r) = false)
theorem got_start (D : DataW Unit) : Got D (Maps.has D) [] := ⟨List.nodup_nil, ⟨fun r h => (by cases h), fun r => ⟨by simp, fun h => (by cases h)⟩⟩⟩
theorem got_step {D : DataW Unit} {left : Lit → Bool} {q : List Int} {x : Int} (h : Got D left q) (hx : left (.int .i64 x) = true) (hw : (Lit.int .i64 x).wf = true) : Got D (fun z => left z && !z.sameKey (.int .i64 x)) (q ++ [x]) := by
  have hn : x ∉ q := fun hm => by rw [(h.2.2 x).2 hm] at hx; cases hx
  refine ⟨?_, fun r hr => ?_, fun r => ⟨?_, fun hr => ?_⟩⟩
  · rw [List.nodup_append]
    exact ⟨h.1, by simp, fun a ha b hb => by rw [List.mem_singleton.1 hb]; exact fun e => hn (e ▸ ha)⟩
  · rcases List.mem_append.1 hr with hr | hr
    · exact h.2.1 r hr
    · rw [List.mem_singleton.1 hr]; exact hw
  · rw [(h.2.2 r).1]
    by_cases e : r = x
    · subst e
      rw [hx]
      simp
    · simp [Lit.sameKey, e]
  · by_cases e : r = x
    · subst e
      simp [Lit.sameKey]
    · have : r ∈ q := (List.mem_append.1 hr).resolve_right fun h => e (List.mem_singleton.1 h)
      show (left (.int .i64 r) && _) = false
      rw [(h.2.2 r).2 this]
      rfl
theorem got_end {D : DataW Unit} {left : Lit → Bool} {q : List Int} (h : Got D left q) (hl : ∀ kl, left kl = false) (r : Int) : Maps.has D (.int .i64 r) = decide (r ∈ q) := by rw [(h.2.2 r).1, hl]; simp
theorem got_in {D : DataW Unit} {left : Lit → Bool} {q : List Int} (h : Got D left q) {r : Int} (hr : r ∈ q) : Maps.has D (.int .i64 r) = true := by rw [(h.2.2 r).1]; simp [hr]
theorem got_new {D : DataW Unit} {left : Lit → Bool} {q : List Int} {x : Int} (h : Got D left q) (hx : left (.int .i64 x) = true) : Maps.has D (.int .i64 x) = true := by rw [(h.2.2 x).1]; simp [hx]
section
variable {sc : Int → List Int} {o lat H K p : List Int} {h b : Int} {n : Nat}
/-- the work list, and how much is left to do -/
structure WkN (sc : Int → List Int) (o lat : List Int) (h : Int) (n : Nat) (H K : List Int) : Prop where
  wk : WkS sc o lat h H K
  nodup : H.Nodup
  inn : ∀ x, x ∈ H → 0 ≤ x ∧ x < n
  bound : ∀ x, x ∈ K → 0 ≤ x ∧ x < n
  len : K.length ≤ H.length * n
def wkM (n : Nat) (H K : List Int) : Nat := (n - H.length) * (n + 1) + K.length
theorem WkN.start (hl : ∀ x, x ∈ lat → x ∈ o) (hb : ∀ x, x ∈ o → 0 ≤ x ∧ x < n) (hh : 0 ≤ h ∧ h < n) (hll : lat.length ≤ n) : WkN sc o lat h n [h] lat :=
  ⟨WkS.start hl, by simp, fun x hx => by rw [List.mem_singleton.1 hx]; exact hh, fun x hx => hb x (hl x hx), by simpa using hll⟩
theorem WkN.hlen (W : WkN sc o lat h n H K) : H.length ≤ n := range_len n H W.nodup W.inn
theorem WkN.skip (hl : ∀ x, x ∈ lat → x ∈ o) (W : WkN sc o lat h n H (K ++ [b])) (hb : b ∈ H ∨ b ∉ o) : WkN sc o lat h n H K ∧ wkM n H K < wkM n H (K ++ [b]) := by
  have := W.len
  rw [List.length_append, List.length_singleton] at this
  refine ⟨⟨W.wk.skip hl hb, W.nodup, W.inn, fun x hx => W.bound x (List.mem_append_left _ hx), by omega⟩, ?_⟩
  unfold wkM
  rw [List.length_append, List.length_singleton]
  omega
theorem WkN.take (W : WkN sc o lat h n H (K ++ [b])) (hb : b ∉ H) (ho : b ∈ o) (hp : ∀ x, x ∈ p → (0 ≤ x ∧ x < n) ∧ b ∈ sc x) (hp2 : ∀ x, x ∈ o → b ∈ sc x → x ∈ p) (hpl : p.length ≤ n) : WkN sc o lat h n (H ++ [b]) (K ++ p) ∧ wkM n (H ++ [b]) (K ++ p) < wkM n H (K ++ [b]) := by
  have h1 := W.len
  rw [List.length_append, List.length_singleton] at h1
  have hnd : (H ++ [b]).Nodup := by
    rw [List.nodup_append]
    exact ⟨W.nodup, by simp, fun a ha c hc => by rw [List.mem_singleton.1 hc]; exact fun e => hb (e ▸ ha)⟩
  have hinn : ∀ x, x ∈ H ++ [b] → 0 ≤ x ∧ x < n := fun x hx => by
    rcases List.mem_append.1 hx with hx | hx
    · exact W.inn x hx
    · rw [List.mem_singleton.1 hx]; exact W.bound b (by simp)
  have h2 : (H ++ [b]).length ≤ n := range_len n _ hnd hinn
  rw [List.length_append, List.length_singleton] at h2
  refine ⟨⟨W.wk.take hb ho (fun x hx => (hp x hx).2) hp2, hnd, hinn, fun x hx => ?_, ?_⟩, ?_⟩
  · rcases List.mem_append.1 hx with hx | hx
    · exact W.bound x (List.mem_append_left _ hx)
    · exact (hp x hx).1
  · rw [List.length_append, List.length_append, List.length_singleton, Nat.add_mul]
    omega
  · unfold wkM
    simp only [List.length_append, List.length_singleton]
    obtain ⟨d, hd⟩ : ∃ d, n = H.length + 1 + d := ⟨n - (H.length + 1), by omega⟩
    have e1 : n - H.length = d + 1 := by omega
    have e2 : n - (H.length + 1) = d := by omega
    rw [e1, e2, Nat.add_mul]
    omega
theorem WkN.room (W : WkN sc o lat h n H K) (hn : n ≤ 2000000) : K.length ≤ 4000000000000 := by
  have h1 := W.len
  have h2 := Nat.mul_le_mul (Nat.le_trans W.hlen hn) hn
  omega
theorem WkN.done (W : WkN sc o lat h n H []) (x : Int) (hx : 0 ≤ x ∧ x < n) : decide (x ∈ H) = decide (x ∈ lpL sc o lat h n) := by
  rw [Bool.eq_iff_iff, decide_eq_true_iff, decide_eq_true_iff, W.wk.done, lpL_mem]
  exact ⟨fun h => ⟨hx.1, hx.2, h⟩, fun h => h.2.2⟩
end
end Go.Proofs.Yteeclobpajalmaa

namespace Go.Proofs.Yteeclobpajalmaa
open Go.RowKit
set_option linter.unusedSimpArgs false
set_option linter.unusedVariables false

def Is (k : Nat) (j : Nat) : Prop := j = k
def QL (GI gx j : Nat) : Prop := j = GI ∨ j = gx ∨ j = gx + 1
theorem only_grown2 {S : Nat → Prop} {B : Nat} {a c d : World} {o : Obj} {row : Option Nat} (h : Only S B a c) (hB : B ≤ c.heap.size) (hg : (c.alloc o).grownBy d row) (hr : ∀ k, row = some k → B ≤ k) : Only S B a d :=
  (h.alloc hB o).trans ⟨hg.os, hg.tape, hg.output, hg.size, fun k hk _ => hg.block k (by simp; omega) (fun e => by have := hr k e.symm; omega)⟩
theorem kept_grown {c d : World} {o : Obj} {row : Option Nat} {k : Nat} (hg : (c.alloc o).grownBy d row) (hk : k < c.heap.size) (hr : row ≠ some k) : d.heap[k]? = c.heap[k]? := by
  rw [hg.block k (by simp; omega) (fun e => hr e.symm)]
  exact Below.heap_alloc c o k hk
def lpX (a : Nat) (b l e : Value) : Array Value := #[.int .i64 a, b, l, e, .int .i64 0]
section
variable {GI gx a n : Nat} {lv bv ev : Value} {w w' : World} {q E cnt : List Int}
variable {qb qe : List Int} {R : Nat}
theorem grown_set (w : World) (g j : Nat) (v : Value) : w.grownBy (w.setCell ⟨g, j, none⟩ v) (some g) := ⟨rfl, rfl, rfl, by simp, fun k _ hne => heap_setCell_other w ⟨g, j, none⟩ k v (fun e => hne (by rw [e]))⟩
end
end Go.Proofs.Yteeclobpajalmaa
