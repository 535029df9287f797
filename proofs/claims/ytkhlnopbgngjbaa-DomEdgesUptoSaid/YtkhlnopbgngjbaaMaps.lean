/- A map from int to int that the call makes and uses as a set. No condition. -/
import Derived.Test.YtkhlnopbgngjbaaRows
import Derived.Test.YtkhlnopbgngjbaaOnly
import Derived.Maps.OwnOps
import Derived.Maps.OwnSet
import Derived.Maps.Views
import Derived.KernelRfl
namespace Go.Proofs.Ytkhlnopbgngjbaa
open Go.RowKit Go.Maps

/-- block M is a map of at most n entries: 1 at the keys of which q holds, nothing elsewhere -/
def MSet (w : World) (M n : Nat) (q : Int → Bool) : Prop :=
  ∃ D : DataW Unit, w.ownsMap Try.prog 3 (plainElem Try.prog 3) M n D ∧ ∀ r : Int, D.atKey (.int .i64 r) (.lit (.int .i64 0)) = .lit (.int .i64 (if q r then 1 else 0))

theorem zero_int (w : World) : (zeroValue 3).run Try.prog w = .ok (.int .i64 0) w := by kernel_rfl
theorem MSet.of_heap {w w' : World} {M n : Nat} {q : Int → Bool} (h : MSet w M n q) (hb : w'.heap[M]? = w.heap[M]?) : MSet w' M n q := by
  obtain ⟨D, ⟨es, clock, h1, h2⟩, hq⟩ := h
  exact ⟨D, ⟨es, clock, hb.trans h1, h2⟩, hq⟩
theorem MSet.lt {w : World} {M n : Nat} {q : Int → Bool} (h : MSet w M n q) : M < w.heap.size := by
  obtain ⟨D, h, _⟩ := h
  exact h.lt
theorem MSet.alloc {w : World} {M n : Nat} {q : Int → Bool} (h : MSet w M n q) (o : Obj) : MSet (w.alloc o) M n q := h.of_heap (Below.heap_alloc w o M h.lt)
theorem MSet.congr {w : World} {M n : Nat} {q q' : Int → Bool} (h : MSet w M n q) (hq : ∀ r, q r = q' r) : MSet w M n q' := by
  have : q = q' := funext hq
  exact this ▸ h
theorem MSet.mono {w : World} {M n n' : Nat} {q : Int → Bool} (h : MSet w M n q) (hn : n ≤ n') : MSet w M n' q := by
  obtain ⟨D, h, hq⟩ := h
  exact ⟨D, h.mono hn, hq⟩
theorem MSet.made (w : World) : MSet (w.alloc (.map #[] 0)) w.heap.size 0 (fun _ => false) :=
  ⟨.map [], World.ownsMap_made _ _ _ _, fun r => by simp [DataW.atKey]⟩
theorem MSet.look {w : World} {M n : Nat} {q : Int → Bool} (h : MSet w M n q) {r : Int} (hr : (Lit.int .i64 r).wf = true) :
    (Instr.lookup 45 (.map (some M)) (.int .i64 r) false).run Try.prog w = .ok (.int .i64 (if q r then 1 else 0)) w := by
  obtain ⟨D, h, hq⟩ := h
  obtain ⟨c, hrun, hat, _⟩ := h.lookup_int (int_keyed Try.underlying3) Try.underlying45 Try.underlying3 (zero_int w) (keyOf_int_mk Try.underlying3 hr)
  have hc : DataW.lit (H := Unit) (.int .i64 (if q r then 1 else 0)) = .lit (.int .i64 c) := (hq r).symm.trans hat
  have hc' : (if q r then 1 else 0 : Int) = c := by simpa using hc
  rw [hc']
  exact hrun
theorem MSet.store {w : World} {M n : Nat} {q : Int → Bool} (h : MSet w M n q) (hn : n < maxLen) {r : Int} (hr : (Lit.int .i64 r).wf = true) :
    ∃ w', (Instr.mapUpdate 45 (.map (some M)) (.int .i64 r) (.int .i64 1)).run Try.prog w = .ok () w' ∧ MSet w' M (n + 1) (fun x => q x || r == x) ∧ Only (fun k => k = M) w.heap.size w w' := by
  obtain ⟨D, h, hq⟩ := h
  obtain ⟨w', hrun, hown, hg⟩ := h.update (int_keyed Try.underlying3) Try.underlying45 hn (keyOf_int_mk Try.underlying3 hr) (plainElem_int Try.underlying3 (a := 1) (by decide))
  refine ⟨w', hrun, ⟨_, hown, fun x => ?_⟩, ⟨hg.os, hg.tape, hg.output, hg.size, fun k hk hne => hg.block k hk (fun e => hne (by injection e))⟩⟩
  by_cases hx : x = r
  · subst hx
    rw [Maps.atKey_put_same h.isMap (by simp [WideAt.IsKeyLit])]
    simp
  · rw [Maps.atKey_put_other (by intro e; injection e with _ e; exact hx e), hq x]
    have : (r == x) = false := by simpa using fun e => hx e.symm
    simp [this]

end Go.Proofs.Ytkhlnopbgngjbaa
