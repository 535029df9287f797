/- A block that is a jump, as data. No condition. | lathelaw07.jump, lathelaw07.lives, lathelaw07.long. No condition. -/
import Derived.Test.YteeclobpajalmaaHm
import Derived.Test.YteeclobpajalmaaGrJ
import Derived.Test.YteeclobpajalmaaDoF
import Derived.Test.YteeclobpajalmaaGrO
import Derived.Test.YteeclobpajalmaaGrNf
namespace Go.Proofs.Yteeclobpajalmaa
open Go.RowKit
set_option linter.unusedSimpArgs false
set_option linter.unusedVariables false

def jumpS (op : Int) (ts : List Int) : List Ins := [⟨op, -1, 0, 0, 0, [], ts⟩]
def JumpPost (op : Int) (ts : List Int) (B : Nat) (w : World) (e : Ending) (w' : World) : Prop := ∃ v, e = .returned (.agg #[v]) ∧ OwnC w' B v (jumpS op ts) ∧ Below w.heap.size w w'
theorem own_lit {w : World} {B N n : Nat} {cs : Array Value} {l : List Int} (hcs : cs.toList = l.map fun z => Value.int .i64 z) (hn : l.length = n) (hl : ∀ x, x ∈ l → I64 x) (hN : N = w.heap.size) (hB : B ≤ w.heap.size) (hm : l.length ≤ 2000000) : OwnI (w.alloc (.cells cs 3)) B (.slice (some ⟨N, 0, none⟩) n n) l := by
  subst hn
  have hs : cs.size = l.length := by have := congrArg List.length hcs; simpa using this
  refine ⟨⟨by simp, .inr ⟨N, l.length, cs, rfl, by omega, box_at _ hN, Nat.le_refl _, by unfold maxLen; omega, by omega, ?_⟩⟩, hl⟩
  rw [hcs, List.take_of_length_le (by simp)]
theorem OwnC.below {w w' : World} {B : Nat} {v : Value} {l : List Ins} (h : OwnC w B v l) (hb : Below w.heap.size w w') : OwnC w' B v l := h.kept fun k _ hk => hb.block k hk
end Go.Proofs.Yteeclobpajalmaa

namespace Go.Proofs.Yteeclobpajalmaa
open Go.RowKit
set_option linter.unusedSimpArgs false
set_option linter.unusedVariables false

open Classical in
noncomputable def domB (sc : Int → List Int) (o : List Int) (a b : Int) : Bool := decide (Dom sc o a b)
theorem domB_iff {sc : Int → List Int} {o : List Int} {a b : Int} : domB sc o a b = true ↔ Dom sc o a b := by unfold domB; simp
theorem dominates_b {sc : Int → List Int} {o : List Int} {a b : Int} {v : Value} {args : Array Value} {w : World} {k : Nat} (h : Calls Try.prog k args w (DomPost sc o a b w)) : Calls Try.prog k args w (RetB (domB sc o a b) w) := by
  refine h.mono ?_
  rintro e w' ⟨r, rfl, h1, h2⟩
  have : r = domB sc o a b := by rw [Bool.eq_iff_iff, domB_iff]; exact h1
  rw [this]
  exact ⟨rfl, h2⟩
def lives07B : List (List Ins) := [jumpS 32 [1, 2], jumpS 31 [3], jumpS 32 [3, 4], jumpS 32 [1, 5], jumpS 31 [5], jumpS 33 [], jumpS 31 [5]]
def lives07Fn : Fun := ⟨⟨#[]⟩, [], 0, lives07B⟩
theorem lives07_small : Small lives07Fn := by
  refine ⟨by decide, by decide, fun x hx => ?_⟩
  have h : ∀ x, x ∈ lives07B → x.length ≤ 2000000 ∧ ∀ i, i ∈ x → i.args.length ≤ 2000000 ∧ i.to.length ≤ 2000000 := by decide
  exact h x hx
def tabD (sc : Int → List Int) (k : Nat) (a b : Nat) : Bool := (growL sc (-1) k [0]).contains (a : Int) && (growL sc (-1) k [0]).contains (b : Int) && !(growL sc a k (startL a)).contains (b : Int)
theorem tabD_ok {sc : Int → List Int} {o : List Int} {n k : Nat} (hn : 0 < n) (hs : ∀ b, SuccOk n (sc b)) (O : OrderOk n sc o) (h0 : closedB sc (-1) (growL sc (-1) k [0]) = true) (h : (List.range n).all (fun (a : Nat) => closedB sc a (growL sc a k (startL a))) = true) : TabOk sc o n (tabD sc k) := fun a b ha hb => by
  have e : ∀ x : Nat, (growL sc (-1) k [0]).contains (x : Int) = decide ((x : Int) ∈ o) := fun x => by
    rw [Bool.eq_iff_iff, List.contains_iff_mem, decide_eq_true_eq, O.mem, ← rchW_all hs]
    exact ⟨fun h => ⟨hn, grow_sound k _ (fun y hy => by rw [List.mem_singleton.1 hy]; exact .start (by decide)) _ h⟩, fun h => closed_all h0 _ h.2⟩
  have := tabC_ok (o := o) h a b ha hb
  unfold tabC at this
  unfold tabD
  rw [e a, e b]
  simpa only [List.elem_eq_contains, List.contains_eq_mem] using this
set_option maxRecDepth 100000 in
theorem lives07_tab : TabOk (succsF lives07B) (orderF lives07B) 7 (tabD (succsF lives07B) 7) := tabD_ok (by decide) (succsF_ok lives07B) (order_ok lives07B) (by decide +kernel) (by decide +kernel)
theorem lives07_idom {l : List Int} (I : IdomOk (succsF lives07B) (orderF lives07B) 7 l) : l = [-1, 0, 0, 0, 2, 0, -1] := by
  rw [I.eq (order_ok lives07B) lives07_tab]
  decide +kernel
theorem lives07_24 : domB (succsF lives07B) (orderF lives07B) 2 4 = true := domB_iff.2 ((lives07_tab 2 4 (by decide) (by decide)).1 (by decide +kernel))
theorem lives07_13 : domB (succsF lives07B) (orderF lives07B) 1 3 = false := by
  rw [← Bool.not_eq_true]
  intro h
  have h2 : tabD (succsF lives07B) 7 1 3 = true := (lives07_tab 1 3 (by decide) (by decide)).2 (domB_iff.1 h)
  exact absurd h2 (by decide +kernel)
def long7F (f : Fun) : Bool := decide (40 < f.blocks.length) || longF f
theorem long7F_le {f : Fun} (h : long7F f = false) : f.blocks.length ≤ 40 := by
  unfold long7F at h
  simp only [Bool.or_eq_false_iff, decide_eq_false_iff_not] at h
  omega
end Go.Proofs.Yteeclobpajalmaa
