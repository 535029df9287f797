/- slices.Clone of numbers and of operands. No condition but sizes. -/
import Derived.Test.YtidjaohlaljmpaaIrX
import Derived.Lib.SliceRun
namespace Go.Proofs.Ytidjaohlaljmpaa
open Go.RowKit
set_option linter.unusedSimpArgs false
set_option linter.unusedVariables false

def CloneIPost (l : List Int) (w : World) (e : Ending) (w' : World) : Prop := ∃ v, e = .returned v ∧ OwnI w' w.heap.size v l ∧ Below w.heap.size w w'
def CloneVPost (l : List Opd) (w : World) (e : Ending) (w' : World) : Prop := ∃ v, e = .returned v ∧ OwnV w' w.heap.size v l ∧ Below w.heap.size w w'
set_option maxRecDepth 100000 in
theorem clone_nums (v : Value) (l : List Int) (w : World) (hr : RInts.rep w w.heap.size [v] l) (hl : l.length ≤ 2000000) :
    Calls Try.prog 39 #[v] w (CloneIPost l w) := by
  obtain ⟨A, cap, hv, hl9, -⟩ := Rp.slice1_open hr
  cases hv
  obtain ⟨-, hn, hok, hs⟩ := ints_src hr
  obtain ⟨n, hnl⟩ : ∃ n, Hid (n = l.length) := ⟨_, hide rfl⟩
  rw [← hnl.out] at hl hn ⊢
  obtain ⟨i0, hi0, hz0, hz1, hz2⟩ := cinfo_parts cinfo_int
  replace hi0 := hide hi0
  replace hz0 := hide hz0
  replace hz1 := hide hz1
  replace hz2 := hide hz2
  replace hok := hide hok
  replace hn := hide hn
  have hb0 := (Below.refl w.heap.size w).alloc (Nat.le_refl _) (.cells #[] 3)
  have hsrc := hide (hs _ hb0)
  have hown0 := hide (World.ownsRow_lit (base := w.heap.size) (e := 3) (size := 1) w #[] 0 (Nat.le_refl _) (Nat.zero_le _) rfl)
  replace hb0 := hide hb0
  clear hs hr
  cases A with
  | none =>
    have hl0 : l = [] := List.eq_nil_of_length_eq_zero (by have := hn.out rfl; have := hnl.out; omega)
    have hnil : ∀ w' : World, (binOp .eql 22 (.slice none n cap) (.slice none 0 0)).run Try.prog w' = .ok (.bool true) w' := fun w' => Lib.run_eql_slice_nil w' _ _ _ _ _ _ _ Try.underlying22
    replace hl0 := hide hl0
    go_enter Try.func39, Try.ntmps39
    go_wp2
    go_ret
    exact ⟨_, rfl, by rw [hl0.out]; exact OwnI.nil_, Below.refl _ _⟩
  | some ad =>
    have hnil : ∀ w' : World, (binOp .eql 22 (.slice (some ad) n cap) (.slice none 0 0)).run Try.prog w' = .ok (.bool false) w' := fun w' => Lib.run_eql_slice_nil w' _ _ _ _ _ _ _ Try.underlying22
    go_enter Try.func39, Try.ntmps39
    go_wp2_with (at_builtin; refine wpList_append_any _ rfl (.tmp 5) (.tmp 6) _ rfl w.heap.size 3 i0 _ 1 8 Try.underlying22 hi0.out hz0.out hz1.out hz2.out rfl (by omega) (.slice (some ⟨w.heap.size, 0, none⟩) 0 0) 0 [] rfl hown0.out (some ad) n cap (l.map fun z => Value.int .i64 z) rfl (by rw [List.length_map, ← hnl.out]; omega) (fun e => by cases e) hsrc.out (ints_one _) (by unfold maxLen; omega) (by omega) (by simp) ?_; intro v1 Y hownY hgY; replace hownY := hide hownY; replace hgY := hide hgY)
    go_wp2
    go_ret
    refine ⟨v1, rfl, ⟨?_, hok.out⟩, hb0.out.grown hgY.out (by simp) (fun k hk => by simp [Value.ownBlock] at hk; omega)⟩
    have := hownY.out
    rw [Nat.zero_add, List.nil_append, hnl.out] at this
    exact this
end Go.Proofs.Ytidjaohlaljmpaa
