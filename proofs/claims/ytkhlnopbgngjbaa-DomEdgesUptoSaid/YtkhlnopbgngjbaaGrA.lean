/- slices.Index and slices.Contains at int. No condition. -/
import Derived.Test.YtkhlnopbgngjbaaIrU
import Derived.Test.YtkhlnopbgngjbaaGrD
namespace Go.Proofs.Ytkhlnopbgngjbaa
open Go.RowKit
set_option linter.unusedSimpArgs false
set_option linter.unusedVariables false

def IndexPost (l : List Int) (t : Int) (w : World) (e : Ending) (w' : World) : Prop := ∃ r : Int, e = .returned (.int .i64 r) ∧ (0 ≤ r ↔ t ∈ l) ∧ Below w.heap.size w w'
set_option maxHeartbeats 800000 in
theorem index_any (u : Value) (l : List Int) (t : Int) (w : World) (B : Nat) (hB : B ≤ w.heap.size) (ha : RInts.rep w B [u] l) :
    Calls Try.prog 91 #[u, .int .i64 t] w (IndexPost l t w) := by
  obtain ⟨A1, c1, h1, hm1, ga⟩ := Rp.slice1_open (RInts.later ha (Below.refl _ _) hB)
  cases h1
  replace ga := hide ga
  have hself := Below.refl w.heap.size w
  go_enter Try.func91, Try.ntmps91
  go_wp2
  go_loopw [8] (fun i wr => ∃ k : Nat, k ≤ l.length ∧ i = .int .i64 k ∧ Hid (t ∉ l.take k) ∧ Below w.heap.size w wr) (fun i _ => l.length - (intOf i).toNat)
  case atStart => exact ⟨0, Nat.zero_le _, rfl, hide (by simp), hself⟩
  case round =>
    obtain ⟨k, hk, rfl, hall, hbel⟩ := hrel
    by_cases hlt : k < l.length
    · obtain ⟨b1, o1, rfl, he1⟩ := ga.out (by omega)
      obtain ⟨x, hx⟩ := get_ex hlt
      obtain ⟨_, ⟨hr1, _⟩, p0⟩ := he1 k x hx.out
      cases hr1
      clear he1
      cases hxy : (t == x) with
      | true =>
        have hin : Hid (t ∈ l) := hide (by rw [eq_of_beq hxy]; exact List.mem_of_getElem? hx.out)
        go_wp2
        go_ret
        exact ⟨_, rfl, ⟨fun _ => hin.out, fun _ => by omega⟩, hbel⟩
      | false =>
        have hin : Hid (t ∉ l.take (k + 1)) := hide (by
          rw [take_snoc hx.out]
          intro h
          rcases List.mem_append.1 h with h | h
          · exact hall.out h
          · rw [List.mem_singleton.1 h] at hxy; simp at hxy)
        go_wp2
        go_roundw
        case rel => exact ⟨k + 1, hlt, by go_num, hin, hbel⟩
        case measure => simp [intOf]; omega
    · go_wp2
      go_ret
      exact ⟨_, rfl, ⟨fun h => by omega, fun h => (hall.out (by rwa [List.take_of_length_le (by omega)])).elim⟩, hbel⟩
set_option maxHeartbeats 800000 in
theorem contains_any (u : Value) (l : List Int) (t : Int) (w : World) (B : Nat) (hB : B ≤ w.heap.size) (ha : RInts.rep w B [u] l) :
    Calls Try.prog 64 #[u, .int .i64 t] w fun e w' => e = .returned (.bool (decide (t ∈ l))) ∧ Below w.heap.size w w' := by
  go_enter Try.func64, Try.ntmps64
  go_wp2_with fail
  refine (index_any u l t w B hB ha).mono ?_
  rintro e w1 ⟨r, rfl, hr, hb⟩
  replace hr := hide hr
  go_wp2
  go_ret
  exact ⟨ret_bool (by rw [Bool.eq_iff_iff]; simp [← hr.out]), hb⟩
end Go.Proofs.Ytkhlnopbgngjbaa
