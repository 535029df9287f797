/- latheref02.Ints. No condition. -/
import Derived.Test.YtkhlnopbgngjbaaIrP
namespace Go.Proofs.Ytkhlnopbgngjbaa
open Go.RowKit

theorem take_next {a b : List Int} {k : Nat} {x : Int} (h : a.take k = b.take k) (ha : a[k]? = some x) (hb : b[k]? = some x) : a.take (k + 1) = b.take (k + 1) := by
  rw [take_snoc ha, take_snoc hb, h]

theorem ints_ne {a b : List Int} {k : Nat} {x y : Int} (h : x ≠ y) (ha : a[k]? = some x) (hb : b[k]? = some y) : (a == b) = false := by
  rw [beq_eq_false_iff_ne]
  rintro rfl
  rw [ha] at hb
  exact h (Option.some.inj hb)

theorem ints_full {a b : List Int} {k : Nat} (hl : a.length = b.length) (hk : a.length ≤ k) (h : a.take k = b.take k) : (a == b) = true := by
  rw [beq_iff_eq]
  rwa [List.take_of_length_le hk, List.take_of_length_le (hl ▸ hk)] at h

set_option maxHeartbeats 800000 in
theorem rints_any (u v : Value) (a b : List Int) (w : World) (B : Nat) (hB : B ≤ w.heap.size) (ha : RInts.rep w B [u] a) (hb : RInts.rep w B [v] b) :
    Calls Try.prog 31 #[u, v] w fun e w' => e = .returned (.bool (a == b)) ∧ Below w.heap.size w w' := by
  obtain ⟨A1, c1, h1, hm1, ga⟩ := Rp.slice1_open (RInts.later ha (Below.refl _ _) hB)
  obtain ⟨A2, c2, h2, hm2, gb⟩ := Rp.slice1_open (RInts.later hb (Below.refl _ _) hB)
  clear ha hb
  cases h1; cases h2
  replace ga := hide ga
  replace gb := hide gb
  have hww := Nat.le_refl w.heap.size
  have hself := Below.refl w.heap.size w
  by_cases hl : a.length = b.length
  case neg =>
    go_enter Try.func31, Try.ntmps31
    have hne : ((a.length : Int) == (b.length : Int)) = false := by rw [beq_eq_false_iff_ne]; omega
    go_wp2
    go_ret
    exact ⟨ret_bool (by symm; rw [beq_eq_false_iff_ne]; rintro rfl; exact hl rfl), hself⟩
  have heq : ((a.length : Int) == (b.length : Int)) = true := by rw [beq_iff_eq]; omega
  go_enter Try.func31, Try.ntmps31
  go_wp2
  clear heq
  replace hl := hide hl
  go_loopw [5] (fun i wr => ∃ k : Nat, k ≤ a.length ∧ i = .int .i64 k ∧ Hid (a.take k = b.take k) ∧ Below w.heap.size w wr) (fun i _ => a.length - (intOf i).toNat)
  case atStart => exact ⟨0, Nat.zero_le _, rfl, hide rfl, hself⟩
  case round =>
    obtain ⟨k, hk, rfl, hall, hbel⟩ := hrel
    by_cases hlt : k < a.length
    · have hlt2 : k < b.length := by have := hl.out; omega
      obtain ⟨b1, o1, rfl, he1⟩ := ga.out (by omega)
      obtain ⟨b2, o2, rfl, he2⟩ := gb.out (by omega)
      obtain ⟨x, hx⟩ := get_ex hlt
      obtain ⟨y, hy⟩ := get_ex hlt2
      obtain ⟨_, ⟨hr1, _⟩, p0⟩ := he1 k x hx.out
      obtain ⟨_, ⟨hr2, _⟩, q0⟩ := he2 k y hy.out
      cases hr1; cases hr2
      clear he1 he2
      cases hxy : (x == y) with
      | false =>
        go_wp2
        go_quiet (fail)
        go_wp2
        go_ret
        exact ⟨ret_bool (ints_ne (by simpa using hxy) hx.out hy.out).symm, hbel.trans (below_drewN (Below.refl _ _) _)⟩
      | true =>
        go_wp2
        go_quiet (fail)
        go_wp2
        go_roundw
        case rel =>
          cases eq_of_beq hxy
          exact ⟨k + 1, hlt, by go_num, hide (take_next hall.out hx.out hy.out), hbel.trans (below_drewN (Below.refl _ _) _)⟩
        case measure => simp [intOf]; omega
    · go_wp2
      go_ret
      exact ⟨ret_bool (ints_full hl.out (by omega) hall.out).symm, hbel⟩

end Go.Proofs.Ytkhlnopbgngjbaa
