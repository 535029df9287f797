/- The reference of layer 1: power, fits, walked. No condition. -/
import Derived.Test.YtmcleghbpdenlaaBrB
import Derived.Deep.LoopGhost
namespace Go.Proofs.Ytmcleghbpdenlaa
open Go.RowKit
set_option linter.unusedSimpArgs false
set_option linter.unusedVariables false

theorem pw_next {k : Nat} (h : (k : Int) < 63) : pw (k : Int) * 2 = pw ((k + 1 : Nat) : Int) := by
  have := pw_succ (a := (k : Int)) (by omega)
  rw [show ((k + 1 : Nat) : Int) = (k : Int) + 1 by omega, this, Int.mul_comm]
/-- power -/
theorem rpower_any (n : Int) (W : World) (h0 : 0 ≤ n) (h1 : n ≤ 63) : Calls Try.prog 70 #[.int .u64 n] W fun e w' => e = .returned (big (pw n)).v ∧ Below W.heap.size W w' := by
  have hle := pw_le63 h0 h1
  have hp := pw_pos n
  have e0 : Hid (big (pw n) = ⟨0, pw n, false⟩) := hide (big_0 (by omega) (by omega))
  clear hle hp
  have p0 : Hid (pw ((0 : Nat) : Int) = 1) := hide pw_0
  go_enter Try.func70, Try.ntmps70
  go_wp2
  have s0 : Hid (∀ o1 o2 : Obj, ((W.alloc o1).alloc o2).heap[W.heap.size]? = some o1) := hide (fun o1 o2 => box_under W o1 o2)
  have s1 : Hid (∀ o1 o2 : Obj, ((W.alloc o1).alloc o2).heap[W.heap.size + 1]? = some o2) := hide (fun o1 o2 => by have := box_top (W.alloc o1) o2; simpa using this)
  go_loopw [4] (fun i wr => ∃ k : Nat, (k : Int) ≤ n ∧ i = .int .u64 k ∧ Hid (wr.heap[W.heap.size]? = some (.cells #[.int .u64 0, .int .u64 0, .bool false] 71 (0, 0))) ∧ Hid (wr.heap[W.heap.size + 1]? = some (.cells #[.int .u64 0, .int .u64 (pw k), .bool false] 71 (0, 0))) ∧ Hid (Below W.heap.size W wr)) (fun i _ => (n - intOf i).toNat)
  case atStart => exact ⟨0, by omega, rfl, hide (s0.out _ _), hide (by rw [p0.out]; exact s1.out _ _), hide (((Below.refl _ _).alloc (Nat.le_refl _) _).alloc (by simp) _)⟩
  case round =>
    obtain ⟨k, hk, rfl, b0, b1, hbel⟩ := hrel
    obtain ⟨⟨x0, x1, x2⟩, ⟨x3, x4, x5⟩⟩ := cells3 b0.out
    obtain ⟨⟨y0, y1, y2⟩, ⟨y3, y4, y5⟩⟩ := cells3 b1.out
    by_cases hlt : (k : Int) < n
    · have hpk := hide (pw_next (k := k) (by omega))
      have hu : IntKind.u64.wrap (pw (k : Int) * 2) = pw ((k + 1 : Nat) : Int) := by
        rw [hpk.out, wrap_u]
        have := pw_le63 (w := ((k + 1 : Nat) : Int)) (by omega) (by omega)
        have := pw_pos ((k + 1 : Nat) : Int)
        omega
      go_wp2
      go_roundw
      case rel =>
        refine ⟨k + 1, by omega, by go_num, hide (set_far b0.out (by omega)), hide ?_, hide (hbel.out.setCell (by show W.heap.size ≤ W.heap.size + 1; omega) _)⟩
        have := set_heap (j := 1) (v := .int .u64 (pw ((k + 1 : Nat) : Int))) b1.out
        simpa using this
      case measure => simp [intOf]; omega
    · obtain rfl : n = (k : Int) := by omega
      go_wp2
      refine bodyPost_ret (v := (Big.mk 0 (pw (k : Int)) false).v) (by simp [results, Try.results70, go_sem, x0, x1, x2, x3, x4, x5]) rfl ⟨by rw [e0.out], ?_⟩
      exact ((hbel.out.setCell (by show W.heap.size ≤ W.heap.size; omega) _).setCell (by show W.heap.size ≤ W.heap.size; omega) _).setCell (by show W.heap.size ≤ W.heap.size; omega) _

theorem big_ext {a b : Big} (h1 : a.hi = b.hi) (h2 : a.lo = b.lo) (h3 : a.below = b.below) : a = b := by
  cases a; cases b
  simp only at h1 h2 h3
  subst h1 h2 h3
  rfl
theorem rfits_sign (w t : Int) (W : World) (h1 : 1 ≤ w) (h2 : w ≤ 64) : Calls Try.prog 66 #[.int .i64 w, (big t).v, .bool true] W fun e w' => e = .returned (.bool (inR (pw w) t)) ∧ Below W.heap.size W w' := by
  have hp := pw_pos w
  have hle := pw_le (w := w) (by omega) h2
  have m0 := Int.emod_nonneg t (show pw w ≠ 0 by omega)
  have m1 := Int.emod_lt_of_pos t (show 0 < pw w by omega)
  have hm : Hid (0 ≤ t % pw w ∧ t % pw w ≤ 18446744073709551615) := hide (by omega)
  have hf := hide (fits_sign (t := t) h1 h2)
  clear hp hle m0 m1
  go_enter Try.func66, Try.ntmps66
  go_wp2_with fail
  refine (rwrapped_any w t _ h1 h2).mono ?_; rintro e w1 ⟨rfl, hb1⟩
  have q0 : w1.heap[W.heap.size]? = some (.cells #[.int .u64 (big t).hi, .int .u64 (big t).lo, .bool (big t).below] 71 (0, 0)) := (hb1.block _ (by simp)).trans (box_top W _)
  have hz1 : W.heap.size < w1.heap.size := by have := hb1.size; simp at this; omega
  have hb1' := hide (under1 hb1)
  clear hb1
  replace q0 := hide q0
  go_wp2_with fail
  refine (rwith_any w (t % pw w) _ h1 h2 hm.out).mono ?_; rintro e w2 ⟨rfl, hb2⟩
  obtain ⟨⟨x0, x1, x2⟩, _⟩ := cells3 ((hb2.block _ hz1).trans q0.out)
  have hb2' := hide (hb1'.out.trans (hb2.mono (by omega)))
  have hz2 : W.heap.size < w2.heap.size := by have := hb2.size; omega
  clear hb2
  go_wp2
  all_goals go_ret
  all_goals
    refine ⟨ret_bool ?_, hb2'.out.alloc (by omega) _⟩
    rw [← hf.out]
    symm
    first
      | (rename_i e1 e2 e3; exact decide_eq_true (big_ext e1 e2 (by simpa using e3)))
      | (rename_i n; exact decide_eq_false (fun h => by first | exact n (by rw [h]) | (rw [h] at n; simp at n)))
theorem rfits_plain (w t : Int) (W : World) (h1 : 1 ≤ w) (h2 : w ≤ 64) : Calls Try.prog 66 #[.int .i64 w, (big t).v, .bool false] W fun e w' => e = .returned (.bool (!outU (pw w) t)) ∧ Below W.heap.size W w' := by
  have hp := pw_pos w
  have hle := pw_le (w := w) (by omega) h2
  have m0 := Int.emod_nonneg t (show pw w ≠ 0 by omega)
  have m1 := Int.emod_lt_of_pos t (show 0 < pw w by omega)
  have hm : Hid (0 ≤ t % pw w ∧ t % pw w ≤ 18446744073709551615) := hide (by omega)
  have hf := hide (fits_plain (w := w) (t := t))
  clear hp hle m0 m1
  go_enter Try.func66, Try.ntmps66
  go_wp2_with fail
  refine (rwrapped_any w t _ h1 h2).mono ?_; rintro e w1 ⟨rfl, hb1⟩
  have q0 : w1.heap[W.heap.size]? = some (.cells #[.int .u64 (big t).hi, .int .u64 (big t).lo, .bool (big t).below] 71 (0, 0)) := (hb1.block _ (by simp)).trans (box_top W _)
  have hz1 : W.heap.size < w1.heap.size := by have := hb1.size; simp at this; omega
  have hb1' := hide (under1 hb1)
  clear hb1
  replace q0 := hide q0
  go_wp2_with fail
  refine (rplain_any w (t % pw w) _ h1 h2 hm.out).mono ?_; rintro e w2 ⟨rfl, hb2⟩
  obtain ⟨⟨x0, x1, x2⟩, _⟩ := cells3 ((hb2.block _ hz1).trans q0.out)
  have hb2' := hide (hb1'.out.trans (hb2.mono (by omega)))
  have hz2 : W.heap.size < w2.heap.size := by have := hb2.size; omega
  clear hb2
  go_wp2
  all_goals go_ret
  all_goals
    refine ⟨ret_bool ?_, hb2'.out.alloc (by omega) _⟩
    rw [← hf.out]
    symm
    first
      | (rename_i e1 e2 e3; exact decide_eq_true (big_ext e1 e2 (by simpa using e3)))
      | (rename_i n; exact decide_eq_false (fun h => by first | exact n (by rw [h]) | (rw [h] at n; simp at n)))
end Go.Proofs.Ytmcleghbpdenlaa
