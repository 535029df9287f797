/- The reference of layer 1: Apply, whole; BitsApplies. No condition. -/
import Derived.Test.YtmcleghbpdenlaaBrN
import Derived.Test.YtmcleghbpdenlaaBlB
namespace Go.Proofs.Ytmcleghbpdenlaa
open Go.RowKit
set_option linter.unusedSimpArgs false
set_option linter.unusedVariables false

theorem flagsOf_four {op : Int} (h : op = 4 ∨ op = 5 ∨ op = 12 ∨ op = 13) : flagsOf op = 4 := by
  unfold flagsOf
  rw [if_neg (by omega), if_pos (by omega)]
theorem exa_four {op f : Int} (hr : -9223372036854775808 ≤ f ∧ f ≤ 9223372036854775807) (hf : badF op f = false) (h : op = 4 ∨ op = 5 ∨ op = 12 ∨ op = 13) : exa f = (f == 4) := by
  refine bad_four hr ?_
  rw [← flagsOf_four h]
  exact hf
theorem rapply_any (op w f a b : Int) (W : World) (hr : -9223372036854775808 ≤ f ∧ f ≤ 9223372036854775807) (ha : 0 ≤ a ∧ a ≤ 18446744073709551615) (hb : 0 ≤ b ∧ b ≤ 18446744073709551615) :
    Calls Try.prog 28 #[.int .i64 op, .int .i64 w, .int .i64 f, .int .u64 a, .int .u64 b] W fun e w' => e = .returned (pairV (applyS op w f a b)) ∧ Below W.heap.size W w' := by
  by_cases g1 : w < 1 ∨ 64 < w
  · exact rapply_no op w f a b W (by rcases g1 with h | h; exact .inl h; exact .inr (.inl h))
  by_cases g2 : op < 1 ∨ 19 < op ∨ badF op f = true
  · exact rapply_no op w f a b W (.inr (.inr g2))
  have hf : badF op f = false := by
    cases h : badF op f
    · rfl
    · exact absurd (.inr (.inr h)) g2
  have o1 : 1 ≤ op := by rcases Int.lt_or_le op 1 with h | h; exact absurd (.inl h) g2; exact h
  have o2 : op ≤ 19 := by rcases Int.lt_or_le 19 op with h | h; exact absurd (.inr (.inl h)) g2; exact h
  have w1 : 1 ≤ w := by omega
  have w2 : w ≤ 64 := by omega
  clear g1 g2
  have hy := applyS_yes (a := a) (b := b) w1 w2 o1 o2 hf
  have o3 : (op = 1 ∨ op = 2 ∨ op = 3 ∨ op = 11) ∨ (op = 4 ∨ op = 5 ∨ op = 6 ∨ op = 7) ∨ (op = 12 ∨ op = 13) ∨ (op = 8 ∨ op = 9 ∨ op = 10) ∨ (op = 14 ∨ op = 15 ∨ op = 16 ∨ op = 17 ∨ op = 18 ∨ op = 19) := by omega
  rcases o3 with o | o | o | o | o
  · exact rapply_call _ op w f a b _ _ W w1 w2 hf (.inl ⟨o, rfl⟩) hy (fun W' => rflagged_any op w f a b W' w1 w2 ha hb o)
  · refine rapply_call _ op w f a b _ _ W w1 w2 hf (.inr (.inl ⟨o, rfl⟩)) hy (fun W' => rdiv_any op w f a b W' w1 w2 ha hb (by omega) ?_)
    rcases o with h | h | h | h
    · exact .inr (.inr (exa_four hr hf (.inl h)))
    · exact .inr (.inr (exa_four hr hf (.inr (.inl h))))
    · exact .inl h
    · exact .inr (.inl h)
  · exact rapply_call _ op w f a b _ _ W w1 w2 hf (.inr (.inr ⟨o, rfl⟩)) hy (fun W' => rright_any op w f a b W' w1 w2 ha hb o (exa_four hr hf (.inr (.inr o))))
  · exact rapply_log op w f a b W w1 w2 hf ha hb o
  · exact rapply_cmp op w f a b W w1 w2 hf ha hb o

set_option maxRecDepth 100000 in
set_option maxHeartbeats 2000000 in
theorem law_applies (op w f a b : Int) (W : World) (hr : -9223372036854775808 ≤ f ∧ f ≤ 9223372036854775807) (ha : 0 ≤ a ∧ a ≤ 18446744073709551615) (hb : 0 ≤ b ∧ b ≤ 18446744073709551615) :
    Calls Try.prog 6 #[.int .i64 op, .int .i64 w, .int .i64 f, .int .u64 a, .int .u64 b] W fun e w' => e = .returned (.bool true) ∧ Below W.heap.size W w' := by
  obtain ⟨x, hx⟩ : ∃ x, (applyS op w f a b).1 = x := ⟨_, rfl⟩
  obtain ⟨y, hy⟩ : ∃ x, (applyS op w f a b).2 = x := ⟨_, rfl⟩
  have c1 : Hid (∀ W, Calls Try.prog 27 #[.int .i64 op, .int .i64 w, .int .i64 f, .int .u64 a, .int .u64 b] W fun e w' => e = .returned (.tuple #[.int .u64 x, .int .i64 y]) ∧ Below W.heap.size W w') := hide (fun W => by
    have := apply_any op w f a b W ha hb
    rw [pairV, hx, hy] at this
    exact this)
  have c2 : Hid (∀ W, Calls Try.prog 28 #[.int .i64 op, .int .i64 w, .int .i64 f, .int .u64 a, .int .u64 b] W fun e w' => e = .returned (.tuple #[.int .u64 x, .int .i64 y]) ∧ Below W.heap.size W w') := hide (fun W => by
    have := rapply_any op w f a b W hr ha hb
    rw [pairV, hx, hy] at this
    exact this)
  clear hx hy
  have t1 : (x == x) = true := beq_self_eq_true x
  have t2 : (y == y) = true := beq_self_eq_true y
  have t3 : (flagsOf op == flagsOf op) = true := beq_self_eq_true _
  replace hr := hide hr
  replace ha := hide ha
  replace hb := hide hb
  have hB := Below.refl W.heap.size W
  go_enter Try.func6, Try.ntmps6
  go_wp2_with fail
  refine (lives_any _).mono ?_; rintro e w1 ⟨rfl, hx⟩
  replace hB := below_next hB (Nat.le_refl _) hx
  clear hx
  go_wp2_with fail
  refine (c1.out _).mono ?_; rintro e w1 ⟨rfl, hx⟩
  replace hB := below_next hB (Nat.le_refl _) hx
  clear hx
  go_wp2_with fail
  refine (c2.out _).mono ?_; rintro e w1 ⟨rfl, hx⟩
  replace hB := below_next hB (Nat.le_refl _) hx
  clear hx
  go_wp2_with (first | (go_at_call 29; refine (flags_any op _).mono ?_; rintro e w' ⟨rfl, rfl⟩) | (go_at_call 30; refine (rflags_any op _).mono ?_; rintro e w' ⟨rfl, rfl⟩))
  go_ret
  exact ⟨rfl, hB⟩
end Go.Proofs.Ytmcleghbpdenlaa
