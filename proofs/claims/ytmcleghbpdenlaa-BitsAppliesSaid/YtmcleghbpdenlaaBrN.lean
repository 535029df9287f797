/- The reference of layer 1: Apply, walked. No condition. -/
import Derived.Test.YtmcleghbpdenlaaBrE
import Derived.Test.YtmcleghbpdenlaaBrH
import Derived.Test.YtmcleghbpdenlaaBrK
import Derived.Test.YtmcleghbpdenlaaBrM
import Derived.Test.YtmcleghbpdenlaaBmF
namespace Go.Proofs.Ytmcleghbpdenlaa
open Go.RowKit
set_option linter.unusedSimpArgs false
set_option linter.unusedVariables false

set_option maxRecDepth 100000 in
set_option maxHeartbeats 2000000 in
theorem rapply_no (op w f a b : Int) (W : World) (h : w < 1 ∨ 64 < w ∨ op < 1 ∨ 19 < op ∨ badF op f = true) :
    Calls Try.prog 28 #[.int .i64 op, .int .i64 w, .int .i64 f, .int .u64 a, .int .u64 b] W fun e w' => e = .returned (pairV (applyS op w f a b)) ∧ Below W.heap.size W w' := by
  have e0 : Hid (applyS op w f a b = (0, 3)) := hide (applyS_no h)
  by_cases g0 : w < 1 ∨ 64 < w
  · have hb := hide (wok_no g0)
    go_enter Try.func28, Try.ntmps28
    go_wp2_with (go_at_call 50; refine (rwidth_b w false _ hb.out).mono ?_; rintro e w' ⟨rfl, rfl⟩)
    go_ret2
    exact ⟨ret_pair e0.out, Below.refl _ _⟩
  · have hb := hide (wok_yes (w := w) (by omega) (by omega))
    replace h : op < 1 ∨ 19 < op ∨ badF op f = true := by
      rcases h with h | h | h
      · exact absurd (.inl h) g0
      · exact absurd (.inr h) g0
      · exact h
    clear g0
    by_cases g1 : op < 1
    · go_enter Try.func28, Try.ntmps28
      go_wp2_with (go_at_call 50; refine (rwidth_b w true _ hb.out).mono ?_; rintro e w' ⟨rfl, rfl⟩)
      go_ret2
      exact ⟨ret_pair e0.out, Below.refl _ _⟩
    · by_cases g2 : 19 < op
      · go_enter Try.func28, Try.ntmps28
        go_wp2_with (go_at_call 50; refine (rwidth_b w true _ hb.out).mono ?_; rintro e w' ⟨rfl, rfl⟩)
        go_ret2
        exact ⟨ret_pair e0.out, Below.refl _ _⟩
      · have g3 : (bits .andNot .i64 f (flagsOf op) != 0) = true := by
          rcases h with h | h | h
          · exact absurd h g1
          · exact absurd h g2
          · exact h
        clear h
        go_enter Try.func28, Try.ntmps28
        go_wp2_with (first | (go_at_call 50; refine (rwidth_b w true _ hb.out).mono ?_; rintro e w' ⟨rfl, rfl⟩) | (go_at_call 30; refine (rflags_any op _).mono ?_; rintro e w' ⟨rfl, rfl⟩))
        go_ret2
        exact ⟨ret_pair e0.out, Below.refl _ _⟩
set_option maxRecDepth 100000 in
set_option maxHeartbeats 8000000 in
theorem rapply_call (F : Nat) (op w f a b r1 r2 : Int) (W : World) (h1 : 1 ≤ w) (h2 : w ≤ 64) (hf : badF op f = false)
    (hop : ((op = 1 ∨ op = 2 ∨ op = 3 ∨ op = 11) ∧ F = 51) ∨ ((op = 4 ∨ op = 5 ∨ op = 6 ∨ op = 7) ∧ F = 52) ∨ ((op = 12 ∨ op = 13) ∧ F = 54))
    (hr : applyS op w f a b = (r1, r2))
    (hc : ∀ W', Calls Try.prog F #[.int .i64 op, .int .i64 w, .int .i64 f, .int .u64 a, .int .u64 b] W' fun e w' => e = .returned (.tuple #[.int .u64 r1, .int .i64 r2]) ∧ Below W'.heap.size W' w') :
    Calls Try.prog 28 #[.int .i64 op, .int .i64 w, .int .i64 f, .int .u64 a, .int .u64 b] W fun e w' => e = .returned (pairV (applyS op w f a b)) ∧ Below W.heap.size W w' := by
  have hb := hide (wok_yes h1 h2)
  have hf' : (bits .andNot .i64 f (flagsOf op) != 0) = false := hf
  replace hc := hide hc
  replace hr := hide hr
  clear hf
  rcases hop with ⟨o, rfl⟩ | ⟨o, rfl⟩ | ⟨o, rfl⟩
  · rcases o with rfl | rfl | rfl | rfl
    all_goals
      go_enter Try.func28, Try.ntmps28
      go_wp2_with (first | (go_at_call 50; refine (rwidth_b w true _ hb.out).mono ?_; rintro e w' ⟨rfl, rfl⟩) | (go_at_call 30; refine (rflags_any _ _).mono ?_; rintro e w' ⟨rfl, rfl⟩) | (go_at_call 51; refine (hc.out _).mono ?_; rintro e w1 ⟨rfl, hb1⟩))
      go_ret2
      exact ⟨ret_pair hr.out, by assumption⟩
  · rcases o with rfl | rfl | rfl | rfl
    all_goals
      go_enter Try.func28, Try.ntmps28
      go_wp2_with (first | (go_at_call 50; refine (rwidth_b w true _ hb.out).mono ?_; rintro e w' ⟨rfl, rfl⟩) | (go_at_call 30; refine (rflags_any _ _).mono ?_; rintro e w' ⟨rfl, rfl⟩) | (go_at_call 52; refine (hc.out _).mono ?_; rintro e w1 ⟨rfl, hb1⟩))
      go_ret2
      exact ⟨ret_pair hr.out, by assumption⟩
  · rcases o with rfl | rfl
    all_goals
      go_enter Try.func28, Try.ntmps28
      go_wp2_with (first | (go_at_call 50; refine (rwidth_b w true _ hb.out).mono ?_; rintro e w' ⟨rfl, rfl⟩) | (go_at_call 30; refine (rflags_any _ _).mono ?_; rintro e w' ⟨rfl, rfl⟩) | (go_at_call 54; refine (hc.out _).mono ?_; rintro e w1 ⟨rfl, hb1⟩))
      go_ret2
      exact ⟨ret_pair hr.out, by assumption⟩
theorem opS_log {op w M A B : Int} {n m e : Bool} (hop : op = 8 ∨ op = 9 ∨ op = 10) : opS op w M A B n m e = (logV op A B, 0) := by
  unfold opS
  rw [if_neg (by omega), if_neg (by omega), if_pos (by omega)]
theorem opS_cmp {op w M A B : Int} {n m e : Bool} (hop : 14 ≤ op) : opS op w M A B n m e = (if cmpB op M A B = true then 1 else 0, 0) := by
  unfold opS
  rw [if_neg (by omega), if_neg (by omega), if_neg (by omega), if_neg (by omega)]
set_option maxRecDepth 100000 in
set_option maxHeartbeats 8000000 in
theorem rapply_log (op w f a b : Int) (W : World) (h1 : 1 ≤ w) (h2 : w ≤ 64) (hf : badF op f = false) (ha : 0 ≤ a ∧ a ≤ 18446744073709551615) (hb : 0 ≤ b ∧ b ≤ 18446744073709551615) (hop : op = 8 ∨ op = 9 ∨ op = 10) :
    Calls Try.prog 28 #[.int .i64 op, .int .i64 w, .int .i64 f, .int .u64 a, .int .u64 b] W fun e w' => e = .returned (pairV (applyS op w f a b)) ∧ Below W.heap.size W w' := by
  have hk := hide (wok_yes h1 h2)
  have hr := hide ((applyS_yes (op := op) (w := w) (f := f) (a := a) (b := b) h1 h2 (by omega) (by omega) hf).trans (opS_log hop))
  have hc : Hid (∀ W, Calls Try.prog 53 #[.int .i64 op, .int .i64 w, .int .u64 a, .int .u64 b] W fun e w' => e = .returned (.int .u64 (logV op (a % pw w) (b % pw w))) ∧ W = w') := hide (fun W => rbitwise_any op w a b W h1 h2 ha hb hop)
  have hf' : (bits .andNot .i64 f (flagsOf op) != 0) = false := hf
  obtain ⟨v, hv⟩ : ∃ v, logV op (a % pw w) (b % pw w) = v := ⟨_, rfl⟩
  rw [hv] at hr hc
  clear hf hv
  rcases hop with rfl | rfl | rfl
  all_goals
    go_enter Try.func28, Try.ntmps28
    go_wp2_with (first | (go_at_call 50; refine (rwidth_b w true _ hk.out).mono ?_; rintro e w' ⟨rfl, rfl⟩) | (go_at_call 30; refine (rflags_any _ _).mono ?_; rintro e w' ⟨rfl, rfl⟩) | (go_at_call 53; refine (hc.out _).mono ?_; rintro e w' ⟨rfl, rfl⟩))
    go_ret2
    exact ⟨ret_pair hr.out, Below.refl _ _⟩
set_option maxRecDepth 100000 in
set_option maxHeartbeats 8000000 in
theorem rapply_cmp (op w f a b : Int) (W : World) (h1 : 1 ≤ w) (h2 : w ≤ 64) (hf : badF op f = false) (ha : 0 ≤ a ∧ a ≤ 18446744073709551615) (hb : 0 ≤ b ∧ b ≤ 18446744073709551615) (hop : op = 14 ∨ op = 15 ∨ op = 16 ∨ op = 17 ∨ op = 18 ∨ op = 19) :
    Calls Try.prog 28 #[.int .i64 op, .int .i64 w, .int .i64 f, .int .u64 a, .int .u64 b] W fun e w' => e = .returned (pairV (applyS op w f a b)) ∧ Below W.heap.size W w' := by
  have hk := hide (wok_yes h1 h2)
  have hr := hide ((applyS_yes (op := op) (w := w) (f := f) (a := a) (b := b) h1 h2 (by omega) (by omega) hf).trans (opS_cmp (by omega)))
  have hc : Hid (∀ W, Calls Try.prog 55 #[.int .i64 op, .int .i64 w, .int .u64 a, .int .u64 b] W fun e w' => e = .returned (.bool (cmpB op (pw w) (a % pw w) (b % pw w))) ∧ Below W.heap.size W w') := hide (fun W => rcomp_any op w a b W h1 h2 ha hb (by omega))
  have hf' : (bits .andNot .i64 f (flagsOf op) != 0) = false := hf
  obtain ⟨v, hv⟩ : ∃ v, cmpB op (pw w) (a % pw w) (b % pw w) = v := ⟨_, rfl⟩
  rw [hv] at hr hc
  clear hf hv
  cases v
  · have hr' : Hid (applyS op w f a b = (0, 0)) := hide (by have := hr.out; simpa using this)
    rcases hop with rfl | rfl | rfl | rfl | rfl | rfl
    all_goals
      go_enter Try.func28, Try.ntmps28
      go_wp2_with (first | (go_at_call 50; refine (rwidth_b w true _ hk.out).mono ?_; rintro e w' ⟨rfl, rfl⟩) | (go_at_call 30; refine (rflags_any _ _).mono ?_; rintro e w' ⟨rfl, rfl⟩) | (go_at_call 55; refine (hc.out _).mono ?_; rintro e w1 ⟨rfl, hb1⟩))
      go_ret2
      exact ⟨ret_pair hr'.out, by assumption⟩
  · have hr' : Hid (applyS op w f a b = (1, 0)) := hide (by have := hr.out; simpa using this)
    rcases hop with rfl | rfl | rfl | rfl | rfl | rfl
    all_goals
      go_enter Try.func28, Try.ntmps28
      go_wp2_with (first | (go_at_call 50; refine (rwidth_b w true _ hk.out).mono ?_; rintro e w' ⟨rfl, rfl⟩) | (go_at_call 30; refine (rflags_any _ _).mono ?_; rintro e w' ⟨rfl, rfl⟩) | (go_at_call 55; refine (hc.out _).mono ?_; rintro e w1 ⟨rfl, hb1⟩))
      go_ret2
      exact ⟨ret_pair hr'.out, by assumption⟩
end Go.Proofs.Ytmcleghbpdenlaa
