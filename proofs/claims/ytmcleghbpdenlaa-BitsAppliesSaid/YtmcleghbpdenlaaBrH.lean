/- The reference of layer 1: flagged, walked. No condition. -/
import Derived.Test.YtmcleghbpdenlaaBrG
import Derived.Test.YtmcleghbpdenlaaBwJ
namespace Go.Proofs.Ytmcleghbpdenlaa
open Go.RowKit
set_option linter.unusedSimpArgs false
set_option linter.unusedVariables false

theorem ret_ok2 {a b : Int} {p : Int × Int} (h : p = (a, b)) : Ending.returned (.tuple #[.int .u64 a, .int .i64 b]) = .returned (pairV p) := ret_pair h
theorem flag_law {op w a b f : Int} (hop : op = 1 ∨ op = 2 ∨ op = 3 ∨ op = 11 ∧ ¬ w ≤ b % pw w) :
    opS op w (pw w) (a % pw w) (b % pw w) (nuw f) (nsw f) (exa f) =
      if (nuw f && outU (pw w) (exV op (pw w) a b false) || nsw f && !inR (pw w) (exV op (pw w) a b true)) = true then (0, 1) else (exV op (pw w) a b false % pw w, 0) := by
  have x0 : exX (pw w) a false = a % pw w := if_neg (by decide)
  have x1 : exX (pw w) a true = sg (pw w) (a % pw w) := (if_pos rfl).trans sg_cut.symm
  have y0 : exY op (pw w) b false = b % pw w := if_neg (by simp)
  rcases hop with rfl | rfl | rfl | ⟨rfl, hb⟩
  · have y1 : exY 1 (pw w) b true = sg (pw w) (b % pw w) := (if_pos (by simp)).trans sg_cut.symm
    have e0 : exV 1 (pw w) a b false = ringU 1 (a % pw w) (b % pw w) := by simp [exV, ringU, x0, y0]
    have e1 : exV 1 (pw w) a b true = ringU 1 (sg (pw w) (a % pw w)) (sg (pw w) (b % pw w)) := by simp [exV, ringU, x1, y1]
    rw [e0, e1]; rfl
  · have y1 : exY 2 (pw w) b true = sg (pw w) (b % pw w) := (if_pos (by simp)).trans sg_cut.symm
    have e0 : exV 2 (pw w) a b false = ringU 2 (a % pw w) (b % pw w) := by simp [exV, ringU, x0, y0]
    have e1 : exV 2 (pw w) a b true = ringU 2 (sg (pw w) (a % pw w)) (sg (pw w) (b % pw w)) := by simp [exV, ringU, x1, y1]
    rw [e0, e1]; rfl
  · have y1 : exY 3 (pw w) b true = sg (pw w) (b % pw w) := (if_pos (by simp)).trans sg_cut.symm
    have e0 : exV 3 (pw w) a b false = ringU 3 (a % pw w) (b % pw w) := by simp [exV, ringU, x0, y0]
    have e1 : exV 3 (pw w) a b true = ringU 3 (sg (pw w) (a % pw w)) (sg (pw w) (b % pw w)) := by simp [exV, ringU, x1, y1]
    rw [e0, e1]; rfl
  · have y1 : exY 11 (pw w) b true = b % pw w := if_neg (by simp)
    have e0 : exV 11 (pw w) a b false = a % pw w * pw (b % pw w) := by simp [exV, x0, y0]
    have e1 : exV 11 (pw w) a b true = sg (pw w) (a % pw w) * pw (b % pw w) := by simp [exV, x1, y1]
    rw [e0, e1]
    unfold opS
    rw [if_neg (by decide), if_neg (by decide), if_neg (by decide), if_pos (by decide), if_neg hb]
    unfold shBad shV
    rw [if_pos rfl, if_pos rfl, Int.emod_emod]
set_option maxRecDepth 100000 in
set_option maxHeartbeats 1600000 in
theorem rflagged_any (op w f a b : Int) (W : World) (h1 : 1 ≤ w) (h2 : w ≤ 64) (ha : 0 ≤ a ∧ a ≤ 18446744073709551615) (hb : 0 ≤ b ∧ b ≤ 18446744073709551615) (hop : op = 1 ∨ op = 2 ∨ op = 3 ∨ op = 11) :
    Calls Try.prog 51 #[.int .i64 op, .int .i64 w, .int .i64 f, .int .u64 a, .int .u64 b] W fun e w' => e = .returned (pairV (opS op w (pw w) (a % pw w) (b % pw w) (nuw f) (nsw f) (exa f))) ∧ Below W.heap.size W w' := by
  have hc : Hid (rcut w b = b % pw w) := hide (rcut_eq h2 hb.1 (by omega))
  have hb0 : 0 ≤ b % pw w := Int.emod_nonneg b (by have := pw_pos w; omega)
  have hb1 : b % pw w ≤ b := by
    rw [Int.emod_def]
    have := Int.mul_nonneg (show 0 ≤ pw w by have := pw_pos w; omega) (Int.ediv_nonneg hb.1 (show 0 ≤ pw w by have := pw_pos w; omega))
    omega
  by_cases hbig : op = 11 ∧ w ≤ b % pw w
  · obtain ⟨rfl, hge⟩ := hbig
    have e0 : Hid (opS 11 w (pw w) (a % pw w) (b % pw w) (nuw f) (nsw f) (exa f) = (0, 1)) := hide (by unfold opS; rw [if_neg (by decide), if_neg (by decide), if_neg (by decide), if_pos (by decide), if_pos hge])
    replace hb := hide hb
    clear hb1 hop
    go_enter Try.func51, Try.ntmps51
    go_wp2_with fail
    refine (rcut_any w b _ (by omega) hb.out).mono ?_; rintro e w' ⟨rfl, rfl⟩
    rw [hc.out]
    go_wp2
    go_ret2
    exact ⟨ret_ok2 e0.out, Below.refl _ _⟩
  · have hop' : op = 1 ∨ op = 2 ∨ op = 3 ∨ op = 11 ∧ ¬ w ≤ b % pw w := by
      rcases hop with h | h | h | h
      · exact .inl h
      · exact .inr (.inl h)
      · exact .inr (.inr (.inl h))
      · exact .inr (.inr (.inr ⟨h, fun k => hbig ⟨h, k⟩⟩))
    have e0 := hide (flag_law (a := a) (f := f) hop')
    have hx : op = 1 ∨ op = 2 ∨ op = 3 ∨ op = 11 ∧ b % pw w ≤ 63 := by omega
    have cE : ∀ s, Hid (∀ W, Calls Try.prog 65 #[.int .i64 op, .int .i64 w, .int .u64 a, .int .u64 b, .bool s] W fun e w' => e = .returned (big (exV op (pw w) a b s)).v ∧ Below W.heap.size W w') := fun s => hide (fun W => rexact_any op w a b s W h1 h2 ha hb hx)
    have c1 := cE false
    have c2 := cE true
    clear cE
    obtain ⟨E1, hE1⟩ : ∃ E, exV op (pw w) a b false = E := ⟨_, rfl⟩
    obtain ⟨E2, hE2⟩ : ∃ E, exV op (pw w) a b true = E := ⟨_, rfl⟩
    rw [hE1] at c1 e0
    rw [hE2] at c2 e0
    have hge : op = 11 → b % pw w < w := fun h => by have := hx; omega
    have t1 : (op == 11) = false ∨ (op == 11) = true ∧ b % pw w < w := by
      by_cases h : op = 11
      · exact .inr ⟨beq_iff_eq.2 h, hge h⟩
      · exact .inl (beq_eq_false_iff_ne.2 h)
    replace hb := hide hb
    replace hx := hide hx
    clear hE1 hE2 hge hop hop' hbig ha
    have hB := Below.refl W.heap.size W
    rcases t1 with t1 | ⟨t1, t2⟩
    all_goals
      go_enter Try.func51, Try.ntmps51
      go_wp2_with (go_at_call 45; refine (rcut_any w b _ (by omega) hb.out).mono ?_; rintro e w' ⟨rfl, rfl⟩; rw [hc.out])
      refine (c1.out _).mono ?_; rintro e w1 ⟨rfl, k1⟩
      replace hB := below_next hB (Nat.le_refl _) k1
      clear k1
      go_wp2_with fail
      refine (c2.out _).mono ?_; rintro e w2 ⟨rfl, k2⟩
      have p2 : w2.heap[w1.heap.size]? = some (.cells #[.int .u64 (big E1).hi, .int .u64 (big E1).lo, .bool (big E1).below] 71 (0, 0)) := (k2.block _ (by simp)).trans (box_top w1 _)
      replace hB := hB.trans ((under1 k2).mono hB.size)
      have z2 := lt_of_get p2
      have p3 := one_alloc p2 (.cells #[.int .u64 (big E2).hi, .int .u64 (big E2).lo, .bool (big E2).below] 71)
      have q3 := box_top w2 (.cells #[.int .u64 (big E2).hi, .int .u64 (big E2).lo, .bool (big E2).below] 71)
      obtain ⟨⟨x0, x1, x2⟩, _⟩ := cells3 p2
      clear k2 p2
      replace p3 := hide p3
      replace q3 := hide q3
      go_wp2_with fail
      refine (rfits_plain w E1 _ h1 h2).mono ?_; rintro e w3 ⟨rfl, k3⟩
      have p4 := (k3.block _ (by simp; omega)).trans p3.out
      have q4 := (k3.block _ (by simp)).trans q3.out
      replace hB := hB.trans ((under1 k3).mono hB.size)
      have z3 := lt_of_get p4
      have z4 := lt_of_get q4
      clear k3 x0 x1 x2
      obtain ⟨⟨x0, x1, x2⟩, _⟩ := cells3 q4
      replace p4 := hide p4
      clear q4
      go_wp2_with fail
      refine (rfits_sign w E2 _ h1 h2).mono ?_; rintro e w4 ⟨rfl, k4⟩
      have p5 := (k4.block _ z3).trans p4.out
      replace hB := hB.trans (k4.mono hB.size)
      clear k4 x0 x1 x2
      obtain ⟨⟨x0, x1, x2⟩, _⟩ := cells3 p5
      clear p5
      replace hB := hide hB
      cases o1 : outU (pw w) E1
      all_goals cases o2 : inR (pw w) E2
      all_goals
        rw [o1, o2] at e0
        go_wp2_with (go_at_call 56; refine (rwrapped_any w E1 _ h1 h2).mono ?_; rintro e w5 ⟨rfl, k5⟩; replace hB := hide (below_next hB.out (Nat.le_refl _) k5); clear k5)
      all_goals go_ret2
      all_goals
        refine ⟨ret_ok2 (e0.out.trans ?_), hB.out⟩
        simp [nuw, nsw, *]
end Go.Proofs.Ytmcleghbpdenlaa
