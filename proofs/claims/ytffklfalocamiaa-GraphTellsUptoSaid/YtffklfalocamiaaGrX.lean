/- lathelaw06.bools, Lists, Wipe. No condition but sizes. -/
import Derived.Test.YtffklfalocamiaaGrJ
import Derived.Test.YtffklfalocamiaaGrO
namespace Go.Proofs.Ytffklfalocamiaa
open Go.RowKit
set_option linter.unusedSimpArgs false
set_option linter.unusedVariables false

set_option maxHeartbeats 1600000 in
theorem bools_same (w : World) (B1 B2 g1 g2 n : Nat) (l : List Bool) (hn : n ≤ 2000000) (h1 : w.ownsRow B1 4 1 (.slice (some ⟨g1, 0, none⟩) n n) n (l.map Value.bool)) (h2 : w.ownsRow B2 4 1 (.slice (some ⟨g2, 0, none⟩) n n) n (l.map Value.bool)) :
    Calls Try.prog 51 #[.slice (some ⟨g1, 0, none⟩) n n, .slice (some ⟨g2, 0, none⟩) n n] w fun e w' => e = .returned (.bool true) ∧ Below w.heap.size w w' := by
  obtain ⟨hl, q1⟩ := bool_reads h1
  obtain ⟨-, q2⟩ := bool_reads h2
  replace q1 := hide q1
  replace q2 := hide q2
  have hself := Below.refl w.heap.size w
  go_enter Try.func51, Try.ntmps51
  go_wp2
  go_loopw [13] (fun i wr => ∃ k : Nat, i = .int .i64 k ∧ k ≤ n ∧ Below w.heap.size w wr) (fun i _ => n - (intOf i).toNat)
  case atStart => exact ⟨0, rfl, Nat.zero_le _, hself⟩
  case round =>
    obtain ⟨k, rfl, hk, hbel⟩ := hrel
    by_cases hlt : k < n
    · obtain ⟨x, hx⟩ := get_ex (l := l) (k := k) (by omega)
      have r1 := q1.out k x hx.out
      have r2 := q2.out k x hx.out
      have hki : (k : Int) < (n : Int) := by omega
      cases x <;>
      · go_upto_region 6 with (fail)
        go_quiet (fail)
        go_wp2
        go_roundw
        case rel => exact ⟨k + 1, by go_num, hlt, below_drewN hbel _⟩
        case measure => simp [intOf]; omega
    · obtain rfl : k = n := by omega
      go_wp2
      go_ret
      exact ⟨rfl, hbel⟩
set_option maxHeartbeats 1600000 in
theorem lists_same (w : World) (B1 B2 g1 g2 n : Nat) (no1 no2 : Option Nat) (ls : List (List Int)) (cs1 cs2 : List Value) (hn : n ≤ 2000000) (hl : ls.length = n) (h1 : OwnL w B1 no1 (.slice (some ⟨g1, 0, none⟩) n n) ls cs1) (h2 : OwnL w B2 no2 (.slice (some ⟨g2, 0, none⟩) n n) ls cs2) :
    Calls Try.prog 56 #[.slice (some ⟨g1, 0, none⟩) n n, .slice (some ⟨g2, 0, none⟩) n n] w fun e w' => e = .returned (.bool true) ∧ Below w.heap.size w w' := by
  replace h1 := hide h1
  replace h2 := hide h2
  have hself := Below.refl w.heap.size w
  have hww : w.heap.size ≤ w.heap.size := Nat.le_refl _
  go_enter Try.func56, Try.ntmps56
  go_wp2
  go_loopw [13] (fun i wr => ∃ k : Nat, i = .int .i64 k ∧ k ≤ n ∧ Below w.heap.size w wr) (fun i _ => n - (intOf i).toNat)
  case atStart => exact ⟨0, rfl, Nat.zero_le _, hself⟩
  case round =>
    obtain ⟨k, rfl, hk, hbel⟩ := hrel
    by_cases hlt : k < n
    · obtain ⟨p, hp⟩ := get_ex (l := ls) (k := k) (by omega)
      have hbs := hbel.size
      have e1 := h1.out.below hbel
      have e2 := h2.out.below hbel
      obtain ⟨c1, hc1, hi1⟩ := e1.at_ hp.out
      obtain ⟨c2, hc2, hi2⟩ := e2.at_ hp.out
      obtain ⟨A1, k1, rfl⟩ := row_form hi1.row
      obtain ⟨A2, k2, rfl⟩ := row_form hi2.row
      have r1 : ∀ w', Below wr.heap.size wr w' → w'.cell? ⟨g1, k, none⟩ = some (.slice A1 p.length k1) := fun w' h => by
        rw [h.cell (p := ⟨g1, k, none⟩) (row_lt e1.row rfl).2.1]
        have := e1.row
        rw [hl] at this
        rw [World.ownsRow.cellAt this k (by omega)]; exact hc1
      have r2 : ∀ w', Below wr.heap.size wr w' → w'.cell? ⟨g2, k, none⟩ = some (.slice A2 p.length k2) := fun w' h => by
        rw [h.cell (p := ⟨g2, k, none⟩) (row_lt e2.row rfl).2.1]
        have := e2.row
        rw [hl] at this
        rw [World.ownsRow.cellAt this k (by omega)]; exact hc2
      have cI : Hid (∀ w', Below wr.heap.size wr w' → Calls Try.prog 49 #[.slice A1 p.length k1, .slice A2 p.length k2] w' fun e w'' => e = .returned (.bool true) ∧ Below w'.heap.size w' w'') := hide (fun w' h => by
        have := rints_any _ _ p p w' w'.heap.size (Nat.le_refl _) (hi1.kept fun k _ hk => h.block k hk).rep (hi2.kept fun k _ hk => h.block k hk).rep
        rwa [show (p == p) = true by simp] at this)
      have hselfr := Below.refl wr.heap.size wr
      have hki : (k : Int) < (n : Int) := by omega
      replace e1 := hide e1
      replace e2 := hide e2
      replace hi1 := hide hi1
      replace hi2 := hide hi2
      replace hc1 := hide hc1
      replace hc2 := hide hc2
      go_upto_region 6 with (fail)
      go_region_held3 (fun w' => Below wr.heap.size wr w') (first | (with_reducible assumption) | exact hselfr.drew)
        (first
          | (go_at_call 49; refine (cI.out _ (hselfr.drew)).mono ?_; rintro e w5 ⟨rfl, hb5⟩; have hk5 : Below wr.heap.size wr w5 := (hselfr.drew).trans hb5; clear hb5))
      have hk6 := hbel.trans (hk5.mono hbs)
      go_wp2
      go_roundw
      case rel => exact ⟨k + 1, by go_num, hlt, hk6⟩
      case measure => simp [intOf]; omega
    · obtain rfl : k = n := by omega
      go_wp2
      go_ret
      exact ⟨rfl, hbel⟩
end Go.Proofs.Ytffklfalocamiaa
