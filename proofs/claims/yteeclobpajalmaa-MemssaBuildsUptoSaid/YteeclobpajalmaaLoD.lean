/- lathelaw13.long, latheref13.Has, latheref13.Latches. No condition but sizes. | latheref13.Latches. No condition but sizes. -/
import Derived.Test.YteeclobpajalmaaLoB
import Derived.Test.YteeclobpajalmaaDoH
import Derived.Test.YteeclobpajalmaaGrW
namespace Go.Proofs.Yteeclobpajalmaa
open Go.RowKit
set_option linter.unusedSimpArgs false
set_option linter.unusedVariables false

theorem has_step {l : List Int} {i : Nat} {x t : Int} (hx : l[i]? = some x) : decide (t ∈ l.take (i + 1)) = (decide (t ∈ l.take i) || (x == t)) := by
  rw [List.take_add_one, hx, Bool.eq_iff_iff]
  simp only [Option.toList_some, decide_eq_true_eq, List.mem_append, List.mem_singleton, Bool.or_eq_true, beq_iff_eq]
  exact ⟨fun h => h.imp id Eq.symm, fun h => h.imp id Eq.symm⟩
set_option maxRecDepth 100000 in
set_option maxHeartbeats 3200000 in
theorem has13_any (A : Option Addr) (C : Nat) (l : List Int) (t : Int) (w : World) (B : Nat) (hlen : l.length ≤ 4000000) (h : OwnI w B (.slice A l.length C) l) :
    Calls Try.prog 67 #[.slice A l.length C, .int .i64 t] w fun e w' => e = .returned (.bool (decide (t ∈ l))) ∧ w' = w := by
  obtain ⟨A', C', he, hx⟩ := int_reads h
  cases he
  obtain ⟨m, hm⟩ : ∃ m, Hid (m = l.length) := ⟨_, hide rfl⟩
  rw [← hm.out] at hlen ⊢
  have hself := hide (Below.refl w.heap.size w)
  have h0 : Hid (decide (t ∈ l.take 0) = false) := hide (by simp)
  replace hx := hide hx
  replace h := hide h
  go_enter Try.func67, Try.ntmps67
  go_wp2
  go_loopw [5] (fun s wr => ∃ i : Nat, s = .int .i64 i ∧ i ≤ m ∧ Hid (decide (t ∈ l.take i) = false) ∧ wr = w) (fun s _ => m - (intOf s).toNat)
  case atStart => exact ⟨0, rfl, Nat.zero_le _, h0, rfl⟩
  case round =>
    clear h0
    obtain ⟨i, rfl, hi, hno, rfl⟩ := hrel
    by_cases hlt : i < m
    · have hii : (i : Int) < (m : Int) := by omega
      obtain ⟨x, hxi⟩ := get_ex (l := l) (k := i) (by rw [← hm.out]; exact hlt)
      obtain ⟨g, rfl, rx⟩ := hx.out (by rw [← hm.out]; omega)
      have rx0 := rx i _ hxi.out _ hself.out
      clear rx
      have hst := has_step (t := t) hxi.out
      rw [hno.out, Bool.false_or] at hst
      by_cases hxt : x = t
      · have h1 : (x == t) = true := by simp [hxt]
        have hr : Hid (decide (t ∈ l) = true) := hide (decide_eq_true (hxt ▸ List.mem_of_getElem? hxi.out))
        replace hst := hide hst
        replace hxt := hide hxt
        go_wp2
        go_ret
        exact ⟨by rw [hr.out]; rfl, rfl⟩
      · have h1 : (x == t) = false := by simp [hxt]
        rw [h1] at hst
        replace hst := hide hst
        replace hxt := hide hxt
        go_wp2
        go_roundw
        case rel => exact ⟨i + 1, by go_num, hlt, hst, by trivial⟩
        case measure => simp [intOf]; omega
    · obtain rfl : i = m := by omega
      have hr : Hid (decide (t ∈ l) = false) := hide (by
        have := hno.out
        rwa [hm.out, List.take_length] at this)
      go_wp2
      go_ret
      exact ⟨by rw [hr.out]; rfl, rfl⟩
end Go.Proofs.Yteeclobpajalmaa

namespace Go.Proofs.Yteeclobpajalmaa
open Go.RowKit
set_option linter.unusedSimpArgs false
set_option linter.unusedVariables false

noncomputable def latI (sc : Int → List Int) (o : List Int) (P : List (List Int)) (n : Nat) (h : Int) : List Int := if 0 ≤ h ∧ h < n then latF sc o P h.toNat else []
end Go.Proofs.Yteeclobpajalmaa
