/- Layer 9: latheref09.Same, walked. No condition but bytes within their kind. -/
import Derived.Test.YtgkgmeofilkopaaMwG
namespace Go.Proofs.Ytgkgmeofilkopaa
open Go.RowKit
set_option linter.unusedSimpArgs false
set_option linter.unusedVariables false

def sameTo (k : Nat) (a b : List Byt) : Prop := ∀ i, i < k → a[i]? = b[i]?
theorem same_all {a b : List Byt} (hl : a.length = b.length) (h : sameTo a.length a b) : a = b := by
  apply List.ext_getElem?
  intro i
  rcases Nat.lt_or_ge i a.length with hi | hi
  · exact h i hi
  · rw [List.getElem?_eq_none hi, List.getElem?_eq_none (by omega)]
theorem byt_ne {x y : Byt} (h : x ≠ y) : ¬ x.kind = y.kind ∨ (x.kind = y.kind ∧ ¬ x.bits = y.bits) ∨ (x.kind = y.kind ∧ x.bits = y.bits ∧ ¬ x.block = y.block) ∨ (x.kind = y.kind ∧ x.bits = y.bits ∧ x.block = y.block ∧ ¬ x.off = y.off) ∨
    (x.kind = y.kind ∧ x.bits = y.bits ∧ x.block = y.block ∧ x.off = y.off ∧ ¬ x.i = y.i) := by
  obtain ⟨a, b, c, d, e⟩ := x
  obtain ⟨a', b', c', d', e'⟩ := y
  simp only [ne_eq, Byt.mk.injEq] at h ⊢
  omega
set_option maxHeartbeats 1600000 in
theorem same_any (a b : List Byt) (c d : Value) (w : World) (ha : (Rp.slice 5 RByu).rep w w.heap.size [c] a) (hb : (Rp.slice 5 RByu).rep w w.heap.size [d] b) :
    Calls Try.prog 33 #[c, d] w fun e w' => e = .returned (.bool (decide (a = b))) ∧ Below w.heap.size w w' := by
  obtain ⟨A, C, hc, h9, -⟩ := Rp.slice_open ha
  obtain ⟨A', C', hd, h9', -⟩ := Rp.slice_open hb
  cases hc
  cases hd
  obtain ⟨-, -, ga⟩ := slice5_parts ha
  obtain ⟨-, -, gb⟩ := slice5_parts hb
  replace ga := hide ga
  replace gb := hide gb
  clear ha hb
  obtain ⟨n, hn⟩ : ∃ n, Hid (n = a.length) := ⟨_, hide rfl⟩
  obtain ⟨m, hm⟩ : ∃ m, Hid (m = b.length) := ⟨_, hide rfl⟩
  rw [← hn.out] at h9 ⊢
  rw [← hm.out] at h9' ⊢
  have hself := Below.refl w.heap.size w
  by_cases hnm : n = m
  · subst hnm
    go_enter Try.func33, Try.ntmps33
    go_wp2_with fail
    go_loopw [5] (fun s wr => ∃ k : Nat, k ≤ n ∧ s = .int .i64 k ∧ Hid (sameTo k a b) ∧ Below w.heap.size w wr) (fun s _ => n - (intOf s).toNat)
    case atStart => exact ⟨0, Nat.zero_le _, rfl, hide (fun i hi => by omega), hself⟩
    case round =>
      obtain ⟨k, hk, rfl, hs, hbel⟩ := hrel
      by_cases hlt : k < n
      · obtain ⟨x, hx⟩ := get_ex (l := a) (k := k) (by rw [← hn.out]; exact hlt)
        obtain ⟨y, hy⟩ := get_ex (l := b) (k := k) (by rw [← hm.out]; exact hlt)
        obtain ⟨q1, o1, rfl, hq1, hc1⟩ := ga.out (by rw [← hn.out]; omega)
        obtain ⟨q2, o2, rfl, hq2, hc2⟩ := gb.out (by rw [← hm.out]; omega)
        obtain ⟨u0, u1, u2, u3, u4⟩ := Cells.five (hc1 k x hx.out)
        obtain ⟨v0, v1, v2, v3, v4⟩ := Cells.five (hc2 k y hy.out)
        clear hc1 hc2
        by_cases hxy : x = y
        · subst hxy
          go_wp2_with fail
          go_quiet (fail)
          go_wp2
          go_roundw
          case rel => exact ⟨k + 1, by omega, by go_num, hide (fun i hi => by
            rcases Nat.lt_succ_iff_lt_or_eq.1 hi with h1 | rfl
            · exact hs.out i h1
            · rw [hx.out, hy.out]), hbel.trans ((below_drewN (Below.refl _ _) _).mono (by first | exact hbel.size | exact Nat.le_refl _))⟩
          case measure => simp [intOf]; omega
        · have hne : Hid (decide (a = b) = false) := hide (decide_eq_false (fun e => hxy (by have h1 := hx.out; rw [e, hy.out] at h1; cases h1; rfl)))
          rcases byt_ne hxy with g0 | ⟨g0, g1⟩ | ⟨g0, g1, g2⟩ | ⟨g0, g1, g2, g3⟩ | ⟨g0, g1, g2, g3, g4⟩
          all_goals
            replace hxy := hide hxy
            go_wp2_with fail
            go_quiet (fail)
            go_wp2
            go_ret
            exact ⟨by rw [hne.out]; rfl, hbel.trans ((below_drewN (Below.refl _ _) _).mono (by first | exact hbel.size | exact Nat.le_refl _))⟩
      · have he : Hid (decide (a = b) = true) := hide (decide_eq_true (same_all (by rw [← hn.out, hm.out]) (by rw [← hn.out]; exact (by omega : k = n) ▸ hs.out)))
        go_wp2
        go_ret
        exact ⟨by rw [he.out]; rfl, hbel⟩
  · have hne : Hid (decide (a = b) = false) := hide (decide_eq_false (fun e => hnm (by rw [hn.out, hm.out, e])))
    have hnm' : ((n : Int) != (m : Int)) = true := bne_iff_ne.2 (by omega)
    replace hnm := hide hnm
    go_enter Try.func33, Try.ntmps33
    go_wp2
    go_ret
    exact ⟨by rw [hne.out]; rfl, hself⟩
end Go.Proofs.Ytgkgmeofilkopaa
