/- slices.Reverse at int, in place. No condition. -/
import Derived.Test.YtkhlnopbgngjbaaGrB
import Derived.Deep.RegionLaw
namespace Go.Proofs.Ytkhlnopbgngjbaa
open Go.RowKit
set_option linter.unusedSimpArgs false
set_option linter.unusedVariables false

/-- k places at either end are changed about -/
structure RevAt (l : List Int) (k : Nat) (ys : List Int) : Prop where
  len : ys.length = l.length
  val : ∀ p, p < l.length → ys[p]? = if k ≤ p ∧ p + k < l.length then l[p]? else l[l.length - 1 - p]?
theorem revAt_zero (l : List Int) : RevAt l 0 l := ⟨rfl, fun p hp => by rw [if_pos ⟨Nat.zero_le _, by omega⟩]⟩
theorem revAt_end {l ys : List Int} {k : Nat} (h : RevAt l k ys) (hk : l.length ≤ 2 * k + 1) : ys = l.reverse := by
  apply List.ext_getElem?
  intro p
  rcases Nat.lt_or_ge p l.length with hp | hp
  · rw [h.val p hp, List.getElem?_reverse hp]
    split
    · rename_i hc
      rw [show l.length - 1 - p = p by omega]
    · rfl
  · rw [List.getElem?_eq_none (by rw [h.len]; exact hp), List.getElem?_eq_none (by rw [List.length_reverse]; exact hp)]
theorem revAt_step {l ys : List Int} {k j : Nat} {x y : Int} (h : RevAt l k ys) (hj : j + k + 1 = l.length) (hkj : k < j) (hx : ys[k]? = some x) (hy : ys[j]? = some y) : RevAt l (k + 1) ((ys.set k y).set j x) := by
  have hx' := h.val k (by omega)
  rw [if_pos ⟨Nat.le_refl _, by omega⟩, hx] at hx'
  have hy' := h.val j (by omega)
  rw [if_pos ⟨by omega, by omega⟩, hy] at hy'
  refine ⟨by rw [List.length_set, List.length_set, h.len], fun p hp => ?_⟩
  rw [List.getElem?_set, List.getElem?_set]
  by_cases h1 : j = p
  · subst h1
    rw [if_pos rfl, if_pos (by rw [List.length_set, h.len]; exact hp), if_neg (by omega), show l.length - 1 - j = k by omega, hx']
  · rw [if_neg h1]
    by_cases h2 : k = p
    · subst h2
      rw [if_pos rfl, if_pos (by rw [h.len]; exact hp), if_neg (by omega), show l.length - 1 - k = j by omega, hy']
    · rw [if_neg h2, h.val p hp]
      by_cases h3 : k ≤ p ∧ p + k < l.length
      · rw [if_pos h3, if_pos (by omega)]
      · rw [if_neg h3, if_neg (by omega)]
theorem map_set (l : List Int) (k : Nat) (x : Int) : (l.map fun z => Value.int .i64 z).set k (.int .i64 x) = (l.set k x).map fun z => Value.int .i64 z := by simp [List.map_set]

def RevPost (v : Value) (l : List Int) (B : Nat) (w : World) (e : Ending) (w' : World) : Prop := e = .returned (.tuple #[]) ∧ OwnI w' B v l.reverse ∧ Only (fun k => v.ownBlock = some k) w.heap.size w w'
set_option maxRecDepth 100000 in
set_option maxHeartbeats 3200000 in
theorem reverse_any (v : Value) (l : List Int) (w : World) (B : Nat) (hv : OwnI w B v l) (hs : l.length ≤ 2000000) :
    Calls Try.prog 90 #[v] w (RevPost v l B w) := by
  obtain ⟨A, C, rfl⟩ := row_form hv.row
  obtain ⟨n, hn⟩ : ∃ n, Hid (n = l.length) := ⟨_, hide rfl⟩
  rw [← hn.out] at hs ⊢
  rw [← hn.out] at hv
  have hok := hide hv.ok
  have hrow0 := hide hv.row
  rw [← hn.out] at hrow0
  clear hv
  go_enter Try.func90, Try.ntmps90
  go_wp2
  go_loopw [2, 3] (fun a b wr => ∃ k : Nat, 2 * k ≤ n + 1 ∧ a = .int .i64 k ∧ b = .int .i64 ((n : Int) - 1 - k) ∧ Hid (∃ ys, RevAt l k ys ∧ wr.ownsRow B 3 1 (.slice A n C) n (ys.map fun z => Value.int .i64 z)) ∧ Only (fun k => Value.ownBlock (.slice A n C) = some k) w.heap.size w wr) (fun a _ _ => n - (intOf a).toNat)
  case atStart => exact ⟨0, by omega, rfl, by go_num, hide ⟨l, revAt_zero l, hrow0.out⟩, Only.refl _ _ _⟩
  case round =>
    obtain ⟨k, hk, rfl, rfl, hrow, hbel⟩ := hrel
    obtain ⟨ys, hrev, hx⟩ := hrow.out
    by_cases hlt : 2 * k + 1 < n
    · obtain ⟨g, rfl⟩ : ∃ g, A = some ⟨g, 0, none⟩ := by
        rcases hx.2 with ⟨h1, h2⟩ | ⟨gp, cp, cur, h1, h2, _⟩
        · omega
        · cases h1; exact ⟨gp, rfl⟩
      obtain ⟨j, hj⟩ : ∃ j : Nat, j + k + 1 = n := ⟨n - 1 - k, by omega⟩
      have e1 : (n : Int) - 1 - k = (j : Int) := by omega
      have hyl : ys.length = n := hrev.len.trans hn.out.symm
      obtain ⟨x, hx1⟩ := get_ex (l := ys) (k := k) (by omega)
      obtain ⟨y, hy1⟩ := get_ex (l := ys) (k := j) (by omega)
      have r0 : wr.cell? ⟨g, k, none⟩ = some (.int .i64 x) := by rw [World.ownsRow.cellAt hx k (by omega), List.getElem?_map, hx1.out]; rfl
      have r1 : wr.cell? ⟨g, j, none⟩ = some (.int .i64 y) := by rw [World.ownsRow.cellAt hx j (by omega), List.getElem?_map, hy1.out]; rfl
      have f0 : wr.frozen? ⟨g, k, none⟩ = false := World.ownsRow.frozenAt hx k
      have f1 : wr.frozen? ⟨g, j, none⟩ = false := World.ownsRow.frozenAt hx j
      have st := (World.ownsRow.stored (World.ownsRow.stored hx k (.int .i64 y)).1 j (.int .i64 x)).1
      rw [map_set, map_set] at st
      replace st := hide st
      have hrev2 := hide (revAt_step hrev (by rw [← hn.out]; exact hj) (by omega) hx1.out hy1.out)
      have f2 : (wr.setCell ⟨g, k, none⟩ (.int .i64 y)).frozen? ⟨g, j, none⟩ = false := World.ownsRow.frozenAt (World.ownsRow.stored hx k (.int .i64 y)).1 j
      have hb9 := hide ((hbel.setCell (p := ⟨g, k, none⟩) (.inl rfl) (.int .i64 y)).setCell (p := ⟨g, j, none⟩) (.inl rfl) (.int .i64 x))
      rw [e1]
      have hkj : (k : Int) < (j : Int) := by omega
      have hne : k ≠ j := by omega
      clear hrow hbel
      replace hx := hide hx
      replace hrev := hide hrev
      replace hyl := hide hyl
      replace e1 := hide e1
      go_upto_region 3 with (fail)
      go_region
      go_wp2
      go_roundw
      case rel => exact ⟨k + 1, by omega, by go_num, by have := e1.out; congr 1; omega, hide ⟨_, hrev2.out, st.out⟩, hb9.out.drew⟩
      case measure => simp [intOf]; omega
    · have hend : Hid (ys = l.reverse) := hide (revAt_end hrev (by rw [← hn.out]; omega))
      have hnlt : ¬ (k : Int) < (n : Int) - 1 - k := by omega
      replace hx := hide hx
      go_wp2
      go_end0
      refine ⟨rfl, ⟨by rw [List.length_reverse, ← hn.out, ← hend.out]; exact hx.out, fun x hx' => hok.out x (List.mem_reverse.1 hx')⟩, hbel⟩
end Go.Proofs.Ytkhlnopbgngjbaa
