/- Layer 9: mem.Pack, walked. No condition but a number within its kind. -/
import Derived.Test.YtgkgmeofilkopaaMwB
import Derived.Test.YtgkgmeofilkopaaMmB
namespace Go.Proofs.Ytgkgmeofilkopaa
open Go.RowKit
set_option linter.unusedSimpArgs false
set_option linter.unusedVariables false

theorem info_Byte : (Try.prog.info? 54).map (fun i => (i.zero, i.size, i.bytes)) = some (some (.agg #[.int .i64 0, .int .u8 0, .int .i64 0, .int .i64 0, .int .i64 0]), 5, 40) := by kernel_rfl
def packTo (t : Int) (x : Val) (k n : Nat) : List Byt := (List.range n).map fun i => if i < k then byteS t x i else zb
theorem packTo_len (t : Int) (x : Val) (k n : Nat) : (packTo t x k n).length = n := by simp [packTo]
theorem packTo_zero (t : Int) (x : Val) (n : Nat) : packTo t x 0 n = List.replicate n zb := by
  apply List.ext_getElem?; intro i; simp only [packTo, List.getElem?_replicate, List.getElem?_map, Nat.not_lt_zero, if_false]
  by_cases h : i < n
  · rw [if_pos h, List.getElem?_range h]; rfl
  · rw [if_neg h, List.getElem?_eq_none (by simpa using h)]; rfl
theorem packTo_full (t : Int) (v : Val) : packTo t (normS t v) (countS t).toNat (countS t).toNat = packS t v := by
  unfold packTo packS
  apply List.map_congr_left
  intro i hi
  rw [if_pos (List.mem_range.1 hi)]
theorem packTo_set {t : Int} {x : Val} {k n : Nat} (h : k < n) : (packTo t x k n).set k (byteS t x k) = packTo t x (k + 1) n := by
  apply List.ext_getElem?
  intro i
  simp only [packTo, List.getElem?_set, List.getElem?_map, List.length_map, List.length_range]
  by_cases hi : i < n
  · rw [List.getElem?_range hi]
    by_cases c : k = i
    · subst c; simp [h]
    · rw [if_neg c]
      by_cases c2 : i < k
      · simp [c2, show i < k + 1 by omega]
      · simp [c2, show ¬ i < k + 1 by omega]
  · rw [if_neg (by omega)]
    simp [List.getElem?_eq_none (l := List.range n) (by simpa using (by omega : n ≤ i))]
theorem packTo_same {t : Int} {x : Val} {k n : Nat} (h : byteS t x k = zb) : packTo t x (k + 1) n = packTo t x k n := by
  unfold packTo
  apply List.map_congr_left
  intro i hi
  by_cases c : i < k
  · rw [if_pos c, if_pos (by omega)]
  · by_cases c2 : i = k
    · subst c2; rw [if_neg c, if_pos (by omega), h]
    · rw [if_neg c, if_neg (by omega)]
/-- what Pack answers -/
def PackPost (t : Int) (v : Val) (W : World) (e : Ending) (w' : World) : Prop :=
  ∃ q, e = .returned (.slice (some ⟨q, 0, none⟩) (countS t).toNat (countS t).toNat) ∧ Row w' q (packS t v) ∧ W.heap.size ≤ q ∧ Below W.heap.size W w'

set_option maxHeartbeats 1600000 in
theorem pack_any (t : Int) (v : Val) (w : World) (hv : 0 ≤ v.bits ∧ v.bits ≤ 18446744073709551615) : Calls Try.prog 31 #[.int .i64 t, vv v] w (PackPost t v w) := by
  obtain ⟨x, hx⟩ : ∃ x, Hid (normS t v = x) := ⟨_, hide rfl⟩
  have cN : Hid (∀ W, Calls Try.prog 36 #[.int .i64 t, vv v] W fun e w' => e = .returned (vv x) ∧ Below W.heap.size W w') := hide (fun W => by rw [← hx.out]; exact norm_any t v W hv)
  obtain ⟨n, hn⟩ : ∃ n : Nat, Hid ((countS t).toNat = n) := ⟨_, hide rfl⟩
  have hn8 : n ≤ 8 := by have := countS_le t; have := hn.out; omega
  have cC : Hid (∀ W, Calls Try.prog 70 #[.int .i64 t] W fun e w' => e = .returned (.int .i64 (n : Int)) ∧ W = w') := hide (fun W => by
    have h1 := count_any t W
    have h2 : countS t = (n : Int) := by have := countS_le t; have := hn.out; omega
    rwa [h2] at h1)
  obtain ⟨i0, hi0, hz0, hz1, hz2⟩ := info_parts info_Byte
  replace hi0 := hide hi0
  replace hz0 := hide hz0
  replace hz1 := hide hz1
  replace hz2 := hide hz2
  go_enter Try.func31, Try.ntmps31
  go_wp2_with fail
  refine (cN.out _).mono ?_
  rintro e w1 ⟨rfl, hb1⟩
  have hbk : w1.heap[w.heap.size]? = some (.cells #[.int .i64 v.kind, .int .u64 v.bits, .int .i64 v.block, .int .i64 v.off] 47 (0, 0)) := (hb1.block _ (by simp)).trans (box_top w _)
  have hbw : Below w.heap.size w w1 := ((Below.refl _ _).alloc (Nat.le_refl _) _).trans (hb1.mono (by simp))
  have hlt : w.heap.size < w1.heap.size := by have := hb1.size; simp at this; omega
  clear hb1
  replace hbw := hide hbw
  obtain ⟨z0, z1, z2, z3⟩ := four_cells hbk
  have f0 := one_free (j := 0) hbk
  have f1 := one_free (j := 1) hbk
  have f2 := one_free (j := 2) hbk
  have f3 := one_free (j := 3) hbk
  go_wp2_with fail
  have hb2 := set_four (a' := .int .i64 x.kind) (b' := .int .u64 x.bits) (c' := .int .i64 x.block) (d' := .int .i64 x.off) hbk
  have hbw2 : Below w.heap.size w ((((w1.setCell ⟨w.heap.size, 0, none⟩ (.int .i64 x.kind)).setCell ⟨w.heap.size, 1, none⟩ (.int .u64 x.bits)).setCell ⟨w.heap.size, 2, none⟩ (.int .i64 x.block)).setCell ⟨w.heap.size, 3, none⟩ (.int .i64 x.off)) :=
    (((hbw.out.setCell (Nat.le_refl _) _).setCell (Nat.le_refl _) _).setCell (Nat.le_refl _) _).setCell (Nat.le_refl _) _
  obtain ⟨w2, hw2⟩ : ∃ w2, w2 = ((((w1.setCell ⟨w.heap.size, 0, none⟩ (.int .i64 x.kind)).setCell ⟨w.heap.size, 1, none⟩ (.int .u64 x.bits)).setCell ⟨w.heap.size, 2, none⟩ (.int .i64 x.block)).setCell ⟨w.heap.size, 3, none⟩ (.int .i64 x.off)) := ⟨_, rfl⟩
  rw [← hw2] at hb2 hbw2 ⊢
  clear z0 z1 z2 z3 f0 f1 f2 f3 hbk hw2 hbw hlt
  have hlt := (Array.getElem?_eq_some_iff.1 hb2).1
  have x0 : ∀ w', Below w2.heap.size w2 w' → w'.cell? ⟨w.heap.size, 0, none⟩ = some (.int .i64 x.kind) := fun w' h => box_cell hb2 rfl hlt h
  have x1 : ∀ w', Below w2.heap.size w2 w' → w'.cell? ⟨w.heap.size, 1, none⟩ = some (.int .u64 x.bits) := fun w' h => box_cell hb2 rfl hlt h
  have x2 : ∀ w', Below w2.heap.size w2 w' → w'.cell? ⟨w.heap.size, 2, none⟩ = some (.int .i64 x.block) := fun w' h => box_cell hb2 rfl hlt h
  have x3 : ∀ w', Below w2.heap.size w2 w' → w'.cell? ⟨w.heap.size, 3, none⟩ = some (.int .i64 x.off) := fun w' h => box_cell hb2 rfl hlt h
  replace hlt := hide hlt
  clear hb2
  replace hbw2 := hide hbw2
  refine (cC.out _).mono ?_
  rintro e w3 ⟨rfl, rfl⟩
  go_wp2_with (at_make; refine wpList_make_full _ rfl (.tmp 11) (.tmp 11) _ rfl w2.heap.size 54 i0 _ 5 Try.underlying48 hi0.out hz0.out hz1.out .i64 .i64 n n n rfl rfl rfl rfl ?c1 ?c2 (Nat.le_refl _) ?_)
  case c1 => rw [hz2.out]; omega
  case c2 => unfold maxLen; omega
  intro w3 hown hg
  have hrow := Row.made (c := 0) hown
  have hb3 := below_alloc_of hg
  clear hown hg
  rw [← packTo_zero t x n] at hrow
  replace hrow := hide hrow
  go_wp2_with fail
  go_loopw [15] (fun s wr => ∃ k : Nat, k ≤ n ∧ s = .int .i64 k ∧ Hid (Row wr w2.heap.size (packTo t x k n)) ∧ Below w2.heap.size w2 wr) (fun s _ => n - (intOf s).toNat)
  case atStart => exact ⟨0, Nat.zero_le _, rfl, hrow, hb3⟩
  case round =>
    obtain ⟨k, hk, rfl, hrow', hb4⟩ := hrel
    by_cases hlt2 : k < n
    · obtain ⟨b0, hb0⟩ := get_ex (l := packTo t x k n) (k := k) (by rw [packTo_len]; exact hlt2)
      have hb0' : b0 = zb := by have := hb0.out; rw [packTo, List.getElem?_map, List.getElem?_range hlt2] at this; simpa using this.symm
      subst hb0'
      obtain ⟨z0, z1, z2, z3, z4⟩ := Row.cells hrow'.out hb0.out
      have f0 := one_free (j := k * 5) hrow'.out
      have f1 := one_free (j := k * 5 + 1) hrow'.out
      have f2 := one_free (j := k * 5 + 2) hrow'.out
      have f3 := one_free (j := k * 5 + 3) hrow'.out
      have f4 := one_free (j := k * 5 + 4) hrow'.out
      obtain g1 | g1 | g1 | g1 : x.kind = 1 ∨ x.kind = 2 ∨ x.kind = 3 ∨ (x.kind ≠ 1 ∧ x.kind ≠ 2 ∧ x.kind ≠ 3) := by omega
      · have hby : Hid (byteS t x k = ⟨1, x.bits / 2 ^ (8 * k) % 256, 0, 0, 0⟩) := hide (by rw [byteS, if_pos g1, show (256 : Int) ^ k = 2 ^ (8 * k) by rw [show (256 : Int) = 2 ^ 8 from rfl, ← Int.pow_mul]])
        go_wp2
        go_roundw
        case rel => exact ⟨k + 1, by omega, by go_num, hide (by rw [← packTo_set hlt2, hby.out]; exact Row.put hrow'.out (by rw [packTo_len]; exact hlt2) ⟨1, x.bits / 2 ^ (8 * k) % 256, 0, 0, 0⟩), below_put hb4 (Nat.le_refl _)⟩
        case measure => simp [intOf]; omega
      · have hby : Hid (byteS t x k = ⟨2, 0, x.block, x.off, k⟩) := hide (by rw [byteS, if_neg (by omega), if_pos g1])
        go_wp2
        go_roundw
        case rel => exact ⟨k + 1, by omega, by go_num, hide (by rw [← packTo_set hlt2, hby.out]; exact Row.put hrow'.out (by rw [packTo_len]; exact hlt2) ⟨2, 0, x.block, x.off, k⟩), below_put hb4 (Nat.le_refl _)⟩
        case measure => simp [intOf]; omega
      · by_cases g65 : t = 65
        · have hby : Hid (packTo t x (k + 1) n = packTo t x k n) := hide (packTo_same (by rw [byteS, if_neg (by omega), if_neg (by omega), if_neg (by omega)]))
          clear z0 z1 z2 z3 z4 f0 f1 f2 f3 f4
          go_wp2
          go_roundw
          case rel => exact ⟨k + 1, by omega, by go_num, by rw [hby.out]; exact hrow', hb4⟩
          case measure => simp [intOf]; omega
        · have hby : Hid (byteS t x k = ⟨3, 0, 0, 0, 0⟩) := hide (by rw [byteS, if_neg (by omega), if_neg (by omega), if_pos ⟨g1, g65⟩])
          replace g65 : (t != 65) = true := bne_iff_ne.2 g65
          go_upto_region 13 with (fail)
          go_wp2_with fail
          go_roundw
          case rel => exact ⟨k + 1, by omega, by go_num, hide (by rw [← packTo_set hlt2, hby.out]; exact Row.putKind hrow'.out hb0.out 3), hb4.setCell (Nat.le_refl _) _⟩
          case measure => simp [intOf]; omega
      · have hby : Hid (packTo t x (k + 1) n = packTo t x k n) := hide (packTo_same (by rw [byteS, if_neg (by omega), if_neg (by omega), if_neg (by omega)]))
        have h1 : (x.kind == 1) = false := beq_eq_false_iff_ne.2 g1.1
        have h2 : (x.kind == 2) = false := beq_eq_false_iff_ne.2 g1.2.1
        have h3 : (x.kind == 3) = false := beq_eq_false_iff_ne.2 g1.2.2
        clear g1
        clear z0 z1 z2 z3 z4 f0 f1 f2 f3 f4
        go_wp2
        go_roundw
        case rel => exact ⟨k + 1, by omega, by go_num, by rw [hby.out]; exact hrow', hb4⟩
        case measure => simp [intOf]; omega
    · go_wp2
      go_ret
      obtain rfl : k = n := by omega
      refine ⟨w2.heap.size, by rw [hn.out]; rfl, ?_, hbw2.out.size, hbw2.out.trans (hb4.mono hbw2.out.size)⟩
      have := hrow'.out
      rw [← hx.out, ← hn.out, packTo_full] at this
      exact this
end Go.Proofs.Ytgkgmeofilkopaa
