/- The reference of layer 1: quotient, walked. No condition. -/
import Derived.Test.YtmcleghbpdenlaaBrB
import Derived.Deep.DeepCutAuto
import Derived.RegionTactic
import Derived.ChangeAlike
namespace Go.Proofs.Ytmcleghbpdenlaa
open Go.RowKit
set_option linter.unusedSimpArgs false
set_option linter.unusedVariables false

theorem set3 {w : World} {g : Nat} {a b c x y z : Value} {t : TypeId} (h : w.heap[g]? = some (.cells #[a, b, c] t (0, 0))) :
    (((w.setCell ⟨g, 0, none⟩ x).setCell ⟨g, 1, none⟩ y).setCell ⟨g, 2, none⟩ z).heap[g]? = some (.cells #[x, y, z] t (0, 0)) := by
  have h1 := set_heap (j := 0) (v := x) h
  have h2 := set_heap (j := 1) (v := y) h1
  have h3 := set_heap (j := 2) (v := z) h2
  simpa using h3
theorem three_sets {W w : World} {n m : Nat} {a b c x y z : Value} {o : Obj} {t : TypeId} (hn : W.heap.size ≤ n) (hm : m ≠ n) (hb : Below W.heap.size W w) (h : w.heap[n]? = some (.cells #[a, b, c] t (0, 0))) (k : w.heap[m]? = some o) :
    Below W.heap.size W (((w.setCell ⟨n, 0, none⟩ x).setCell ⟨n, 1, none⟩ y).setCell ⟨n, 2, none⟩ z) ∧ (((w.setCell ⟨n, 0, none⟩ x).setCell ⟨n, 1, none⟩ y).setCell ⟨n, 2, none⟩ z).heap[n]? = some (.cells #[x, y, z] t (0, 0)) ∧ (((w.setCell ⟨n, 0, none⟩ x).setCell ⟨n, 1, none⟩ y).setCell ⟨n, 2, none⟩ z).heap[m]? = some o :=
  ⟨((hb.setCell (p := ⟨n, 0, none⟩) hn _).setCell (p := ⟨n, 1, none⟩) hn _).setCell (p := ⟨n, 2, none⟩) hn _, set3 h, set_far (set_far (set_far k hm) hm) hm⟩
theorem lt_of_get {w : World} {g : Nat} {o : Obj} (h : w.heap[g]? = some o) : g < w.heap.size := (Array.getElem?_eq_some_iff.1 h).1

set_option maxHeartbeats 1600000 in
theorem rquot_any (x y : Big) (W : World) (hx : 0 ≤ x.lo ∧ x.lo ≤ 18446744073709551615) (hy : 1 ≤ y.lo ∧ y.lo ≤ 18446744073709551615) :
    Calls Try.prog 68 #[x.v, y.v] W fun e w' => e = .returned (.tuple #[(bquo x y).v, (brem x y).v]) ∧ Below W.heap.size W w' := by
  have q0 : 0 ≤ x.lo / y.lo := Int.ediv_nonneg hx.1 (by omega)
  have q1 : x.lo / y.lo ≤ x.lo := Int.ediv_le_self _ hx.1
  have e0 : (!x.below == y.below) = (x.below != y.below) := by cases x.below <;> cases y.below <;> rfl
  obtain ⟨Q, hQ⟩ : ∃ Q, bfixed ⟨0, x.lo / y.lo, !x.below == y.below⟩ = Q := ⟨_, rfl⟩
  obtain ⟨R, hR⟩ : ∃ R, bfixed ⟨0, x.lo % y.lo, x.below⟩ = R := ⟨_, rfl⟩
  have hQ' : Hid (bquo x y = Q) := hide (by rw [← hQ, e0]; rfl)
  have hR' : Hid (brem x y = R) := hide (by rw [← hR]; rfl)
  clear e0
  obtain ⟨W4, hW, hwW, hWs, b0, b1, b2, b3⟩ := boxes4 W #[.int .u64 x.hi, .int .u64 x.lo, .bool x.below] #[.int .u64 y.hi, .int .u64 y.lo, .bool y.below] #[.int .u64 0, .int .u64 0, .bool false] #[.int .u64 0, .int .u64 0, .bool false] 71 71 71 71
  have x1 : ∀ w', Below W4.heap.size W4 w' → w'.cell? ⟨W.heap.size, 1, none⟩ = some (.int .u64 x.lo) := b0 1 _ rfl
  have x2 : ∀ w', Below W4.heap.size W4 w' → w'.cell? ⟨W.heap.size, 2, none⟩ = some (.bool x.below) := b0 2 _ rfl
  have y1 : ∀ w', Below W4.heap.size W4 w' → w'.cell? ⟨W.heap.size + 1, 1, none⟩ = some (.int .u64 y.lo) := b1 1 _ rfl
  have y2 : ∀ w', Below W4.heap.size W4 w' → w'.cell? ⟨W.heap.size + 1, 2, none⟩ = some (.bool y.below) := b1 2 _ rfl
  have z2 : Hid (W4.heap[W.heap.size + 1 + 1]? = some (.cells #[.int .u64 0, .int .u64 0, .bool false] 71 (0, 0))) := hide (by rw [← hW, Below.heap_alloc _ _ _ (by simp)]; have := box_top ((W.alloc (.cells #[.int .u64 x.hi, .int .u64 x.lo, .bool x.below] 71)).alloc (.cells #[.int .u64 y.hi, .int .u64 y.lo, .bool y.below] 71)) (.cells #[.int .u64 0, .int .u64 0, .bool false] 71); simpa using this)
  have z3 : Hid (W4.heap[W.heap.size + 1 + 1 + 1]? = some (.cells #[.int .u64 0, .int .u64 0, .bool false] 71 (0, 0))) := hide (by rw [← hW]; have := box_top (((W.alloc (.cells #[.int .u64 x.hi, .int .u64 x.lo, .bool x.below] 71)).alloc (.cells #[.int .u64 y.hi, .int .u64 y.lo, .bool y.below] 71)).alloc (.cells #[.int .u64 0, .int .u64 0, .bool false] 71)) (.cells #[.int .u64 0, .int .u64 0, .bool false] 71); simpa using this)
  clear b0 b1 b2 b3
  have hy0 : ¬ y.lo = 0 := by omega
  have hself := Below.refl W4.heap.size W4
  have hww := Nat.le_refl W4.heap.size
  replace hWs := hide hWs
  have hq : IntKind.u64.wrap (x.lo.tdiv y.lo) = x.lo / y.lo := by rw [Int.tdiv_eq_ediv_of_nonneg hx.1, wrap_u]; omega
  have hr : x.lo.tmod y.lo = x.lo % y.lo := Int.tmod_eq_emod_of_nonneg hx.1
  go_enter Try.func68, Try.ntmps68
  go_upto_region 1 with (fail)
  go_cut [6] (fun s6 wx => ∃ g : Nat, s6 = .pointer (some ⟨g, 0, none⟩) ∧ W4.heap.size ≤ g ∧ Hid (wx.heap[g]? = some (.cells #[.int .u64 Q.hi, .int .u64 Q.lo, .bool Q.below] 71 (0, 0))) ∧ Hid (Below W4.heap.size W4 wx))
  case first =>
    go_region_held3 (fun w' => Below W4.heap.size W4 w') (first | assumption | exact hself.drew | exact hself.drew.alloc (Nat.le_refl _) _ | exact below_next (by assumption) hww (by assumption) | exact Below.alloc (by assumption) (by assumption) _ | exact Below.setCell (Below.setCell (Below.setCell (B := W4.heap.size) (a := W4) (by assumption) (Nat.le_refl _) _) (Nat.le_refl _) _) (Nat.le_refl _) _)
      ((go_at_call 78; refine (rfixed_any _ _ _ _).mono ?_; rintro e w1 ⟨rfl, hb1⟩; obtain ⟨hc1, hf1⟩ := bcell hb1; have hk1 : Below W4.heap.size W4 w1 := below_next (by first | exact hself.drew | exact hself.drew.alloc (Nat.le_refl _) _) hww hb1; have hk2 := hk1.size))
    all_goals go_wp2_with fail
    all_goals go_meet
    · exact ⟨w1.heap.size, rfl, hk2, hide (box_top _ _), hide (by assumption)⟩
    · refine ⟨W4.heap.size, rfl, Nat.le_refl _, hide (set3 ((hb1.block _ (by show W4.heap.size < (W4.alloc _).heap.size; simp)).trans (box_top W4 _))), hide (by assumption)⟩
  case rest =>
    obtain ⟨g, rfl, hg, hq6, hbx⟩ := hcut
    obtain ⟨wa, rfl⟩ : ∃ w : World, w = wc := ⟨_, rfl⟩
    have a1 : ∀ w', Below wa.heap.size wa w' → w'.cell? ⟨W.heap.size, 1, none⟩ = some (.int .u64 x.lo) := fun w' h => x1 w' (hbx.out.trans (h.mono hbx.out.size))
    have a2 : ∀ w', Below wa.heap.size wa w' → w'.cell? ⟨W.heap.size, 2, none⟩ = some (.bool x.below) := fun w' h => x2 w' (hbx.out.trans (h.mono hbx.out.size))
    have a3 : ∀ w', Below wa.heap.size wa w' → w'.cell? ⟨W.heap.size + 1, 1, none⟩ = some (.int .u64 y.lo) := fun w' h => y1 w' (hbx.out.trans (h.mono hbx.out.size))
    clear x1 x2 y1 y2 hself hww hW
    have hself := Below.refl wa.heap.size wa
    have hww := Nat.le_refl wa.heap.size
    have hgl := lt_of_get hq6.out
    go_upto_region 2 with (fail)
    go_cut [7] (fun s7 wx => ∃ g2 : Nat, s7 = .pointer (some ⟨g2, 0, none⟩) ∧ wa.heap.size ≤ g2 ∧ Hid (wx.heap[g2]? = some (.cells #[.int .u64 R.hi, .int .u64 R.lo, .bool R.below] 71 (0, 0))) ∧ Hid (Below wa.heap.size wa wx))
    case first =>
      go_region_held3 (fun w' => Below wa.heap.size wa w') (first | assumption | exact hself.drew | exact hself.drew.alloc (Nat.le_refl _) _ | exact below_next (by assumption) hww (by assumption) | exact Below.alloc (by assumption) (by assumption) _ | exact Below.setCell (Below.setCell (Below.setCell (B := wa.heap.size) (a := wa) (by assumption) (Nat.le_refl _) _) (Nat.le_refl _) _) (Nat.le_refl _) _)
        ((go_at_call 78; refine (rfixed_any _ _ _ _).mono ?_; rintro e w1 ⟨rfl, hb1⟩; obtain ⟨hc1, hf1⟩ := bcell hb1; have hk1 : Below wa.heap.size wa w1 := below_next (by first | exact hself.drew | exact hself.drew.alloc (Nat.le_refl _) _) hww hb1; have hk2 := hk1.size))
      all_goals go_wp2_with fail
      all_goals go_meet
      · exact ⟨w1.heap.size, rfl, hk2, hide (box_top _ _), hide (by assumption)⟩
      · refine ⟨wa.heap.size, rfl, Nat.le_refl _, hide (set3 ((hb1.block _ (by show wa.heap.size < (wa.alloc _).heap.size; simp)).trans (box_top wa _))), hide (by assumption)⟩
    case rest =>
      obtain ⟨g2, rfl, hg2, hq7, hbx2⟩ := hcut
      have p6 : wc.heap[g]? = _ := (hbx2.out.block _ hgl).trans hq6.out
      have hs4 := hWs.out
      have hl4 := hbx.out.size
      have p2 : wc.heap[W.heap.size + 1 + 1]? = _ := (hbx2.out.block _ (by omega)).trans ((hbx.out.block _ (by omega)).trans z2.out)
      have p3 : wc.heap[W.heap.size + 1 + 1 + 1]? = _ := (hbx2.out.block _ (by omega)).trans ((hbx.out.block _ (by omega)).trans z3.out)
      have n1 : ¬ g = W.heap.size + 1 + 1 := by omega
      have n2 : ¬ g = W.heap.size + 1 + 1 + 1 := by omega
      have n3 : ¬ g2 = W.heap.size + 1 + 1 := by omega
      have n4 : ¬ g2 = W.heap.size + 1 + 1 + 1 := by omega
      have m1 : ¬ W.heap.size + 1 + 1 = g := by omega
      have m2 : ¬ W.heap.size + 1 + 1 + 1 = g := by omega
      have m3 : ¬ W.heap.size + 1 + 1 = g2 := by omega
      have m4 : ¬ W.heap.size + 1 + 1 + 1 = g2 := by omega
      obtain ⟨⟨c0, c1, c2⟩, _⟩ := cells3 p6
      obtain ⟨⟨d0, d1, d2⟩, _⟩ := cells3 hq7.out
      obtain ⟨⟨f0, f1, f2⟩, ⟨f3, f4, f5⟩⟩ := cells3 p2
      obtain ⟨⟨k0, k1, k2⟩, ⟨k3, k4, k5⟩⟩ := cells3 p3
      have hN : Hid (Below W.heap.size W wc) := hide (hwW.trans ((hbx.out.mono (by omega)).trans (hbx2.out.mono (by omega))))
      have p2' := hide p2
      have p3' := hide p3
      clear a1 a2 a3 hself hww hgl p6 p2 p3 hs4 hl4 hg hg2 q0 q1 hq hr hQ hR hx hy hy0 hwW
      go_wp2
      go_region
      go_wp2
      obtain ⟨hbA, qA, qA'⟩ := three_sets (n := W.heap.size + 1 + 1) (m := W.heap.size + 1 + 1 + 1) (x := .int .u64 Q.hi) (y := .int .u64 Q.lo) (z := .bool Q.below) (by omega) (by omega) hN.out p2'.out p3'.out
      obtain ⟨wA, hwA⟩ : ∃ wA, wA = (((wc.setCell ⟨W.heap.size + 1 + 1, 0, none⟩ (.int .u64 Q.hi)).setCell ⟨W.heap.size + 1 + 1, 1, none⟩ (.int .u64 Q.lo)).setCell ⟨W.heap.size + 1 + 1, 2, none⟩ (.bool Q.below)) := ⟨_, rfl⟩
      rw [← hwA] at hbA qA qA'
      rw [← hwA]
      obtain ⟨hbB, qB, qB'⟩ := three_sets (n := W.heap.size + 1 + 1 + 1) (m := W.heap.size + 1 + 1) (x := .int .u64 R.hi) (y := .int .u64 R.lo) (z := .bool R.below) (by omega) (by omega) hbA qA' qA
      obtain ⟨wB, hwB⟩ : ∃ wB, wB = (((wA.setCell ⟨W.heap.size + 1 + 1 + 1, 0, none⟩ (.int .u64 R.hi)).setCell ⟨W.heap.size + 1 + 1 + 1, 1, none⟩ (.int .u64 R.lo)).setCell ⟨W.heap.size + 1 + 1 + 1, 2, none⟩ (.bool R.below)) := ⟨_, rfl⟩
      rw [← hwB] at hbB qB qB'
      rw [← hwB]
      obtain ⟨⟨s0, s1, s2⟩, _⟩ := cells3 qB'
      obtain ⟨⟨s3, s4, s5⟩, _⟩ := cells3 qB
      clear f0 f1 f2 f3 f4 f5 k0 k1 k2 k3 k4 k5 c0 c1 c2 d0 d1 d2 hwA hwB qA qA' qB qB' n1 n2 n3 n4 m1 m2 m3 m4
      exact bodyPost_ret (v := .tuple #[Q.v, R.v]) (by simp [results, Try.results68, go_sem, s0, s1, s2, s3, s4, s5]) rfl ⟨by rw [hQ'.out, hR'.out], hbB.drew⟩
end Go.Proofs.Ytmcleghbpdenlaa
