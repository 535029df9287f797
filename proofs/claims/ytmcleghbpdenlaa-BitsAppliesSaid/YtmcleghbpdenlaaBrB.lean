/- The reference of layer 1: Plus, walked. No condition. -/
import Derived.Test.YtmcleghbpdenlaaBrA
import Derived.Test.YtmcleghbpdenlaaOnly
import Derived.Deep.RegionHeld3
namespace Go.Proofs.Ytmcleghbpdenlaa
open Go.RowKit
set_option linter.unusedSimpArgs false
set_option linter.unusedVariables false

theorem badd_yes {ah al bh bl : Int} {s : Bool} (h : IntKind.u64.wrap (al + bl) < al) : bplus ⟨ah, al, s⟩ ⟨bh, bl, s⟩ = ⟨IntKind.u64.wrap (IntKind.u64.wrap (ah + bh) + 1), IntKind.u64.wrap (al + bl), s⟩ := by
  rw [wrap_u] at h
  rw [bplus, if_pos rfl, badd, if_pos h, wrap_u, wrap_u, wrap_u]
theorem badd_no {ah al bh bl : Int} {s : Bool} (h : ¬ IntKind.u64.wrap (al + bl) < al) : bplus ⟨ah, al, s⟩ ⟨bh, bl, s⟩ = ⟨IntKind.u64.wrap (ah + bh), IntKind.u64.wrap (al + bl), s⟩ := by
  rw [wrap_u] at h
  rw [bplus, if_pos rfl, badd, if_neg h, wrap_u, wrap_u]
theorem bsub_yes {a b : Big} (h : a.lo < b.lo) : bsub a b = bfixed ⟨IntKind.u64.wrap (IntKind.u64.wrap (a.hi - b.hi) - 1), IntKind.u64.wrap (a.lo - b.lo), a.below⟩ := by
  rw [bsub, if_pos h, wrap_u, wrap_u, wrap_u]
theorem bsub_no {a b : Big} (h : ¬ a.lo < b.lo) : bsub a b = bfixed ⟨IntKind.u64.wrap (a.hi - b.hi), IntKind.u64.wrap (a.lo - b.lo), a.below⟩ := by
  rw [bsub, if_neg h, wrap_u, wrap_u]
theorem under1 {W w1 : World} {o1 : Obj} (h : Below (W.alloc o1).heap.size (W.alloc o1) w1) : Below W.heap.size W w1 := ((Below.refl _ _).alloc (Nat.le_refl _) _).trans (h.mono (by simp))
theorem under2 {W w1 : World} {o1 o2 : Obj} (h : Below ((W.alloc o1).alloc o2).heap.size ((W.alloc o1).alloc o2) w1) : Below W.heap.size W w1 := under1 ((under1 h).mono (by simp))
theorem under3 {W w1 : World} {o1 o2 o3 : Obj} (h : Below (((W.alloc o1).alloc o2).alloc o3).heap.size (((W.alloc o1).alloc o2).alloc o3) w1) : Below W.heap.size W w1 := under1 ((under2 h).mono (by simp))
theorem big_v {b c : Big} (h : b = c) : Ending.returned b.v = .returned c.v := by rw [h]

set_option maxHeartbeats 1000000 in
theorem plus_alike (ah al bh bl : Int) (s : Bool) (W : World) : Calls Try.prog 71 #[(Big.mk ah al s).v, (Big.mk bh bl s).v] W fun e w' => e = .returned (bplus ⟨ah, al, s⟩ ⟨bh, bl, s⟩).v ∧ Below W.heap.size W w' := by
  have hs : (s == s) = true := beq_self_eq_true s
  by_cases hc : IntKind.u64.wrap (al + bl) < al
  · have e0 := hide (big_v (badd_yes (ah := ah) (bh := bh) (s := s) hc).symm)
    go_enter Try.func71, Try.ntmps71
    go_wp2
    refine bodyPost_ret (v := .agg #[.int .u64 (IntKind.u64.wrap (IntKind.u64.wrap (ah + bh) + 1)), .int .u64 (IntKind.u64.wrap (al + bl)), .bool s]) (by simp [results, Try.results71, go_sem]) rfl ⟨e0.out, ?_⟩
    exact (((Below.refl _ _).alloc (Nat.le_refl _) _).alloc (by simp) _).alloc (by simp; omega) _
  · have e0 := hide (big_v (badd_no (ah := ah) (bh := bh) (s := s) hc).symm)
    go_enter Try.func71, Try.ntmps71
    go_wp2
    refine bodyPost_ret (v := .agg #[.int .u64 (IntKind.u64.wrap (ah + bh)), .int .u64 (IntKind.u64.wrap (al + bl)), .bool s]) (by simp [results, Try.results71, go_sem]) rfl ⟨e0.out, ?_⟩
    exact (((Below.refl _ _).alloc (Nat.le_refl _) _).alloc (by simp) _).alloc (by simp; omega) _
set_option maxHeartbeats 1000000 in
theorem plus_less (ah al bh bl : Int) (s : Bool) (W : World) (hl : bless ⟨ah, al, s⟩ ⟨bh, bl, !s⟩ = false) : Calls Try.prog 71 #[(Big.mk ah al s).v, (Big.mk bh bl !s).v] W fun e w' => e = .returned (bplus ⟨ah, al, s⟩ ⟨bh, bl, !s⟩).v ∧ Below W.heap.size W w' := by
  have hs : (s == !s) = false := by cases s <;> rfl
  have hs' : s ≠ !s := by cases s <;> decide
  have e0 : bplus ⟨ah, al, s⟩ ⟨bh, bl, !s⟩ = bsub ⟨ah, al, s⟩ ⟨bh, bl, !s⟩ := by unfold bplus; rw [if_neg hs', if_neg (by rw [hl]; decide)]
  by_cases hc : al < bl
  · skip
    have e1 := hide (big_v (e0.trans (bsub_yes hc)).symm)
    clear e0
    go_enter Try.func71, Try.ntmps71
    go_wp2_with fail
    refine (rless_any ⟨ah, al, s⟩ ⟨bh, bl, !s⟩ _).mono ?_; rintro e w1 ⟨rfl, hb1⟩
    rw [hl]
    obtain ⟨hc1, hf1⟩ := bcell hb1
    have hz0 : W.heap.size + 1 + 1 < w1.heap.size := by have := hb1.size; simp at this; omega
    have hz1 : W.heap.size + 1 < w1.heap.size := by omega
    have hz2 : W.heap.size < w1.heap.size := by omega
    go_wp2_with fail
    refine (rfixed_any (IntKind.u64.wrap (IntKind.u64.wrap (ah - bh) - 1)) (IntKind.u64.wrap (al - bl)) s _).mono ?_; rintro e w2 ⟨rfl, hb2⟩
    obtain ⟨hc2, hf2⟩ := bcell hb2
    go_wp2
    refine bodyPost_ret (v := (bfixed ⟨IntKind.u64.wrap (IntKind.u64.wrap (ah - bh) - 1), IntKind.u64.wrap (al - bl), s⟩).v) (by simp [results, Try.results71, go_sem, hc2, hc1, hz0, hz1, hz2]) rfl ⟨e1.out, ?_⟩
    exact (((((under3 hb1).trans (hb2.mono (by omega))).setCell (by show W.heap.size ≤ W.heap.size + 1 + 1; omega) _).setCell (by show W.heap.size ≤ W.heap.size + 1 + 1; omega) _).setCell (by show W.heap.size ≤ W.heap.size + 1 + 1; omega) _)
  · skip
    have e1 := hide (big_v (e0.trans (bsub_no hc)).symm)
    clear e0
    go_enter Try.func71, Try.ntmps71
    go_wp2_with fail
    refine (rless_any ⟨ah, al, s⟩ ⟨bh, bl, !s⟩ _).mono ?_; rintro e w1 ⟨rfl, hb1⟩
    rw [hl]
    obtain ⟨hc1, hf1⟩ := bcell hb1
    have hz0 : W.heap.size + 1 + 1 < w1.heap.size := by have := hb1.size; simp at this; omega
    have hz1 : W.heap.size + 1 < w1.heap.size := by omega
    have hz2 : W.heap.size < w1.heap.size := by omega
    go_wp2_with fail
    refine (rfixed_any (IntKind.u64.wrap (ah - bh)) (IntKind.u64.wrap (al - bl)) s _).mono ?_; rintro e w2 ⟨rfl, hb2⟩
    obtain ⟨hc2, hf2⟩ := bcell hb2
    go_wp2
    refine bodyPost_ret (v := (bfixed ⟨IntKind.u64.wrap (ah - bh), IntKind.u64.wrap (al - bl), s⟩).v) (by simp [results, Try.results71, go_sem, hc2, hc1, hz0, hz1, hz2]) rfl ⟨e1.out, ?_⟩
    exact (((((under3 hb1).trans (hb2.mono (by omega))).setCell (by show W.heap.size ≤ W.heap.size + 1 + 1; omega) _).setCell (by show W.heap.size ≤ W.heap.size + 1 + 1; omega) _).setCell (by show W.heap.size ≤ W.heap.size + 1 + 1; omega) _)

/-- three boxes of three cells, behind a callee that made memory -/
theorem boxes_at {W w1 : World} {a0 a1 a2 b0 b1 b2 c0 c1 c2 : Value} {t : TypeId}
    (hb : Below (((W.alloc (.cells #[a0, a1, a2] t)).alloc (.cells #[b0, b1, b2] t)).alloc (.cells #[c0, c1, c2] t)).heap.size (((W.alloc (.cells #[a0, a1, a2] t)).alloc (.cells #[b0, b1, b2] t)).alloc (.cells #[c0, c1, c2] t)) w1) :
    w1.heap[W.heap.size]? = some (.cells #[a0, a1, a2] t (0, 0)) ∧ w1.heap[W.heap.size + 1]? = some (.cells #[b0, b1, b2] t (0, 0)) ∧ w1.heap[W.heap.size + 1 + 1]? = some (.cells #[c0, c1, c2] t (0, 0)) := by
  refine ⟨(hb.block _ (by simp <;> omega)).trans ?_, (hb.block _ (by simp <;> omega)).trans ?_, (hb.block _ (by simp)).trans ?_⟩
  · rw [Below.heap_alloc _ _ _ (by simp <;> omega)]
    exact box_under _ _ _
  · have := box_under (W.alloc (.cells #[a0, a1, a2] t)) (.cells #[b0, b1, b2] t) (.cells #[c0, c1, c2] t)
    simpa using this
  · have := box_top ((W.alloc (.cells #[a0, a1, a2] t)).alloc (.cells #[b0, b1, b2] t)) (.cells #[c0, c1, c2] t)
    simpa using this
theorem cells3 {w : World} {N : Nat} {u0 u1 u2 : Value} {t : TypeId} (h : w.heap[N]? = some (.cells #[u0, u1, u2] t (0, 0))) :
    (w.cell? ⟨N, 0, none⟩ = some u0 ∧ w.cell? ⟨N, 1, none⟩ = some u1 ∧ w.cell? ⟨N, 2, none⟩ = some u2) ∧ (w.frozen? ⟨N, 0, none⟩ = false ∧ w.frozen? ⟨N, 1, none⟩ = false ∧ w.frozen? ⟨N, 2, none⟩ = false) := by simp [World.cell?, World.frozen?, h]

set_option maxHeartbeats 1000000 in
theorem plus_swap (ah al bh bl : Int) (s : Bool) (W : World) (hl : bless ⟨ah, al, s⟩ ⟨bh, bl, !s⟩ = true) : Calls Try.prog 71 #[(Big.mk ah al s).v, (Big.mk bh bl !s).v] W fun e w' => e = .returned (bplus ⟨ah, al, s⟩ ⟨bh, bl, !s⟩).v ∧ Below W.heap.size W w' := by
  have hs : (s == !s) = false := by cases s <;> rfl
  have hs' : s ≠ !s := by cases s <;> decide
  have e0 : bplus ⟨ah, al, s⟩ ⟨bh, bl, !s⟩ = bsub ⟨bh, bl, !s⟩ ⟨ah, al, s⟩ := by unfold bplus; rw [if_neg hs', if_pos hl]
  by_cases hc : bl < al
  · have e1 := hide (big_v (e0.trans (bsub_yes hc)).symm)
    clear e0
    go_enter Try.func71, Try.ntmps71
    go_wp2_with fail
    refine (rless_any ⟨ah, al, s⟩ ⟨bh, bl, !s⟩ _).mono ?_; rintro e w1 ⟨rfl, hb1⟩
    rw [hl]
    obtain ⟨q0, q1, q2⟩ := boxes_at hb1
    obtain ⟨⟨x0, x1, x2⟩, ⟨x3, x4, x5⟩⟩ := cells3 q0
    obtain ⟨⟨y0, y1, y2⟩, ⟨y3, y4, y5⟩⟩ := cells3 q1
    have hz0 : W.heap.size + 1 + 1 < w1.heap.size := by have := hb1.size; simp at this; omega
    replace hb1 := hide (under3 hb1)
    replace q0 := hide q0
    replace q1 := hide q1
    replace q2 := hide q2
    clear hl hs'
    go_wp2_with fail
    refine (rfixed_any (IntKind.u64.wrap (IntKind.u64.wrap (bh - ah) - 1)) (IntKind.u64.wrap (bl - al)) (!s) _).mono ?_; rintro e w2 ⟨rfl, hb2⟩
    have q3 : w2.heap[W.heap.size + 1 + 1]? = some (.cells #[.int .u64 0, .int .u64 0, .bool false] 71 (0, 0)) := (hb2.block _ (by simp [World.setCell]; omega)).trans (set_far (set_far (set_far (set_far (set_far (set_far q2.out (by omega)) (by omega)) (by omega)) (by omega)) (by omega)) (by omega))
    obtain ⟨⟨z0, z1, z2⟩, ⟨z3, z4, z5⟩⟩ := cells3 q3
    replace q3 := hide q3
    replace hb2 := hide hb2
    clear x0 x1 x2 x3 x4 x5 y0 y1 y2 y3 y4 y5
    go_wp2
    refine bodyPost_ret (v := (bfixed ⟨IntKind.u64.wrap (IntKind.u64.wrap (bh - ah) - 1), IntKind.u64.wrap (bl - al), !s⟩).v) (by simp [results, Try.results71, go_sem, z0, z1, z2, z3, z4, z5]) rfl ⟨e1.out, ?_⟩
    have hk : Below W.heap.size W w2 := by
      refine Below.trans ?_ (hb2.out.mono (by simp [World.setCell]; omega))
      exact ((((((hb1.out.setCell (by show W.heap.size ≤ W.heap.size; omega) _).setCell (by show W.heap.size ≤ W.heap.size; omega) _).setCell (by show W.heap.size ≤ W.heap.size; omega) _).setCell (by show W.heap.size ≤ W.heap.size + 1; omega) _).setCell (by show W.heap.size ≤ W.heap.size + 1; omega) _).setCell (by show W.heap.size ≤ W.heap.size + 1; omega) _)
    exact ((hk.setCell (by show W.heap.size ≤ W.heap.size + 1 + 1; omega) _).setCell (by show W.heap.size ≤ W.heap.size + 1 + 1; omega) _).setCell (by show W.heap.size ≤ W.heap.size + 1 + 1; omega) _
  · have e1 := hide (big_v (e0.trans (bsub_no hc)).symm)
    clear e0
    go_enter Try.func71, Try.ntmps71
    go_wp2_with fail
    refine (rless_any ⟨ah, al, s⟩ ⟨bh, bl, !s⟩ _).mono ?_; rintro e w1 ⟨rfl, hb1⟩
    rw [hl]
    obtain ⟨q0, q1, q2⟩ := boxes_at hb1
    obtain ⟨⟨x0, x1, x2⟩, ⟨x3, x4, x5⟩⟩ := cells3 q0
    obtain ⟨⟨y0, y1, y2⟩, ⟨y3, y4, y5⟩⟩ := cells3 q1
    have hz0 : W.heap.size + 1 + 1 < w1.heap.size := by have := hb1.size; simp at this; omega
    replace hb1 := hide (under3 hb1)
    replace q0 := hide q0
    replace q1 := hide q1
    replace q2 := hide q2
    clear hl hs'
    go_wp2_with fail
    refine (rfixed_any (IntKind.u64.wrap (bh - ah)) (IntKind.u64.wrap (bl - al)) (!s) _).mono ?_; rintro e w2 ⟨rfl, hb2⟩
    have q3 : w2.heap[W.heap.size + 1 + 1]? = some (.cells #[.int .u64 0, .int .u64 0, .bool false] 71 (0, 0)) := (hb2.block _ (by simp [World.setCell]; omega)).trans (set_far (set_far (set_far (set_far (set_far (set_far q2.out (by omega)) (by omega)) (by omega)) (by omega)) (by omega)) (by omega))
    obtain ⟨⟨z0, z1, z2⟩, ⟨z3, z4, z5⟩⟩ := cells3 q3
    replace q3 := hide q3
    replace hb2 := hide hb2
    clear x0 x1 x2 x3 x4 x5 y0 y1 y2 y3 y4 y5
    go_wp2
    refine bodyPost_ret (v := (bfixed ⟨IntKind.u64.wrap (bh - ah), IntKind.u64.wrap (bl - al), !s⟩).v) (by simp [results, Try.results71, go_sem, z0, z1, z2, z3, z4, z5]) rfl ⟨e1.out, ?_⟩
    have hk : Below W.heap.size W w2 := by
      refine Below.trans ?_ (hb2.out.mono (by simp [World.setCell]; omega))
      exact ((((((hb1.out.setCell (by show W.heap.size ≤ W.heap.size; omega) _).setCell (by show W.heap.size ≤ W.heap.size; omega) _).setCell (by show W.heap.size ≤ W.heap.size; omega) _).setCell (by show W.heap.size ≤ W.heap.size + 1; omega) _).setCell (by show W.heap.size ≤ W.heap.size + 1; omega) _).setCell (by show W.heap.size ≤ W.heap.size + 1; omega) _)
    exact ((hk.setCell (by show W.heap.size ≤ W.heap.size + 1 + 1; omega) _).setCell (by show W.heap.size ≤ W.heap.size + 1 + 1; omega) _).setCell (by show W.heap.size ≤ W.heap.size + 1 + 1; omega) _

theorem rplus_any (a b : Big) (W : World) : Calls Try.prog 71 #[a.v, b.v] W fun e w' => e = .returned (bplus a b).v ∧ Below W.heap.size W w' := by
  obtain ⟨ah, al, s⟩ := a
  obtain ⟨bh, bl, t⟩ := b
  by_cases h : t = s
  · subst h; exact plus_alike ah al bh bl t W
  · have : t = !s := by cases t <;> cases s <;> simp_all
    subst this
    cases hl : bless ⟨ah, al, s⟩ ⟨bh, bl, !s⟩
    · exact plus_less ah al bh bl s W hl
    · exact plus_swap ah al bh bl s W hl
end Go.Proofs.Ytmcleghbpdenlaa
