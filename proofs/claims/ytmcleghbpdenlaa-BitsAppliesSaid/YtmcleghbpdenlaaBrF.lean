/- The reference of layer 1: Times, walked. No condition. -/
import Derived.Test.YtmcleghbpdenlaaBrD
namespace Go.Proofs.Ytmcleghbpdenlaa
open Go.RowKit
set_option linter.unusedSimpArgs false
set_option linter.unusedVariables false

theorem badd_lo (u v : Big) (h : u.below = v.below) : 0 ≤ (bplus u v).lo ∧ (bplus u v).lo ≤ 18446744073709551615 := by
  have e : bplus u v = badd u v := if_pos h
  rw [e]
  show 0 ≤ (u.lo + v.lo) % 18446744073709551616 ∧ (u.lo + v.lo) % 18446744073709551616 ≤ 18446744073709551615
  omega
set_option maxRecDepth 100000 in
set_option maxHeartbeats 1600000 in
theorem rtimes_any (a b : Big) (W : World) (ha : 0 ≤ a.lo ∧ a.lo ≤ 18446744073709551615) (hb : 0 ≤ b.lo ∧ b.lo ≤ 18446744073709551615) :
    Calls Try.prog 77 #[a.v, b.v] W fun e w' => e = .returned (btimes a b).v ∧ Below W.heap.size W w' := by
  obtain ⟨p, hp⟩ : ∃ p, a.lo / 4294967296 = p := ⟨_, rfl⟩
  obtain ⟨q, hq⟩ : ∃ p, a.lo % 4294967296 = p := ⟨_, rfl⟩
  obtain ⟨r, hr⟩ : ∃ p, b.lo / 4294967296 = p := ⟨_, rfl⟩
  obtain ⟨s, hs⟩ : ∃ p, b.lo % 4294967296 = p := ⟨_, rfl⟩
  obtain ⟨ps, hps⟩ : ∃ x, IntKind.u64.wrap (p * s) = x := ⟨_, rfl⟩
  obtain ⟨qr, hqr⟩ : ∃ x, IntKind.u64.wrap (q * r) = x := ⟨_, rfl⟩
  obtain ⟨qs, hqs⟩ : ∃ x, IntKind.u64.wrap (q * s) = x := ⟨_, rfl⟩
  obtain ⟨pr, hpr⟩ : ∃ x, IntKind.u64.wrap (p * r) = x := ⟨_, rfl⟩
  obtain ⟨M, hM⟩ : ∃ M, bplus ⟨0, ps, false⟩ ⟨0, qr, false⟩ = M := ⟨_, rfl⟩
  have hMlo : 0 ≤ M.lo ∧ M.lo ≤ 18446744073709551615 := by rw [← hM]; exact badd_lo _ _ rfl
  obtain ⟨uh, huh⟩ : ∃ x, IntKind.u64.wrap (IntKind.u64.wrap (M.hi * 4294967296) + M.lo / 4294967296) = x := ⟨_, rfl⟩
  obtain ⟨ul, hul⟩ : ∃ x, IntKind.u64.wrap (M.lo % 4294967296 * 4294967296) = x := ⟨_, rfl⟩
  obtain ⟨X, hX⟩ : ∃ X, bplus ⟨0, qs, false⟩ ⟨uh, ul, false⟩ = X := ⟨_, rfl⟩
  obtain ⟨Y, hY⟩ : ∃ Y, bplus X ⟨pr, 0, false⟩ = Y := ⟨_, rfl⟩
  have hres : Hid (btimes a b = bfixed ⟨Y.hi, Y.lo, a.below != b.below⟩) := hide (by
    unfold btimes
    have g1 : p * s % 18446744073709551616 = ps := by rw [← hps, wrap_u]
    have g2 : q * r % 18446744073709551616 = qr := by rw [← hqr, wrap_u]
    have g3 : q * s % 18446744073709551616 = qs := by rw [← hqs, wrap_u]
    have g4 : p * r % 18446744073709551616 = pr := by rw [← hpr, wrap_u]
    have g5 : (M.hi * 4294967296 % 18446744073709551616 + M.lo / 4294967296) % 18446744073709551616 = uh := by rw [← huh, wrap_u, wrap_u]
    have g6 : M.lo % 4294967296 * 4294967296 % 18446744073709551616 = ul := by rw [← hul, wrap_u]
    simp only [hp, hq, hr, hs, g1, g2, g3, g4, hM, g5, g6, hX, hY])
  replace hX := hide hX
  replace hY := hide hY
  go_enter Try.func77, Try.ntmps77
  go_wp2_with fail
  refine (rplus_any ⟨0, ps, false⟩ ⟨0, qr, false⟩ _).mono ?_; rintro e w1 ⟨rfl, hb1⟩
  rw [hM]
  have k0 : w1.heap[W.heap.size]? = some (.cells #[.int .u64 a.hi, .int .u64 a.lo, .bool a.below] 71 (0, 0)) := (hb1.block _ (by simp <;> omega)).trans (by rw [Below.heap_alloc _ _ _ (by simp <;> omega), Below.heap_alloc _ _ _ (by simp <;> omega)]; exact box_under _ _ _)
  have k1 : w1.heap[W.heap.size + 1]? = some (.cells #[.int .u64 b.hi, .int .u64 b.lo, .bool b.below] 71 (0, 0)) := (hb1.block _ (by simp <;> omega)).trans (by rw [Below.heap_alloc _ _ _ (by simp <;> omega)]; have := box_under (W.alloc (.cells #[.int .u64 a.hi, .int .u64 a.lo, .bool a.below] 71)) (.cells #[.int .u64 b.hi, .int .u64 b.lo, .bool b.below] 71) (.cells #[.int .u64 0, .int .u64 0, .bool false] 71); simpa using this)
  have k2 : w1.heap[W.heap.size + 1 + 1]? = some (.cells #[.int .u64 0, .int .u64 0, .bool false] 71 (0, 0)) := (hb1.block _ (by simp <;> omega)).trans (by have := box_under ((W.alloc (.cells #[.int .u64 a.hi, .int .u64 a.lo, .bool a.below] 71)).alloc (.cells #[.int .u64 b.hi, .int .u64 b.lo, .bool b.below] 71)) (.cells #[.int .u64 0, .int .u64 0, .bool false] 71) (.cells #[.int .u64 0, .int .u64 qs, .bool false] 71); simpa using this)
  have k3 : w1.heap[W.heap.size + 1 + 1 + 1]? = some (.cells #[.int .u64 0, .int .u64 qs, .bool false] 71 (0, 0)) := (hb1.block _ (by simp)).trans (by have := box_top (((W.alloc (.cells #[.int .u64 a.hi, .int .u64 a.lo, .bool a.below] 71)).alloc (.cells #[.int .u64 b.hi, .int .u64 b.lo, .bool b.below] 71)).alloc (.cells #[.int .u64 0, .int .u64 0, .bool false] 71)) (.cells #[.int .u64 0, .int .u64 qs, .bool false] 71); simpa using this)
  have hN1 : Hid (Below W.heap.size W w1) := hide (under1 ((under3 hb1).mono (by simp)))
  replace k0 := hide k0
  replace k1 := hide k1
  replace k2 := hide k2
  replace k3 := hide k3
  go_wp2_with fail
  obtain ⟨W9, hW9⟩ : ∃ W9, W9 = ((w1.alloc (.cells #[.int .u64 M.hi, .int .u64 M.lo, .bool M.below] 71)).alloc (.cells #[.int .u64 pr, .int .u64 0, .bool false] 71)).alloc (.cells #[.int .u64 uh, .int .u64 ul, .bool false] 71) := ⟨_, rfl⟩
  rw [← hW9]
  have j3 : Hid (W9.heap[W.heap.size + 1 + 1 + 1]? = some (.cells #[.int .u64 0, .int .u64 qs, .bool false] 71 (0, 0))) := hide (by rw [hW9]; exact one_alloc (one_alloc (one_alloc k3.out _) _) _)
  have j4 : Hid (W9.heap[w1.heap.size + 1]? = some (.cells #[.int .u64 pr, .int .u64 0, .bool false] 71 (0, 0))) := hide (by rw [hW9]; exact one_alloc (by have := box_top (w1.alloc (.cells #[.int .u64 M.hi, .int .u64 M.lo, .bool M.below] 71)) (.cells #[.int .u64 pr, .int .u64 0, .bool false] 71); simpa using this) _)
  have j5 : Hid (W9.heap[w1.heap.size + 1 + 1]? = some (.cells #[.int .u64 uh, .int .u64 ul, .bool false] 71 (0, 0))) := hide (by rw [hW9]; have := box_top ((w1.alloc (.cells #[.int .u64 M.hi, .int .u64 M.lo, .bool M.below] 71)).alloc (.cells #[.int .u64 pr, .int .u64 0, .bool false] 71)) (.cells #[.int .u64 uh, .int .u64 ul, .bool false] 71); simpa using this)
  have j0 : Hid (W9.heap[W.heap.size]? = some (.cells #[.int .u64 a.hi, .int .u64 a.lo, .bool a.below] 71 (0, 0))) := hide (by rw [hW9]; exact one_alloc (one_alloc (one_alloc k0.out _) _) _)
  have j1 : Hid (W9.heap[W.heap.size + 1]? = some (.cells #[.int .u64 b.hi, .int .u64 b.lo, .bool b.below] 71 (0, 0))) := hide (by rw [hW9]; exact one_alloc (one_alloc (one_alloc k1.out _) _) _)
  have j2 : Hid (W9.heap[W.heap.size + 1 + 1]? = some (.cells #[.int .u64 0, .int .u64 0, .bool false] 71 (0, 0))) := hide (by rw [hW9]; exact one_alloc (one_alloc (one_alloc k2.out _) _) _)
  have hN9 : Hid (Below W.heap.size W W9) := hide (by rw [hW9]; exact ((hN1.out.alloc hN1.out.size _).alloc (by have := hN1.out.size; simp; omega) _).alloc (by have := hN1.out.size; simp; omega) _)
  clear hW9 k0 k1 k2 k3 hb1
  have at3 : ∀ {g : Nat} {c0 c1 c2 : Value}, W9.heap[g]? = some (.cells #[c0, c1, c2] 71 (0, 0)) → ∀ w', Below W9.heap.size W9 w' → w'.cell? ⟨g, 0, none⟩ = some c0 ∧ w'.cell? ⟨g, 1, none⟩ = some c1 ∧ w'.cell? ⟨g, 2, none⟩ = some c2 := fun h w' hw => (cells3 ((hw.block _ (lt_of_get h)).trans h)).1
  have l0 := fun w' hw => (at3 j3.out w' hw).1
  have l1 := fun w' hw => (at3 j3.out w' hw).2.1
  have l2 := fun w' hw => (at3 j3.out w' hw).2.2
  have h0 := fun w' hw => (at3 j4.out w' hw).1
  have h1 := fun w' hw => (at3 j4.out w' hw).2.1
  have h2 := fun w' hw => (at3 j4.out w' hw).2.2
  have u0 := fun w' hw => (at3 j5.out w' hw).1
  have u1 := fun w' hw => (at3 j5.out w' hw).2.1
  have u2 := fun w' hw => (at3 j5.out w' hw).2.2
  clear at3
  have hself := Below.refl W9.heap.size W9
  have hww := Nat.le_refl W9.heap.size
  clear hps hqr hqs hpr hM hMlo huh hul hp hq hr hs ha hb
  go_upto_region 9 with (fail)
  go_cut [13] (fun s13 wx => ∃ g : Nat, s13 = .pointer (some ⟨g, 0, none⟩) ∧ W9.heap.size ≤ g ∧ Hid (wx.heap[g]? = some (.cells #[.int .u64 Y.hi, .int .u64 Y.lo, .bool Y.below] 71 (0, 0))) ∧ Hid (Below W9.heap.size W9 wx))
  case first =>
    go_region_held3 (fun w' => Below W9.heap.size W9 w') (first | assumption | exact hself.drew | exact hself.drew.alloc (Nat.le_refl _) _ | exact below_next (by assumption) hww (by assumption) | exact Below.alloc (by assumption) (by assumption) _ | exact Below.setCell (Below.setCell (Below.setCell (B := W9.heap.size) (a := W9) (by assumption) (by first | exact Nat.le_refl _ | assumption) _) (by first | exact Nat.le_refl _ | assumption) _) (by first | exact Nat.le_refl _ | assumption) _)
      (first
        | (go_at_call 71; (with_reducible refine (rplus_any ⟨0, qs, false⟩ ⟨uh, ul, false⟩ _).mono ?_); rintro e w2 ⟨rfl, hb2⟩; rw [hX.out]; obtain ⟨hc2, hf2⟩ := bcell hb2; have hk2 : Below W9.heap.size W9 w2 := below_next (by first | exact hself.drew | exact hself.drew.alloc (Nat.le_refl _) _) hww hb2; have hl2 := hk2.size; (try have hs2 : W9.heap.size < w2.heap.size := by have := hb2.size; simp at this; omega))
        | (go_at_call 71; (with_reducible refine (rplus_any X ⟨pr, 0, false⟩ _).mono ?_); rintro e w3 ⟨rfl, hb3⟩; rw [hY.out]; obtain ⟨hc3, hf3⟩ := bcell hb3; have hk3 : Below W9.heap.size W9 w3 := below_next (by assumption) hww hb3; have hl3 := hk3.size; (try have hs3 : W9.heap.size < w3.heap.size := by have := hb3.size; simp at this; omega)))
    all_goals go_wp2_with fail
    all_goals go_meet
    · exact ⟨w3.heap.size, rfl, hl3, hide (box_top _ _), hide (by assumption)⟩
    · exact ⟨w2.heap.size, rfl, hl2, hide (set3 ((hb3.block _ (by show w2.heap.size < (w2.alloc _).heap.size; simp)).trans (box_top w2 _))), hide (by assumption)⟩
    · exact ⟨W9.heap.size, rfl, Nat.le_refl _, hide (set3 ((hb3.block _ hs2).trans ((hb2.block _ (by show W9.heap.size < (W9.alloc _).heap.size; simp)).trans (box_top W9 _)))), hide (by assumption)⟩
  case rest =>
    obtain ⟨g, rfl, hg, hq, hbx⟩ := hcut
    have e0 : (!a.below == b.below) = (a.below != b.below) := by cases a.below <;> cases b.below <;> rfl
    have z0 := lt_of_get j0.out
    have z1 := lt_of_get j1.out
    have z2 := lt_of_get j2.out
    have p0 : wc.heap[W.heap.size]? = _ := (hbx.out.block _ z0).trans j0.out
    have p1 : wc.heap[W.heap.size + 1]? = _ := (hbx.out.block _ z1).trans j1.out
    have p2 := hide ((hbx.out.block _ z2).trans j2.out)
    obtain ⟨⟨a0, a1, a2⟩, _⟩ := cells3 p0
    obtain ⟨⟨b0, b1, b2⟩, _⟩ := cells3 p1
    obtain ⟨⟨t0, t1, t2⟩, ⟨t3, t4, t5⟩⟩ := cells3 hq.out
    have hgl := lt_of_get hq.out
    have hNc : Hid (Below W.heap.size W wc) := hide (hN9.out.trans (hbx.out.mono hN9.out.size))
    have hres' := hres
    rw [← e0] at hres'
    clear l0 l1 l2 h0 h1 h2 u0 u1 u2 hself hww p0 p1 hres e0
    have n1 : ¬ g = W.heap.size := by omega
    have n2 : ¬ g = W.heap.size + 1 := by omega
    go_wp2_with fail
    refine (rfixed_any Y.hi Y.lo (!a.below == b.below) _).mono ?_; rintro e w5 ⟨rfl, hb5⟩
    have hgs : (wc.setCell ⟨g, 2, none⟩ (.bool (!a.below == b.below))).heap.size = wc.heap.size := by simp [World.setCell]
    have hcs := hbx.out.size
    have r5 : w5.heap[W.heap.size + 1 + 1]? = some (.cells #[.int .u64 0, .int .u64 0, .bool false] 71 (0, 0)) := (hb5.block _ (by rw [hgs]; omega)).trans (set_far p2.out (by omega))
    have hN5 : Hid (Below W.heap.size W w5) := hide ((hNc.out.setCell (p := ⟨g, 2, none⟩) (by show W.heap.size ≤ g; omega) _).trans (hb5.mono (by rw [hgs]; have := hNc.out.size; omega)))
    obtain ⟨⟨s0, s1, s2⟩, ⟨s3, s4, s5⟩⟩ := cells3 r5
    obtain ⟨F, hF⟩ : ∃ F, bfixed ⟨Y.hi, Y.lo, !a.below == b.below⟩ = F := ⟨_, rfl⟩
    rw [hF] at hres'
    clear a0 a1 a2 b0 b1 b2 t0 t1 t2 t3 t4 t5 n1 n2 hb5 hgs z0 z1 z2 hg hgl hcs r5
    rw [hF]
    go_wp2
    refine bodyPost_ret (v := F.v) (by simp [results, Try.results77, go_sem, s0, s1, s2, s3, s4, s5]) rfl ⟨by rw [hres'.out], ?_⟩
    exact ((hN5.out.setCell (by show W.heap.size ≤ W.heap.size + 1 + 1; omega) _).setCell (by show W.heap.size ≤ W.heap.size + 1 + 1; omega) _).setCell (by show W.heap.size ≤ W.heap.size + 1 + 1; omega) _
end Go.Proofs.Ytmcleghbpdenlaa
