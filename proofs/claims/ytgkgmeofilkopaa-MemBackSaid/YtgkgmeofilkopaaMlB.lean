/- lathelaw09.MemBack, walked. No condition but a number within its kind. -/
import Derived.Test.YtgkgmeofilkopaaMwL
import Derived.Test.YtgkgmeofilkopaaMmO
namespace Go.Proofs.Ytgkgmeofilkopaa
open Go.RowKit
set_option linter.unusedSimpArgs false
set_option linter.unusedVariables false

/-- the last test of MemBack -/
theorem unpack_packed (t : Int) (v : Val) (W : World) (q n : Nat) (h : Row W q (packS t v)) (hn : n = (countS t).toNat) :
    Calls Try.prog 34 #[.int .i64 t, .slice (some ⟨q, 0, none⟩) n n] W fun e w' => e = .returned (vv (unpackS t (packS t v))) ∧ Below W.heap.size W w' := by
  have hl := packS_len t v
  have h8 := countS_le t
  have hr := h.rep (B := W.heap.size) (o := 0) (n := n) (c := n) (okB_pack t v) h.lt (by omega) (Nat.le_refl _) (by unfold maxLen; omega)
  rw [List.drop_zero, List.take_of_length_le (by omega)] at hr
  exact unpack_any t _ _ W hr
theorem norm_bits (t : Int) (v : Val) (hv : 0 ≤ v.bits ∧ v.bits ≤ 18446744073709551615) : 0 ≤ (normS t v).bits ∧ (normS t v).bits ≤ 18446744073709551615 := by
  unfold normS
  split
  · have h1 := Int.emod_nonneg v.bits (show pw t ≠ 0 by have := pw_pos t; omega)
    have h2 : v.bits % pw t ≤ v.bits := by
      by_cases h : v.bits < pw t
      · rw [Int.emod_eq_of_lt hv.1 h]; exact Int.le_refl _
      · have := Int.emod_lt_of_pos v.bits (show 0 < pw t by have := pw_pos t; omega); omega
    exact ⟨h1, Int.le_trans h2 hv.2⟩
  · split
    · exact ⟨Int.le_refl _, by show (0 : Int) ≤ _; decide⟩
    · split
      · exact ⟨Int.le_refl _, by show (0 : Int) ≤ _; decide⟩
      · exact ⟨Int.le_refl _, by show (0 : Int) ≤ _; decide⟩
set_option maxRecDepth 100000 in
set_option maxHeartbeats 6400000 in
theorem law_back (t : Int) (v : Val) (w : World) (hv : 0 ≤ v.bits ∧ v.bits ≤ 18446744073709551615) :
    Calls Try.prog 6 #[.int .i64 t, vv v] w fun e w' => e = .returned (.bool true) ∧ Below w.heap.size w w' := by
  obtain ⟨x, hx⟩ : ∃ x, Hid (normS t v = x) := ⟨_, hide rfl⟩
  have cN : Hid (∀ W, Calls Try.prog 36 #[.int .i64 t, vv v] W fun e w' => e = .returned (vv x) ∧ Below W.heap.size W w') := hide (fun W => by rw [← hx.out]; exact norm_any t v W hv)
  have cM : Hid (∀ W, Calls Try.prog 36 #[.int .i64 t, vv x] W fun e w' => e = .returned (vv x) ∧ Below W.heap.size W w') := hide (fun W => by
    have h1 := norm_any t (normS t v) W (norm_bits t v hv)
    rw [norm_norm, hx.out] at h1
    exact h1)
  have cNM : Hid (∀ W u, (u = v ∨ u = x) → Calls Try.prog 36 #[.int .i64 t, vv u] W fun e w' => e = .returned (vv x) ∧ Below W.heap.size W w') := hide (fun W u hu => by
    rcases hu with rfl | rfl
    · exact cN.out W
    · exact cM.out W)
  have cB := back_law t v hv.1
  obtain ⟨n, hn⟩ : ∃ n : Nat, Hid (n = (countS t).toNat) := ⟨_, hide rfl⟩
  obtain ⟨W, hW, hwW, hWs, q1⟩ := boxes1 w #[.int .i64 v.kind, .int .u64 v.bits, .int .i64 v.block, .int .i64 v.off] 47
  have v0 := q1 0 _ rfl
  have v1 := q1 1 _ rfl
  have v2 := q1 2 _ rfl
  have v3 := q1 3 _ rfl
  clear q1
  have hws : w.heap.size < W.heap.size := by omega
  replace hWs := hide hWs
  replace hwW := hide hwW
  replace hW := hide hW
  by_cases hc : t = 65 ∧ v.kind = 3
  · rw [if_pos hc] at cB
    have cU : Hid (∀ W q, Row W q (packS t v) → Calls Try.prog 34 #[.int .i64 t, .slice (some ⟨q, 0, none⟩) n n] W fun e w' => e = .returned (vv ⟨0, 0, 0, 0⟩) ∧ Below W.heap.size W w') := hide (fun W q h => by have := unpack_packed t v W q n h hn.out; rw [cB] at this; exact this)
    clear cB
    have g1 : (t == 65) = true := beq_iff_eq.2 hc.1
    have g2 : (v.kind == 3) = true := beq_iff_eq.2 hc.2
    replace hc := hide hc
    go_enter Try.func6, Try.ntmps6
    go_wp2_with fail
    rw [hW.out]
    clear hW
    refine (lives_mem W).mono ?_
    rintro e w1 ⟨rfl, hb1⟩
    go_wp2_with fail
    refine (cN.out _).mono ?_
    rintro e w2 ⟨rfl, hb2⟩
    have hb3 := hb1.trans (hb2.mono hb1.size)
    clear hb1 hb2
    go_upto_region 4 with (fail)
    obtain ⟨U, hU⟩ : ∃ U, U = w2.alloc (.cells #[.int .i64 x.kind, .int .u64 x.bits, .int .i64 x.block, .int .i64 x.off] 47) := ⟨_, rfl⟩
    have hWU : Below W.heap.size W U := by rw [hU]; exact hb3.alloc hb3.size _
    have hX : U.heap[w2.heap.size]? = some (.cells #[.int .i64 x.kind, .int .u64 x.bits, .int .i64 x.block, .int .i64 x.off] 47 (0, 0)) := by rw [hU]; exact box_top _ _
    rw [← hU]
    obtain ⟨N, hN⟩ : ∃ N, N = w2.heap.size := ⟨_, rfl⟩
    have hWN : W.heap.size ≤ N := by rw [hN]; exact hb3.size
    rw [← hN] at hX ⊢
    clear hU hN hb3
    have hv0 := v0 U hWU
    have hv1 := v1 U hWU
    have hv2 := v2 U hWU
    have hv3 := v3 U hWU
    have fz0 := one_free (j := 0) hX
    have fz1 := one_free (j := 1) hX
    have fz2 := one_free (j := 2) hX
    have fz3 := one_free (j := 3) hX
    obtain ⟨z0, z1, z2, z3⟩ := four_cells hX
    replace hX := hide hX
    go_upto_region 6 with (fail)
    have hX2 := set_four (a' := .int .i64 0) (b' := .int .u64 0) (c' := .int .i64 0) (d' := .int .i64 0) hX.out
    have hWU2 : Below W.heap.size W ((((U.setCell ⟨N, 0, none⟩ (.int .i64 0)).setCell ⟨N, 1, none⟩ (.int .u64 0)).setCell ⟨N, 2, none⟩ (.int .i64 0)).setCell ⟨N, 3, none⟩ (.int .i64 0)) := below_four hWU hWN
    obtain ⟨U2, hU2⟩ : ∃ U2, U2 = ((((U.setCell ⟨N, 0, none⟩ (.int .i64 0)).setCell ⟨N, 1, none⟩ (.int .u64 0)).setCell ⟨N, 2, none⟩ (.int .i64 0)).setCell ⟨N, 3, none⟩ (.int .i64 0)) := ⟨_, rfl⟩
    rw [← hU2] at hX2 hWU2 ⊢
    clear hU2 fz0 fz1 fz2 fz3 z0 z1 z2 z3 hX hWU hv0 hv1 hv2 hv3
    have hX := hX2
    have hWU := hWU2
    clear hX2 hWU2
    have hNU := (Array.getElem?_eq_some_iff.1 hX).1
    have hsz := hWU.size
    have x0 : ∀ w', Below U2.heap.size U2 w' → w'.cell? ⟨N, 0, none⟩ = some (.int .i64 0) := fun w' h => box_cell hX rfl hNU h
    have x1 : ∀ w', Below U2.heap.size U2 w' → w'.cell? ⟨N, 1, none⟩ = some (.int .u64 0) := fun w' h => box_cell hX rfl hNU h
    have x2 : ∀ w', Below U2.heap.size U2 w' → w'.cell? ⟨N, 2, none⟩ = some (.int .i64 0) := fun w' h => box_cell hX rfl hNU h
    have x3 : ∀ w', Below U2.heap.size U2 w' → w'.cell? ⟨N, 3, none⟩ = some (.int .i64 0) := fun w' h => box_cell hX rfl hNU h
    have y0 : ∀ w', Below U2.heap.size U2 w' → w'.cell? ⟨w.heap.size, 0, none⟩ = some (.int .i64 v.kind) := fun w' h => v0 w' (hWU.trans (h.mono hsz))
    have y1 : ∀ w', Below U2.heap.size U2 w' → w'.cell? ⟨w.heap.size, 1, none⟩ = some (.int .u64 v.bits) := fun w' h => v1 w' (hWU.trans (h.mono hsz))
    have y2 : ∀ w', Below U2.heap.size U2 w' → w'.cell? ⟨w.heap.size, 2, none⟩ = some (.int .i64 v.block) := fun w' h => v2 w' (hWU.trans (h.mono hsz))
    have y3 : ∀ w', Below U2.heap.size U2 w' → w'.cell? ⟨w.heap.size, 3, none⟩ = some (.int .i64 v.off) := fun w' h => v3 w' (hWU.trans (h.mono hsz))
    clear v0 v1 v2 v3 hX hWN
    replace hWU := hide hWU
    replace hNU := hide hNU
    have hself : Below U2.heap.size U2 U2 := Below.refl _ _
    have hww : U2.heap.size ≤ U2.heap.size := Nat.le_refl _
    have cP : Hid (∀ W, Calls Try.prog 31 #[.int .i64 t, vv v] W (PackPost t v W)) := hide (fun W => pack_any t v W hv)
    go_region_held3 (fun w' => Below U2.heap.size U2 w') (first | (with_reducible assumption) | exact hself.drew)
      (first
        | (go_at_call 31; refine (cP.out _).mono ?_; rintro e w3 ⟨q, rfl, hrow, hq, hb3⟩; rw [← hn.out]; have hr3 := hide hrow; have hk3 : Below U2.heap.size U2 w3 := below_next (by first | with_reducible assumption | exact hself.drew) hww hb3; clear hrow hq hb3)
        | (go_at_call 34; refine (cU.out _ q hr3.out).mono ?_; rintro e w4 ⟨rfl, hb4⟩; have hk4 : Below U2.heap.size U2 w4 := below_next (by with_reducible assumption) hww hb4; clear hb4)
        | (go_at_call 36; refine (cNM.out _ _ ?_).mono ?_; (first | exact .inl rfl | exact .inr rfl); rintro e w5 ⟨rfl, hb5⟩; have hk5 : Below U2.heap.size U2 w5 := below_next (by with_reducible assumption) hww hb5; clear hb5))
    all_goals go_wp2
    all_goals go_ret
    all_goals exact ⟨rfl, hwW.out.trans ((hWU.out.trans (hk5.mono hsz)).mono (Nat.le_of_lt hws))⟩
  · rw [if_neg hc, hx.out] at cB
    have cU : Hid (∀ W q, Row W q (packS t v) → Calls Try.prog 34 #[.int .i64 t, .slice (some ⟨q, 0, none⟩) n n] W fun e w' => e = .returned (vv x) ∧ Below W.heap.size W w') := hide (fun W q h => by rw [← cB]; exact unpack_packed t v W q n h hn.out)
    clear cB
    have hd : ((t == 65) && (v.kind == 3)) = false := by
      rw [Bool.and_eq_false_iff]
      by_cases h : t = 65
      · exact .inr (beq_eq_false_iff_ne.2 (fun h3 => hc ⟨h, h3⟩))
      · exact .inl (beq_eq_false_iff_ne.2 h)
    replace hc := hide hc
    have hd' : (t == 65) = false ∨ ((t == 65) = true ∧ (v.kind == 3) = false) := by
      cases h : (t == 65)
      · exact .inl rfl
      · exact .inr ⟨rfl, by rw [h, Bool.true_and] at hd; exact hd⟩
    clear hd
    rcases hd' with g1 | ⟨g1, g2⟩
    · go_enter Try.func6, Try.ntmps6
      go_wp2_with fail
      rw [hW.out]
      clear hW
      refine (lives_mem W).mono ?_
      rintro e w1 ⟨rfl, hb1⟩
      go_wp2_with fail
      refine (cN.out _).mono ?_
      rintro e w2 ⟨rfl, hb2⟩
      have hb3 := hb1.trans (hb2.mono hb1.size)
      clear hb1 hb2
      go_upto_region 4 with (fail)
      obtain ⟨U, hU⟩ : ∃ U, U = w2.alloc (.cells #[.int .i64 x.kind, .int .u64 x.bits, .int .i64 x.block, .int .i64 x.off] 47) := ⟨_, rfl⟩
      have hWU : Below W.heap.size W U := by rw [hU]; exact hb3.alloc hb3.size _
      have hX : U.heap[w2.heap.size]? = some (.cells #[.int .i64 x.kind, .int .u64 x.bits, .int .i64 x.block, .int .i64 x.off] 47 (0, 0)) := by rw [hU]; exact box_top _ _
      rw [← hU]
      obtain ⟨N, hN⟩ : ∃ N, N = w2.heap.size := ⟨_, rfl⟩
      have hWN : W.heap.size ≤ N := by rw [hN]; exact hb3.size
      rw [← hN] at hX ⊢
      clear hU hN hb3
      have hv0 := v0 U hWU
      have hv1 := v1 U hWU
      have hv2 := v2 U hWU
      have hv3 := v3 U hWU
      go_upto_region 6 with (fail)
      clear hv0 hv1 hv2 hv3
      have hNU := (Array.getElem?_eq_some_iff.1 hX).1
      have hsz := hWU.size
      have x0 : ∀ w', Below U.heap.size U w' → w'.cell? ⟨N, 0, none⟩ = some (.int .i64 x.kind) := fun w' h => box_cell hX rfl hNU h
      have x1 : ∀ w', Below U.heap.size U w' → w'.cell? ⟨N, 1, none⟩ = some (.int .u64 x.bits) := fun w' h => box_cell hX rfl hNU h
      have x2 : ∀ w', Below U.heap.size U w' → w'.cell? ⟨N, 2, none⟩ = some (.int .i64 x.block) := fun w' h => box_cell hX rfl hNU h
      have x3 : ∀ w', Below U.heap.size U w' → w'.cell? ⟨N, 3, none⟩ = some (.int .i64 x.off) := fun w' h => box_cell hX rfl hNU h
      have y0 : ∀ w', Below U.heap.size U w' → w'.cell? ⟨w.heap.size, 0, none⟩ = some (.int .i64 v.kind) := fun w' h => v0 w' (hWU.trans (h.mono hsz))
      have y1 : ∀ w', Below U.heap.size U w' → w'.cell? ⟨w.heap.size, 1, none⟩ = some (.int .u64 v.bits) := fun w' h => v1 w' (hWU.trans (h.mono hsz))
      have y2 : ∀ w', Below U.heap.size U w' → w'.cell? ⟨w.heap.size, 2, none⟩ = some (.int .i64 v.block) := fun w' h => v2 w' (hWU.trans (h.mono hsz))
      have y3 : ∀ w', Below U.heap.size U w' → w'.cell? ⟨w.heap.size, 3, none⟩ = some (.int .i64 v.off) := fun w' h => v3 w' (hWU.trans (h.mono hsz))
      clear v0 v1 v2 v3 hX hWN
      replace hWU := hide hWU
      replace hNU := hide hNU
      have hself : Below U.heap.size U U := Below.refl _ _
      have hww : U.heap.size ≤ U.heap.size := Nat.le_refl _
      have cP : Hid (∀ W, Calls Try.prog 31 #[.int .i64 t, vv v] W (PackPost t v W)) := hide (fun W => pack_any t v W hv)
      go_region_held3 (fun w' => Below U.heap.size U w') (first | (with_reducible assumption) | exact hself.drew)
        (first
          | (go_at_call 31; refine (cP.out _).mono ?_; rintro e w3 ⟨q, rfl, hrow, hq, hb3⟩; rw [← hn.out]; have hr3 := hide hrow; have hk3 : Below U.heap.size U w3 := below_next (by first | with_reducible assumption | exact hself.drew) hww hb3; clear hrow hq hb3)
          | (go_at_call 34; refine (cU.out _ q hr3.out).mono ?_; rintro e w4 ⟨rfl, hb4⟩; have hk4 : Below U.heap.size U w4 := below_next (by with_reducible assumption) hww hb4; clear hb4)
          | (go_at_call 36; refine (cNM.out _ _ ?_).mono ?_; (first | exact .inl rfl | exact .inr rfl); rintro e w5 ⟨rfl, hb5⟩; have hk5 : Below U.heap.size U w5 := below_next (by with_reducible assumption) hww hb5; clear hb5))
      all_goals go_wp2
      all_goals go_ret
      all_goals exact ⟨rfl, hwW.out.trans ((hWU.out.trans (hk5.mono hsz)).mono (Nat.le_of_lt hws))⟩
    · go_enter Try.func6, Try.ntmps6
      go_wp2_with fail
      rw [hW.out]
      clear hW
      refine (lives_mem W).mono ?_
      rintro e w1 ⟨rfl, hb1⟩
      go_wp2_with fail
      refine (cN.out _).mono ?_
      rintro e w2 ⟨rfl, hb2⟩
      have hb3 := hb1.trans (hb2.mono hb1.size)
      clear hb1 hb2
      go_upto_region 4 with (fail)
      obtain ⟨U, hU⟩ : ∃ U, U = w2.alloc (.cells #[.int .i64 x.kind, .int .u64 x.bits, .int .i64 x.block, .int .i64 x.off] 47) := ⟨_, rfl⟩
      have hWU : Below W.heap.size W U := by rw [hU]; exact hb3.alloc hb3.size _
      have hX : U.heap[w2.heap.size]? = some (.cells #[.int .i64 x.kind, .int .u64 x.bits, .int .i64 x.block, .int .i64 x.off] 47 (0, 0)) := by rw [hU]; exact box_top _ _
      rw [← hU]
      obtain ⟨N, hN⟩ : ∃ N, N = w2.heap.size := ⟨_, rfl⟩
      have hWN : W.heap.size ≤ N := by rw [hN]; exact hb3.size
      rw [← hN] at hX ⊢
      clear hU hN hb3
      have hv0 := v0 U hWU
      have hv1 := v1 U hWU
      have hv2 := v2 U hWU
      have hv3 := v3 U hWU
      go_upto_region 6 with (fail)
      clear hv0 hv1 hv2 hv3
      have hNU := (Array.getElem?_eq_some_iff.1 hX).1
      have hsz := hWU.size
      have x0 : ∀ w', Below U.heap.size U w' → w'.cell? ⟨N, 0, none⟩ = some (.int .i64 x.kind) := fun w' h => box_cell hX rfl hNU h
      have x1 : ∀ w', Below U.heap.size U w' → w'.cell? ⟨N, 1, none⟩ = some (.int .u64 x.bits) := fun w' h => box_cell hX rfl hNU h
      have x2 : ∀ w', Below U.heap.size U w' → w'.cell? ⟨N, 2, none⟩ = some (.int .i64 x.block) := fun w' h => box_cell hX rfl hNU h
      have x3 : ∀ w', Below U.heap.size U w' → w'.cell? ⟨N, 3, none⟩ = some (.int .i64 x.off) := fun w' h => box_cell hX rfl hNU h
      have y0 : ∀ w', Below U.heap.size U w' → w'.cell? ⟨w.heap.size, 0, none⟩ = some (.int .i64 v.kind) := fun w' h => v0 w' (hWU.trans (h.mono hsz))
      have y1 : ∀ w', Below U.heap.size U w' → w'.cell? ⟨w.heap.size, 1, none⟩ = some (.int .u64 v.bits) := fun w' h => v1 w' (hWU.trans (h.mono hsz))
      have y2 : ∀ w', Below U.heap.size U w' → w'.cell? ⟨w.heap.size, 2, none⟩ = some (.int .i64 v.block) := fun w' h => v2 w' (hWU.trans (h.mono hsz))
      have y3 : ∀ w', Below U.heap.size U w' → w'.cell? ⟨w.heap.size, 3, none⟩ = some (.int .i64 v.off) := fun w' h => v3 w' (hWU.trans (h.mono hsz))
      clear v0 v1 v2 v3 hX hWN
      replace hWU := hide hWU
      replace hNU := hide hNU
      have hself : Below U.heap.size U U := Below.refl _ _
      have hww : U.heap.size ≤ U.heap.size := Nat.le_refl _
      have cP : Hid (∀ W, Calls Try.prog 31 #[.int .i64 t, vv v] W (PackPost t v W)) := hide (fun W => pack_any t v W hv)
      go_region_held3 (fun w' => Below U.heap.size U w') (first | (with_reducible assumption) | exact hself.drew)
        (first
          | (go_at_call 31; refine (cP.out _).mono ?_; rintro e w3 ⟨q, rfl, hrow, hq, hb3⟩; rw [← hn.out]; have hr3 := hide hrow; have hk3 : Below U.heap.size U w3 := below_next (by first | with_reducible assumption | exact hself.drew) hww hb3; clear hrow hq hb3)
          | (go_at_call 34; refine (cU.out _ q hr3.out).mono ?_; rintro e w4 ⟨rfl, hb4⟩; have hk4 : Below U.heap.size U w4 := below_next (by with_reducible assumption) hww hb4; clear hb4)
          | (go_at_call 36; refine (cNM.out _ _ ?_).mono ?_; (first | exact .inl rfl | exact .inr rfl); rintro e w5 ⟨rfl, hb5⟩; have hk5 : Below U.heap.size U w5 := below_next (by with_reducible assumption) hww hb5; clear hb5))
      all_goals go_wp2
      all_goals go_ret
      all_goals exact ⟨rfl, hwW.out.trans ((hWU.out.trans (hk5.mono hsz)).mono (Nat.le_of_lt hws))⟩
end Go.Proofs.Ytgkgmeofilkopaa
