/- The law GraphPermutes, walked. No condition but sizes. -/
import Derived.Test.YtffklfalocamiaaGrR
import Derived.Test.YtffklfalocamiaaGrZc
namespace Go.Proofs.Ytffklfalocamiaa
open Go.RowKit
set_option linter.unusedSimpArgs false
set_option linter.unusedVariables false

theorem pick_mv (a : Int) {n : Nat} (h3 : 3 ≤ n) (hn : n ≤ 2000000) : ∃ A : Nat, Hid (0 < A ∧ A < n) ∧ Hid (wrap64 (1 + wrap64 ((IntKind.u64.wrap a).tmod ((n : Int) - 1))) = (A : Int)) := by
  have h0 : 0 ≤ IntKind.u64.wrap a := wrap_u64_nonneg a
  have h1 : 0 ≤ (IntKind.u64.wrap a) % ((n : Int) - 1) := Int.emod_nonneg _ (by omega)
  have h2 : (IntKind.u64.wrap a) % ((n : Int) - 1) < (n : Int) - 1 := Int.emod_lt_of_pos _ (by omega)
  refine ⟨(1 + (IntKind.u64.wrap a) % ((n : Int) - 1)).toNat, hide ⟨by omega, by omega⟩, hide ?_⟩
  have hw : ∀ z : Int, 0 ≤ z → z ≤ 9223372036854775807 → wrap64 z = z := fun z _ _ => by unfold wrap64; omega
  rw [Int.tmod_eq_emod_of_nonneg h0, hw ((IntKind.u64.wrap a) % ((n : Int) - 1)) (by omega) (by omega), hw _ (by omega) (by omega), Int.toNat_of_nonneg (by omega)]
theorem swap_mem {a b : Nat} {bs : List (List Ins)} (ha : a < bs.length) (hb : b < bs.length) {x : List Ins} (hx : x ∈ swapS a b bs) : ∃ y, y ∈ bs ∧ x = y.map (mvIns a b) := by
  have hm : ∀ k, k < bs.length → ∃ y, y ∈ bs ∧ (mvAll a b bs).getD k [] = y.map (mvIns a b) := fun k hk => ⟨bs[k], List.getElem_mem hk, by simp [mvAll, List.getD, hk]⟩
  unfold swapS at hx
  rcases List.mem_or_eq_of_mem_set hx with hx | rfl
  · rcases List.mem_or_eq_of_mem_set hx with hx | rfl
    · unfold mvAll at hx
      obtain ⟨y, hy, rfl⟩ := List.mem_map.1 hx
      exact ⟨y, hy, rfl⟩
    · exact hm b hb
  · exact hm a ha
theorem small_swap {f : Fun} {a b : Nat} (hs : Small f) (ha : a < f.blocks.length) (hb : b < f.blocks.length) : Small (setBlocks f (swapS a b f.blocks)) := by
  refine ⟨hs.params, by show (swapS a b f.blocks).length ≤ _; rw [swap_len]; exact hs.blocks, fun x hx => ?_⟩
  obtain ⟨y, hy, rfl⟩ := swap_mem ha hb hx
  obtain ⟨h1, h2⟩ := hs.code y hy
  refine ⟨by rw [List.length_map]; exact h1, fun i hi => ?_⟩
  obtain ⟨j, hj, rfl⟩ := List.mem_map.1 hi
  exact ⟨(h2 j hj).1, by show (j.to.map _).length ≤ _; rw [List.length_map]; exact (h2 j hj).2⟩
set_option maxRecDepth 100000 in
set_option maxHeartbeats 12800000 in
theorem law_permutes (f : Fun) (a b : Int) (c1 c2 : Value) (w : World) (hf : RFun.rep w w.heap.size [.string f.name, c1, .int .i64 f.ret, c2] f) (hs : Small f) :
    Calls Try.prog 5 #[f.v c1 c2, .int .i64 a, .int .i64 b] w (LawPost w) := by
  obtain ⟨hp, hb⟩ := fun_open (RFun.later hf (Below.refl _ _) (Nat.le_refl _))
  obtain ⟨A1, k1, h1, -, -⟩ := Rp.slice1_open hp
  obtain ⟨A2, k2, h2, hm2, -⟩ := Rp.slice1_open hb
  cases h1; cases h2
  clear hp hb
  obtain ⟨n, hn⟩ : ∃ n, Hid (n = f.blocks.length) := ⟨_, hide rfl⟩
  have hnle : n ≤ 2000000 := by rw [hn.out]; exact hs.blocks
  obtain ⟨sc, hsc⟩ : ∃ sc, Hid (sc = succsF f.blocks) := ⟨_, hide rfl⟩
  have hsok : Hid (∀ b, SuccOk n (sc b)) := hide (fun b => by rw [hsc.out, hn.out]; exact succsF_ok _ _)
  obtain ⟨R, hR⟩ : ∃ R, Hid (R = reachF f.blocks) := ⟨_, hide rfl⟩
  obtain ⟨O, hO⟩ : ∃ O, Hid (O = orderF f.blocks) := ⟨_, hide rfl⟩
  have hol : O.length ≤ n := by rw [hO.out, hn.out]; exact order_len _
  have hob : Hid (∀ x, x ∈ O → 0 ≤ x ∧ x < n) := hide (by rw [hO.out, hn.out]; exact (order_ok _).bound)
  have hnd : Hid O.Nodup := hide (by rw [hO.out]; exact (order_ok _).nodup)
  obtain ⟨P, hP⟩ : ∃ P, Hid (P = predsL sc n) := ⟨_, hide rfl⟩
  have hPl : P.length = n := by rw [hP.out, predsL_len]
  have hRl : R.length = n := by rw [hR.out, hn.out, reach_len]
  rw [← hn.out] at hf hm2 ⊢
  obtain ⟨W, hW, hwW, hWs, hx⟩ := boxes1 w #[.string f.name, .slice A1 f.params.length k1, .int .i64 f.ret, .slice A2 n k2] 41
  have q0 : ∀ w', Below W.heap.size W w' → w'.cell? ⟨w.heap.size, 0, none⟩ = some (.string f.name) := hx 0 _ rfl
  have q1 : ∀ w', Below W.heap.size W w' → w'.cell? ⟨w.heap.size, 1, none⟩ = some (.slice A1 f.params.length k1) := hx 1 _ rfl
  have q2 : ∀ w', Below W.heap.size W w' → w'.cell? ⟨w.heap.size, 2, none⟩ = some (.int .i64 f.ret) := hx 2 _ rfl
  have q3 : ∀ w', Below W.heap.size W w' → w'.cell? ⟨w.heap.size, 3, none⟩ = some (.slice A2 n k2) := hx 3 _ rfl
  clear hx
  have hws : w.heap.size ≤ W.heap.size := by omega
  replace hWs := hide hWs
  have hself := Below.refl W.heap.size W
  have hF : Hid (∀ w', Below W.heap.size W w' → RFun.rep w' w'.heap.size [.string f.name, .slice A1 f.params.length k1, .int .i64 f.ret, .slice A2 n k2] f) := hide (fun w' h => RFun.later hf (hwW.trans (h.mono hws)) (hwW.trans (h.mono hws)).size)
  have hsmall := hide hs
  have cL : Hid (∀ w', Below W.heap.size W w' → Calls Try.prog 24 #[f.v (.slice A1 f.params.length k1) (.slice A2 n k2)] w' (LongPost n w')) := hide (fun w' h => by
    have := long_any f (.slice A1 f.params.length k1) (.slice A2 n k2) w' w'.heap.size (Nat.le_refl _) (hF.out w' h)
    rwa [← hn.out] at this)
  obtain ⟨i0, hi0, hz0, hz1, hz2⟩ := cinfo_parts cinfo_int
  replace hi0 := hide hi0
  replace hz0 := hide hz0
  replace hz1 := hide hz1
  replace hz2 := hide hz2
  replace hs := hide hs
  replace hf := hide hf
  replace hwW := hide hwW
  go_enter Try.func5, Try.ntmps5
  go_wp2_with (fail)
  refine (lives06_any _).mono ?_
  rintro e w1 ⟨rfl, hb1⟩
  go_wp2_with (fail)
  refine (cL.out _ hb1).mono ?_
  rintro e w2 ⟨bl, rfl, h80, hb2⟩
  have hbel2 := hb1.trans (hb2.mono hb1.size)
  clear hb1 hb2 h80
  cases bl with
  | true =>
    go_wp2
    go_ret
    exact ⟨rfl, hwW.out.trans (hbel2.mono hws)⟩
  | false =>
    by_cases hn3 : n < 3
    · have hn3i : (n : Int) < 3 := by omega
      go_wp2
      go_ret
      exact ⟨rfl, hwW.out.trans (hbel2.mono hws)⟩
    · have hn3i : ¬ (n : Int) < 3 := by omega
      go_upto_region 6 with (fail)
      go_quiet (fail)
      have hbel3 : Below W.heap.size W (w2.drewN nq) := below_drewN hbel2 _
      obtain ⟨w3, hw3⟩ : ∃ w3, w3 = w2.drewN nq := ⟨_, rfl⟩
      rw [← hw3] at hbel3 ⊢
      clear hw3 hbel2
      obtain ⟨A, hAn, hAe⟩ := pick_mv a (n := n) (by omega) hnle
      obtain ⟨B, hBn, hBe⟩ := pick_mv b (n := n) (by omega) hnle
      rw [hAe.out, hBe.out]
      have cW := hide (swapped_any f A B (.slice A1 f.params.length k1) (.slice A2 n k2) w3 w3.heap.size (Nat.le_refl _) (hF.out w3 hbel3) hsmall.out (by rw [← hn.out]; exact hAn.out.2) (by rw [← hn.out]; exact hBn.out.2))
      have hs3 := hbel3.size
      go_wp2_with (fail)
      refine cW.out.mono ?_
      rintro e w4 ⟨Ag, Cg, Dg, Eg, rfl, hgr, hb4⟩
      rw [← hn.out] at hgr ⊢
      have hbel4 := hbel3.trans (hb4.mono hs3)
      have hs4 := hbel4.size
      clear cW hb4
      go_upto_region 8 with (fail)
      obtain ⟨Y, hY, hwY, hYs, hy⟩ := boxes1 w4 #[.string f.name, .slice Ag f.params.length Cg, .int .i64 f.ret, .slice Dg n Eg] 41
      have hwYW : Hid (Below W.heap.size W Y) := hide (hbel4.trans (hwY.mono hs4))
      have hYss : Hid (W.heap.size ≤ Y.heap.size) := hide hwYW.out.size
      have m0 : ∀ w', Below Y.heap.size Y w' → w'.cell? ⟨w4.heap.size, 0, none⟩ = some (.string f.name) := hy 0 _ rfl
      have m1 : ∀ w', Below Y.heap.size Y w' → w'.cell? ⟨w4.heap.size, 1, none⟩ = some (.slice Ag f.params.length Cg) := hy 1 _ rfl
      have m2 : ∀ w', Below Y.heap.size Y w' → w'.cell? ⟨w4.heap.size, 2, none⟩ = some (.int .i64 f.ret) := hy 2 _ rfl
      have m3 : ∀ w', Below Y.heap.size Y w' → w'.cell? ⟨w4.heap.size, 3, none⟩ = some (.slice Dg n Eg) := hy 3 _ rfl
      have z0 : ∀ w', Below Y.heap.size Y w' → w'.cell? ⟨w.heap.size, 0, none⟩ = some (.string f.name) := fun w' h => q0 w' (hwYW.out.trans (h.mono hYss.out))
      have z1 : ∀ w', Below Y.heap.size Y w' → w'.cell? ⟨w.heap.size, 1, none⟩ = some (.slice A1 f.params.length k1) := fun w' h => q1 w' (hwYW.out.trans (h.mono hYss.out))
      have z2 : ∀ w', Below Y.heap.size Y w' → w'.cell? ⟨w.heap.size, 2, none⟩ = some (.int .i64 f.ret) := fun w' h => q2 w' (hwYW.out.trans (h.mono hYss.out))
      have z3 : ∀ w', Below Y.heap.size Y w' → w'.cell? ⟨w.heap.size, 3, none⟩ = some (.slice A2 n k2) := fun w' h => q3 w' (hwYW.out.trans (h.mono hYss.out))
      have hfY : Hid (∀ w', Below Y.heap.size Y w' → RFun.rep w' w'.heap.size [.string f.name, .slice A1 f.params.length k1, .int .i64 f.ret, .slice A2 n k2] f) := hide (fun w' h => hF.out w' (hwYW.out.trans (h.mono hYss.out)))
      have hgY : Hid (∀ w', Below Y.heap.size Y w' → RFun.rep w' w'.heap.size [.string f.name, .slice Ag f.params.length Cg, .int .i64 f.ret, .slice Dg n Eg] (setBlocks f (swapS A B f.blocks))) := hide (fun w' h => RFun.later hgr (hwY.trans (h.mono hwY.size)) (hwY.trans (h.mono hwY.size)).size)
      have hsm2 := hide (small_swap hsmall.out (by rw [← hn.out]; exact hAn.out.2) (by rw [← hn.out]; exact hBn.out.2))
      have hAB1 : Hid (0 < A ∧ A < f.blocks.length) := hide (by rw [← hn.out]; exact hAn.out)
      have hAB2 : Hid (0 < B ∧ B < f.blocks.length) := hide (by rw [← hn.out]; exact hBn.out)
      obtain ⟨R2, hR2⟩ : ∃ R2, Hid (R2 = reachF (swapS A B f.blocks)) := ⟨_, hide rfl⟩
      have hR2l : R2.length = n := by rw [hR2.out, reach_len, swap_len, hn.out]
      have cO1 : Hid (∀ w', Below Y.heap.size Y w' → Calls Try.prog 26 #[f.v (.slice A1 f.params.length k1) (.slice A2 n k2)] w' (OrdPost O w')) := hide (fun w' h => by
        have := order_any f (.slice A1 f.params.length k1) (.slice A2 n k2) w' w'.heap.size (Nat.le_refl _) (hfY.out w' h) hsmall.out
        rwa [← hO.out] at this)
      have cO2 : Hid (∀ w', Below Y.heap.size Y w' → Calls Try.prog 26 #[f.v (.slice Ag f.params.length Cg) (.slice Dg n Eg)] w' (OrdPost (O.map (mv A B)) w')) := hide (fun w' h => by
        have := order_any (setBlocks f (swapS A B f.blocks)) (.slice Ag f.params.length Cg) (.slice Dg n Eg) w' w'.heap.size (Nat.le_refl _) (hgY.out w' h) hsm2.out
        rwa [show (setBlocks f (swapS A B f.blocks)).blocks = swapS A B f.blocks from rfl, order_mv hAB1.out hAB2.out, ← hO.out] at this)
      have cR1 : Hid (∀ w', Below Y.heap.size Y w' → Calls Try.prog 27 #[f.v (.slice A1 f.params.length k1) (.slice A2 n k2)] w' (ReachPost n R w')) := hide (fun w' h => by
        have := reach_any f (.slice A1 f.params.length k1) (.slice A2 n k2) w' w'.heap.size (Nat.le_refl _) (hfY.out w' h) hsmall.out
        rwa [← hn.out, ← hR.out] at this)
      have cR2 : Hid (∀ w', Below Y.heap.size Y w' → Calls Try.prog 27 #[f.v (.slice Ag f.params.length Cg) (.slice Dg n Eg)] w' (ReachPost n R2 w')) := hide (fun w' h => by
        have := reach_any (setBlocks f (swapS A B f.blocks)) (.slice Ag f.params.length Cg) (.slice Dg n Eg) w' w'.heap.size (Nat.le_refl _) (hgY.out w' h) hsm2.out
        rwa [show (setBlocks f (swapS A B f.blocks)).blocks = swapS A B f.blocks from rfl, swap_len, ← hn.out, ← hR2.out] at this)
      have cS1 : Hid (∀ (x : Int) w', Below Y.heap.size Y w' → Calls Try.prog 29 #[f.v (.slice A1 f.params.length k1) (.slice A2 n k2), .int .i64 x] w' (SuccPost (sc x) w')) := hide (fun x w' h => by
        have := succs_any f x (.slice A1 f.params.length k1) (.slice A2 n k2) w' w'.heap.size (Nat.le_refl _) (hfY.out w' h) hsmall.out
        rwa [← hsc.out] at this)
      have cS2 : Hid (∀ (x : Int) w', Below Y.heap.size Y w' → Calls Try.prog 29 #[f.v (.slice Ag f.params.length Cg) (.slice Dg n Eg), .int .i64 (mv A B x)] w' (SuccPost ((sc x).map (mv A B)) w')) := hide (fun x w' h => by
        have := succs_any (setBlocks f (swapS A B f.blocks)) (mv A B x) (.slice Ag f.params.length Cg) (.slice Dg n Eg) w' w'.heap.size (Nat.le_refl _) (hgY.out w' h) hsm2.out
        rwa [show (setBlocks f (swapS A B f.blocks)).blocks = swapS A B f.blocks from rfl, succsF_mv hAB1.out.2 hAB2.out.2, ← hsc.out] at this)
      rw [hY]
      have hwYw : Hid (Below w.heap.size w Y) := hide (hwW.out.trans (hwYW.out.mono hws))
      have hwYs : Hid (w.heap.size ≤ Y.heap.size) := hide hwYw.out.size
      have hselfY := Below.refl Y.heap.size Y
      clear hY hy hwY hYs hgr hbel4 hs4 hbel3 hs3 q0 q1 q2 q3 hself hF hW cL hAe hBe
      go_region_held3 (fun w' => Below Y.heap.size Y w') (first | (with_reducible assumption) | exact hselfY.drew)
        (first
          | (go_at_call 26; refine (cO2.out _ hk1).mono ?_; rintro e u2 ⟨v2, rfl, hO2, hb2⟩; have hk2 : Below Y.heap.size Y u2 := hk1.trans (hb2.mono hk1.size); have hg1b := hide (hg1.out.kept (w' := u2) fun k _ hk => hb2.block k hk); have hg2 := hide hO2; clear hO2 hb2)
          | (go_at_call 26; refine (cO1.out _ (hselfY.drew)).mono ?_; rintro e u1 ⟨v1, rfl, hO1, hb1⟩; have hk1 : Below Y.heap.size Y u1 := (hselfY.drew).trans hb1; have hg1 := hide hO1; clear hO1 hb1)
          | (go_at_call 27; refine (cR2.out _ hk3).mono ?_; rintro e X ⟨g4, rfl, hO4, hb4⟩; have hk4 : Below Y.heap.size Y X := hk3.trans (hb4.mono hk3.size); have hg1d := hide (hg1c.out.kept (w' := X) fun k _ hk => hb4.block k hk); have hg2d := hide (hg2c.out.kept (w' := X) fun k _ hk => hb4.block k hk); have hg3b := hide (row_kept hg3.out fun k hk => hb4.block k (row_lt hg3.out hk).2.1); have hg4 := hide hO4; clear hO4 hb4)
          | (go_at_call 27; refine (cR1.out _ hk2).mono ?_; rintro e u3 ⟨g3, rfl, hO3, hb3⟩; have hk3 : Below Y.heap.size Y u3 := hk2.trans (hb3.mono hk2.size); have hg1c := hide (hg1b.out.kept (w' := u3) fun k _ hk => hb3.block k hk); have hg2c := hide (hg2.out.kept (w' := u3) fun k _ hk => hb3.block k hk); have hg3 := hide hO3; clear hO3 hb3))
      have hsX := hk4.size
      have p0 : ∀ w', Below X.heap.size X w' → w'.cell? ⟨w4.heap.size, 0, none⟩ = some (.string f.name) := fun w' h => m0 w' (hk4.trans (h.mono hsX))
      have p1 : ∀ w', Below X.heap.size X w' → w'.cell? ⟨w4.heap.size, 1, none⟩ = some (.slice Ag f.params.length Cg) := fun w' h => m1 w' (hk4.trans (h.mono hsX))
      have p2 : ∀ w', Below X.heap.size X w' → w'.cell? ⟨w4.heap.size, 2, none⟩ = some (.int .i64 f.ret) := fun w' h => m2 w' (hk4.trans (h.mono hsX))
      have p3 : ∀ w', Below X.heap.size X w' → w'.cell? ⟨w4.heap.size, 3, none⟩ = some (.slice Dg n Eg) := fun w' h => m3 w' (hk4.trans (h.mono hsX))
      have r0 : ∀ w', Below X.heap.size X w' → w'.cell? ⟨w.heap.size, 0, none⟩ = some (.string f.name) := fun w' h => z0 w' (hk4.trans (h.mono hsX))
      have r1 : ∀ w', Below X.heap.size X w' → w'.cell? ⟨w.heap.size, 1, none⟩ = some (.slice A1 f.params.length k1) := fun w' h => z1 w' (hk4.trans (h.mono hsX))
      have r2 : ∀ w', Below X.heap.size X w' → w'.cell? ⟨w.heap.size, 2, none⟩ = some (.int .i64 f.ret) := fun w' h => z2 w' (hk4.trans (h.mono hsX))
      have r3 : ∀ w', Below X.heap.size X w' → w'.cell? ⟨w.heap.size, 3, none⟩ = some (.slice A2 n k2) := fun w' h => z3 w' (hk4.trans (h.mono hsX))
      have cS1X : Hid (∀ (x : Int) w', Below X.heap.size X w' → Calls Try.prog 29 #[f.v (.slice A1 f.params.length k1) (.slice A2 n k2), .int .i64 x] w' (SuccPost (sc x) w')) := hide (fun x w' h => cS1.out x w' (hk4.trans (h.mono hsX)))
      have cS2X : Hid (∀ (x : Int) w', Below X.heap.size X w' → Calls Try.prog 29 #[f.v (.slice Ag f.params.length Cg) (.slice Dg n Eg), .int .i64 (mv A B x)] w' (SuccPost ((sc x).map (mv A B)) w')) := hide (fun x w' h => cS2.out x w' (hk4.trans (h.mono hsX)))
      have hwX : Hid (Below w.heap.size w X) := hide (hwYw.out.trans (hk4.mono hwYs.out))
      have hwXs : Hid (w.heap.size ≤ X.heap.size) := hide hwX.out.size
      obtain ⟨Ao, Co, hvo, hOr⟩ := int_reads hg1d.out
      subst hvo
      obtain ⟨Ap, Cp, hvp, hPr⟩ := int_reads hg2d.out
      subst hvp
      obtain ⟨-, hRr⟩ := bool_reads hg3b.out
      obtain ⟨-, hQr⟩ := bool_reads hg4.out
      rw [List.length_map] at hPr ⊢
      replace hOr := hide hOr
      replace hPr := hide hPr
      replace hRr := hide hRr
      replace hQr := hide hQr
      have hselfX := Below.refl X.heap.size X
      have hsl : ∀ x, (sc x).length ≤ n := fun x => succ_len (hsok.out x)
      replace hsl := hide hsl
      clear m0 m1 m2 m3 z0 z1 z2 z3 hselfY hk1 hk2 hk3 hk4 hg1 hg1b hg1c hg1d hg2 hg2c hg2d hg3 hg3b hg4 hsX cO1 cO2 cR1 cR2 cS1 cS2 hfY hgY
      go_wp2
      go_loopw [76] (fun i wr => ∃ m : Nat, i = .int .i64 m ∧ m ≤ O.length ∧ Below X.heap.size X wr) (fun i _ => O.length - (intOf i).toNat)
      case atStart => exact ⟨0, rfl, Nat.zero_le _, hselfX⟩
      case round =>
        clear hselfX
        obtain ⟨m, rfl, hm, hbel⟩ := hrel
        by_cases hlt : m < O.length
        · obtain ⟨x, hx⟩ := get_ex (l := O) (k := m) hlt
          obtain ⟨g1, hAo, hor⟩ := hOr.out (by omega)
          have r8 := hor m x hx.out
          obtain ⟨g2, hAp, hpr⟩ := hPr.out (by omega)
          have r9 := hpr m (mv A B x) (by rw [List.getElem?_map, hx.out]; rfl)
          cases hAo
          cases hAp
          have hmi : (m : Int) < (O.length : Int) := by omega
          have hk0 : Below X.heap.size X wr.drew := hbel.drew
          clear hor hpr
          go_upto_region 14 with (fail)
          go_region_held3 (fun w' => Below X.heap.size X w') (first | (with_reducible assumption))
            (first
              | (go_at_call 28; refine (moved_any x A B _).mono ?_; rintro e w9 ⟨rfl, rfl⟩))
          go_wp2
          go_roundw
          case rel => exact ⟨m + 1, by go_num, hlt, hk0⟩
          case measure => simp [intOf]; omega
        · obtain rfl : m = O.length := by omega
          go_wp2
          go_loopw [14] (fun i w5 => ∃ x : Nat, i = .int .i64 x ∧ x ≤ n ∧ Below X.heap.size X w5) (fun i _ => n - (intOf i).toNat)
          case atStart => exact ⟨0, rfl, Nat.zero_le _, hbel⟩
          case round =>
            clear hbel
            obtain ⟨x, rfl, hx, hbel⟩ := hrel
            by_cases hlt2 : x < n
            · have hxi : (x : Int) < (n : Int) := by omega
              have hmvb := (mv_in (a := (A : Int)) (b := (B : Int)) (x := (x : Int)) (n := n) (by have := hAn.out; omega) (by have := hBn.out; omega)).2 ⟨by omega, by omega⟩
              obtain ⟨mx, hmx⟩ := Int.eq_ofNat_of_zero_le hmvb.1
              have hmxn : mx < n := by omega
              obtain ⟨rb, hrb⟩ := get_ex (l := R) (k := x) (by omega)
              have hqb : R2[mx]? = some rb := by
                have h9 := reach_mv hAB1.out hAB2.out (k := x) (by rw [← hn.out]; exact hlt2)
                rw [← hR2.out, ← hR.out, hmx, Int.toNat_natCast] at h9
                rw [h9]; exact hrb.out
              have r8 := hRr.out x rb hrb.out
              have r9 := hQr.out mx rb hqb
              have hmx2 : Hid (mv A B (x : Int) = (mx : Int)) := hide hmx
              have hqb2 := hide hqb
              have hk0 : Below X.heap.size X wr.drew := hbel.drew
              clear hmvb hmx hqb
              have hbs := hbel.size
              go_upto_region 20 with (fail)
              go_region_held3 (fun w' => Below X.heap.size X w') (first | (with_reducible assumption))
                (first
                  | (go_at_call 28; refine (moved_any x A B _).mono ?_; rintro e w9 ⟨rfl, rfl⟩; rw [hmx2.out]))
              go_wp2
              go_upto_region 22 with (fail)
              have hk1 := hk0.drew
              have hks := hk1.size
              go_region_held3 (fun w' => Below X.heap.size X w') (first | (with_reducible assumption))
                (first
                  | (go_at_call 28; refine (moved_any x A B _).mono ?_; rintro e w9 ⟨rfl, rfl⟩; have hmoved := True.intro)
                  | (go_at_call 29; have hh := hmoved; clear hh; refine (cS2X.out x _ hk2).mono ?_; rintro e u2 ⟨v2, rfl, hO2, hb2⟩; have hk3 : Below X.heap.size X u2 := hk2.trans (hb2.mono hk2.size); have hg1b := hide (hg1.out.kept (w' := u2) fun k _ hk => hb2.block k hk); have hg2 := hide hO2; clear hO2 hb2)
                  | (go_at_call 29; refine (cS1X.out x _ hk1).mono ?_; rintro e u1 ⟨v1, rfl, hO1, hb1⟩; have hk2 : Below X.heap.size X u1 := hk1.trans (hb1.mono hks); have hg1 := hide hO1; clear hO1 hb1))
              obtain ⟨As, Cs, hvs, hsr⟩ := int_reads hg1b.out
              subst hvs
              obtain ⟨At, Ct, hvt, htr⟩ := int_reads hg2.out
              subst hvt
              obtain ⟨ns, hns⟩ : ∃ ns, Hid (ns = (sc x).length) := ⟨_, hide rfl⟩
              have hsl1 : ns ≤ n := by rw [hns.out]; exact hsl.out x
              rw [List.length_map, ← hns.out] at htr ⊢
              rw [← hns.out] at hsr
              replace hsr := hide hsr
              replace htr := hide htr
              have hselfU := Below.refl u2.heap.size u2
              have hk3s := hk3.size
              clear hk0 hk1 hk2 hks hbel hbs
              go_wp2
              go_loopw [125] (fun i w6 => ∃ j : Nat, i = .int .i64 j ∧ j ≤ ns ∧ Below u2.heap.size u2 w6) (fun i _ => ns - (intOf i).toNat)
              case atStart => exact ⟨0, rfl, Nat.zero_le _, hselfU⟩
              case round =>
                clear hselfU
                obtain ⟨j, rfl, hj, hbel⟩ := hrel
                by_cases hlt3 : j < ns
                · obtain ⟨t, ht⟩ := get_ex (l := sc x) (k := j) (by rw [← hns.out]; exact hlt3)
                  obtain ⟨g5, hAs, hsr2⟩ := hsr.out (by omega)
                  have s8 := hsr2 j t ht.out
                  obtain ⟨g6, hAt, htr2⟩ := htr.out (by omega)
                  have s9 := htr2 j (mv A B t) (by rw [List.getElem?_map, ht.out]; rfl)
                  cases hAs
                  cases hAt
                  have hji : (j : Int) < (ns : Int) := by omega
                  have hk6 : Below u2.heap.size u2 wr.drew := hbel.drew
                  clear hsr2 htr2
                  go_upto_region 28 with (fail)
                  go_region_held3 (fun w' => Below u2.heap.size u2 w') (first | (with_reducible assumption))
                    (first
                      | (go_at_call 28; refine (moved_any t A B _).mono ?_; rintro e w9 ⟨rfl, rfl⟩))
                  go_wp2
                  go_roundw
                  case rel => exact ⟨j + 1, by go_num, hlt3, hk6⟩
                  case measure => simp [intOf]; omega
                · obtain rfl : j = ns := by omega
                  have hk9 := hk3.trans (hbel.mono hk3s)
                  go_wp2
                  go_roundw
                  case rel => exact ⟨x + 1, by go_num, hlt2, hk9⟩
                  case measure => simp [intOf]; omega
            · obtain rfl : x = n := by omega
              go_wp2
              go_ret
              exact ⟨rfl, hwX.out.trans (hbel.mono hwXs.out)⟩
end Go.Proofs.Ytffklfalocamiaa
