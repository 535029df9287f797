/- The law GraphOrders, walked. No condition but sizes. -/
import Derived.Test.YtffklfalocamiaaGrP
import Derived.Test.YtffklfalocamiaaGrQ
namespace Go.Proofs.Ytffklfalocamiaa
open Go.RowKit
set_option linter.unusedSimpArgs false
set_option linter.unusedVariables false

theorem made_ints {w : World} {B g n : Nat} {O : List Int} (h : w.ownsRow B 3 1 (.slice (some ⟨g, 0, none⟩) n n) n (madeCells #[Value.int .i64 0] n).toList) : w.ownsRow B 3 1 (.slice (some ⟨g, 0, none⟩) n n) n ((atS O n 0).map fun z => Value.int .i64 z) := by
  rw [toList_madeCells_one] at h
  unfold atS
  rw [List.map_replicate]
  exact h
set_option maxRecDepth 100000 in
set_option maxHeartbeats 12800000 in
theorem law_orders (f : Fun) (c1 c2 : Value) (w : World) (hf : RFun.rep w w.heap.size [.string f.name, c1, .int .i64 f.ret, c2] f) (hs : Small f) :
    Calls Try.prog 10 #[f.v c1 c2] w (LawPost w) := by
  obtain ⟨hp, hb⟩ := fun_open (RFun.later hf (Below.refl _ _) (Nat.le_refl _))
  obtain ⟨A1, k1, h1, -, -⟩ := Rp.slice1_open hp
  obtain ⟨A2, k2, h2, hm2, -⟩ := Rp.slice1_open hb
  cases h1; cases h2
  clear hp hb
  obtain ⟨n, hn⟩ : ∃ n, Hid (n = f.blocks.length) := ⟨_, hide rfl⟩
  have hnle : n ≤ 2000000 := by rw [hn.out]; exact hs.blocks
  obtain ⟨sc, hsc⟩ : ∃ sc, Hid (sc = succsF f.blocks) := ⟨_, hide rfl⟩
  have hsok : Hid (∀ b, SuccOk n (sc b)) := hide (fun b => by rw [hsc.out, hn.out]; exact succsF_ok _ _)
  obtain ⟨R, hR⟩ : ∃ R, Hid (R = reachF f.blocks) := ⟨_, hide rfl⟩
  obtain ⟨O, hO⟩ : ∃ O, Hid (O = orderF f.blocks) := ⟨_, hide rfl⟩
  have hol : O.length ≤ n := by rw [hO.out, hn.out]; exact order_len _
  have hob : Hid (∀ x, x ∈ O → 0 ≤ x ∧ x < n) := hide (by rw [hO.out, hn.out]; exact (order_ok _).bound)
  have hnd : Hid O.Nodup := hide (by rw [hO.out]; exact (order_ok _).nodup)
  obtain ⟨P, hP⟩ : ∃ P, Hid (P = predsL sc n) := ⟨_, hide rfl⟩
  have hPl : P.length = n := by rw [hP.out, predsL_len]
  have hRl : R.length = n := by rw [hR.out, hn.out, reach_len]
  rw [← hn.out] at hf hm2 ⊢
  obtain ⟨W, hW, hwW, hWs, hx⟩ := boxes1 w #[.string f.name, .slice A1 f.params.length k1, .int .i64 f.ret, .slice A2 n k2] 41
  have q0 : ∀ w', Below W.heap.size W w' → w'.cell? ⟨w.heap.size, 0, none⟩ = some (.string f.name) := hx 0 _ rfl
  have q1 : ∀ w', Below W.heap.size W w' → w'.cell? ⟨w.heap.size, 1, none⟩ = some (.slice A1 f.params.length k1) := hx 1 _ rfl
  have q2 : ∀ w', Below W.heap.size W w' → w'.cell? ⟨w.heap.size, 2, none⟩ = some (.int .i64 f.ret) := hx 2 _ rfl
  have q3 : ∀ w', Below W.heap.size W w' → w'.cell? ⟨w.heap.size, 3, none⟩ = some (.slice A2 n k2) := hx 3 _ rfl
  clear hx
  have hws : w.heap.size ≤ W.heap.size := by omega
  replace hWs := hide hWs
  have hself := Below.refl W.heap.size W
  have hF : Hid (∀ w', Below W.heap.size W w' → RFun.rep w' w'.heap.size [.string f.name, .slice A1 f.params.length k1, .int .i64 f.ret, .slice A2 n k2] f) := hide (fun w' h => RFun.later hf (hwW.trans (h.mono hws)) (hwW.trans (h.mono hws)).size)
  have cR : Hid (∀ w', Below W.heap.size W w' → Calls Try.prog 27 #[f.v (.slice A1 f.params.length k1) (.slice A2 n k2)] w' (ReachPost n R w')) := hide (fun w' h => by
    have := reach_any f (.slice A1 f.params.length k1) (.slice A2 n k2) w' w'.heap.size (Nat.le_refl _) (hF.out w' h) hs
    rwa [← hn.out, ← hR.out] at this)
  have cP : Hid (∀ w', Below W.heap.size W w' → Calls Try.prog 54 #[f.v (.slice A1 f.params.length k1) (.slice A2 n k2)] w' (PredPost n P w')) := hide (fun w' h => by
    have := preds_any f (.slice A1 f.params.length k1) (.slice A2 n k2) w' w'.heap.size (Nat.le_refl _) (hF.out w' h) hs
    rwa [← hn.out, ← hsc.out, ← hP.out] at this)
  have cO : Hid (∀ w', Below W.heap.size W w' → Calls Try.prog 26 #[f.v (.slice A1 f.params.length k1) (.slice A2 n k2)] w' (OrdPost O w')) := hide (fun w' h => by
    have := order_any f (.slice A1 f.params.length k1) (.slice A2 n k2) w' w'.heap.size (Nat.le_refl _) (hF.out w' h) hs
    rwa [← hO.out] at this)
  have cL : Hid (∀ w', Below W.heap.size W w' → Calls Try.prog 24 #[f.v (.slice A1 f.params.length k1) (.slice A2 n k2)] w' (LongPost n w')) := hide (fun w' h => by
    have := long_any f (.slice A1 f.params.length k1) (.slice A2 n k2) w' w'.heap.size (Nat.le_refl _) (hF.out w' h)
    rwa [← hn.out] at this)
  obtain ⟨i0, hi0, hz0, hz1, hz2⟩ := cinfo_parts cinfo_int
  replace hi0 := hide hi0
  replace hz0 := hide hz0
  replace hz1 := hide hz1
  replace hz2 := hide hz2
  replace hs := hide hs
  replace hf := hide hf
  replace hwW := hide hwW
  go_enter Try.func10, Try.ntmps10
  go_wp2_with (fail)
  refine (lives06_any _).mono ?_
  rintro e w1 ⟨rfl, hb1⟩
  go_wp2_with (fail)
  refine (cL.out _ hb1).mono ?_
  rintro e w2 ⟨bl, rfl, h80, hb2⟩
  have hbel2 := hb1.trans (hb2.mono hb1.size)
  clear hb1 hb2 h80
  cases bl with
  | true =>
    go_wp2
    go_ret
    exact ⟨rfl, hwW.out.trans (hbel2.mono hws)⟩
  | false =>
    have hww2 := hbel2.size
    go_upto_region 6 with (fail)
    go_region_held3 (fun w' => Below W.heap.size W w') (first | (with_reducible assumption) | exact hbel2.drew)
      (first
        | (go_at_call 26; refine (cO.out _ (hbel2.drew)).mono ?_; rintro e w3 ⟨vo, rfl, hO3, hb3⟩; have hk3 : Below W.heap.size W w3 := (hbel2.drew).trans (hb3.mono hww2); have hO3' := hide hO3; clear hO3 hb3)
        | (go_at_call 27; refine (cR.out _ hk3).mono ?_; rintro e w4 ⟨gr, rfl, hR4, hb4⟩; have hk4 : Below W.heap.size W w4 := hk3.trans (hb4.mono hk3.size); have hO4 := hide (hO3'.out.kept (w' := w4) fun k _ hk => hb4.block k hk); have hR4' := hide hR4; clear hR4 hb4)
        | (go_at_call 54; refine (cP.out _ hk4).mono ?_; rintro e X ⟨gp, cs, rfl, hL5, hb5⟩; have hk5 : Below W.heap.size W X := hk4.trans (hb5.mono hk4.size); have hO5 := hide (hO4.out.kept (w' := X) fun k _ hk => hb5.block k hk); have hR5 := hide (row_kept hR4'.out fun k hk => hb5.block k (row_lt hR4'.out hk).2.1); have hL5' := hide hL5; clear hL5 hb5))
    obtain ⟨-, hRr⟩ := bool_reads hR5.out
    have hPr := rows_reads hL5'.out hPl
    obtain ⟨Ao, Co, hvo, hOr⟩ := int_reads hO5.out
    subst hvo
    have hsX := hk5.size
    have z3 : ∀ w', Below X.heap.size X w' → w'.cell? ⟨w.heap.size, 3, none⟩ = some (.slice A2 n k2) := fun w' h => q3 w' (hk5.trans (h.mono hsX))
    have hwX : Hid (Below w.heap.size w X) := hide (hwW.out.trans (hk5.mono hws))
    have hwXs : Hid (w.heap.size ≤ X.heap.size) := hide hwX.out.size
    replace hRr := hide hRr
    replace hPr := hide hPr
    replace hOr := hide hOr
    have hselfX := Below.refl X.heap.size X
    have hAok : Hid (AtOk f.blocks (atS O n O.length)) := hide (by rw [hO.out, hn.out]; exact at_ok _)
    clear q0 q1 q2 q3 hself hbel2 hww2 hk3 hk4 hk5 hO3' hO4 hO5 hR4' hR5 hL5' hsX cO cR cP cL hF hW
    have hcase : (¬ (n : Int) > 0 ∧ ¬ (O.length : Int) > 0) ∨ ((n : Int) > 0 ∧ (O.length : Int) > 0 ∧ ∃ g, Ao = some ⟨g, 0, none⟩ ∧ ∀ w', Below X.heap.size X w' → w'.cell? ⟨g, 0, none⟩ = some (.int .i64 0)) := by
      by_cases h0 : 0 < n
      · have h1 := (order_ok f.blocks).head (by rw [← hn.out]; exact h0)
        rw [← hO.out] at h1
        have h2 : O[0]? = some 0 := by rw [← List.head?_eq_getElem?]; exact h1
        have h3 := (List.getElem?_eq_some_iff.1 h2).1
        obtain ⟨g, h4, h5⟩ := hOr.out h3
        exact .inr ⟨by omega, by omega, g, h4, h5 0 0 h2⟩
      · exact .inl ⟨by omega, by omega⟩
    rcases hcase with ⟨hc1, hc2⟩ | ⟨hc1, hc2, g0, rfl, hr0⟩
    all_goals
      go_wp2_with (at_make; refine wpList_make_full _ rfl (.tmp 55) (.tmp 55) _ rfl X.heap.size 3 i0 _ 1 Try.underlying38 hi0.out hz0.out hz1.out .i64 .i64 n n n rfl rfl rfl rfl ?c1 ?c2 (Nat.le_refl _) ?_)
      case c1 => rw [hz2.out]; omega
      case c2 => unfold maxLen; omega
      intro w1 hown1 hg1
      have hbel1 := below_grown0 hg1
      have hmk1 : Hid (w1.ownsRow X.heap.size 3 1 (.slice (some ⟨X.heap.size, 0, none⟩) n n) n ((atS O n 0).map fun z => Value.int .i64 z)) := hide (made_ints hown1)
      clear hg1 hown1
      go_wp2
      replace hc1 := hide hc1
      replace hc2 := hide hc2
      go_loopw [59] (fun i wr => ∃ m : Nat, i = .int .i64 m ∧ m ≤ O.length ∧ Hid (wr.ownsRow X.heap.size 3 1 (.slice (some ⟨X.heap.size, 0, none⟩) n n) n ((atS O n m).map fun z => Value.int .i64 z)) ∧ Below X.heap.size X wr) (fun i _ => O.length - (intOf i).toNat)
      case atStart => exact ⟨0, rfl, Nat.zero_le _, hmk1, hbel1⟩
      case round =>
        clear hmk1 hbel1
        obtain ⟨m, rfl, hm, hmk, hbel⟩ := hrel
        by_cases hlt : m < O.length
        · try (exfalso; have := hc2.out; omega)
          all_goals
            obtain ⟨x, hx⟩ := get_ex (l := O) (k := m) hlt
            have hxm := List.mem_of_getElem? hx.out
            obtain ⟨bn, rfl⟩ := Int.eq_ofNat_of_zero_le (hob.out x hxm).1
            have hbn : bn < n := by have := (hob.out _ hxm).2; omega
            obtain ⟨g, hg, hgr⟩ := hOr.out (by omega)
            cases hg
            have r0 := hgr m _ hx.out
            clear hgr
            have ha0 : (atS O n m)[bn]? = some 0 := atS_none (fun x hx => (hob.out x hx).1) hbn m (not_mem_take hnd.out hx.out)
            have r1 : wr.cell? ⟨X.heap.size, bn, none⟩ = some (.int .i64 0) := by rw [World.ownsRow.cellAt hmk.out bn (by omega), List.getElem?_map, ha0]; rfl
            have f1 : wr.frozen? ⟨X.heap.size, bn, none⟩ = false := World.ownsRow.frozenAt hmk.out bn
            have r2 := hRr.out bn true (by
              rw [hR.out, reach_at _ _ (by rw [← hn.out]; exact hbn), ← hO.out]
              simpa using hxm)
            have st := (World.ownsRow.stored hmk.out bn (.int .i64 ((m : Int) + 1))).1
            rw [map_set] at st
            have hst : Hid ((atS O n m).set bn ((m : Int) + 1) = atS O n (m + 1)) := hide (by rw [atS_step hx.out, Int.toNat_natCast])
            rw [hst.out] at st
            replace st := hide st
            have hb9 := hide (hbel.setCell (p := ⟨X.heap.size, bn, none⟩) (Nat.le_refl _) (.int .i64 ((m : Int) + 1)))
            have hmi : (m : Int) < (O.length : Int) := by omega
            have hx0 : ¬ ((bn : Nat) : Int) < 0 := by omega
            have hx1 : ¬ ((bn : Nat) : Int) ≥ (n : Int) := by omega
            replace ha0 := hide ha0
            go_wp2
            go_roundw
            case rel => exact ⟨m + 1, by go_num, hlt, st.out, hb9.out⟩
            case measure => simp [intOf]; omega
        · obtain rfl : m = O.length := by omega
          rename World => Y
          obtain ⟨A, hA⟩ : ∃ A, Hid (A = atS O n O.length) := ⟨_, hide rfl⟩
          have hAo : Hid (AtOk f.blocks A) := hide (by rw [hA.out]; exact hAok.out)
          have hAl : A.length = n := by rw [hA.out]; exact atS_len _ _ _
          have hAr : Hid (∀ (k : Nat) v, A[k]? = some v → ∀ w', Below Y.heap.size Y w' → w'.cell? ⟨X.heap.size, k, none⟩ = some (.int .i64 v)) := hide (fun k v hk w' hb => by
            have hkl := (List.getElem?_eq_some_iff.1 hk).1
            rw [hb.cell (p := ⟨X.heap.size, k, none⟩) (row_lt hmk.out rfl).2.1, World.ownsRow.cellAt hmk.out k (by omega), List.getElem?_map, ← hA.out, hk]; rfl)
          have hselfY := Below.refl Y.heap.size Y
          have hYs := hbel.size
          go_wp2
          go_loopw [94] (fun i w2 => ∃ b : Nat, i = .int .i64 b ∧ b ≤ n ∧ Below Y.heap.size Y w2) (fun i _ => n - (intOf i).toNat)
          case atStart => exact ⟨0, rfl, Nat.zero_le _, hselfY⟩
          case round =>
            obtain ⟨b, rfl, hb, hbel2⟩ := hrel
            by_cases hlt2 : b < n
            · try (exfalso; have := hc1.out; omega)
              all_goals
                obtain ⟨rb, hrb⟩ := get_ex (l := R) (k := b) (by omega)
                obtain ⟨av, hav⟩ := get_ex (l := A) (k := b) (by omega)
                obtain ⟨p, hp⟩ := get_ex (l := P) (k := b) (by omega)
                obtain ⟨Ap, kp, r1, hpg⟩ := hPr.out b p hp.out
                replace r1 := fun w' h => r1 w' (hbel.trans (Below.mono h hYs))
                have s0 := fun w' h => hRr.out b rb hrb.out w' (hbel.trans (Below.mono h hYs))
                have s1 := hAr.out b av hav.out
                replace hpg := hide hpg
                have hpl : p.length ≤ n + 1 := predsPart_at_len (succ := sc) (n := n) (b := n) (i := 0) (t := b) (by rw [predsPart_last, ← hP.out]; exact hp.out)
                have hpb : Hid (∀ x, x ∈ p → 0 ≤ x ∧ x < n) := hide (fun x hx => by
                  have hh := hp.out
                  rw [hP.out] at hh
                  have := (predsL_mem hh x).1 hx
                  exact ⟨this.1, this.2.1⟩)
                have hmem := hAo.out.mem b av hav.out
                have hend : Hid (rb = true → aheadS A av b p = true) := hide (fun h => by
                  subst h
                  have h1 := hrb.out
                  rw [hR.out, reach_at _ _ (by rw [← hn.out]; exact hlt2)] at h1
                  refine ahead_end hAo.out hav.out (by simpa using h1) ?_
                  rw [← hn.out, ← hsc.out, ← hP.out]
                  exact hp.out)
                have hrcase : (rb = true ∧ av > 0) ∨ (rb = false ∧ ¬ av > 0) := by
                  have h1 := hrb.out
                  rw [hR.out, reach_at _ _ (by rw [← hn.out]; exact hlt2)] at h1
                  cases rb with
                  | true => exact .inl ⟨rfl, hmem.2.2.2 (by simpa using h1)⟩
                  | false => exact .inr ⟨rfl, fun h => by have := hmem.2.2.1 h; simp [this] at h1⟩
                have hbi : (b : Int) < (n : Int) := by omega
                clear hmem
                rcases hrcase with ⟨rfl, hav0⟩ | ⟨rfl, hav0⟩
                all_goals
                  go_upto_region 20 with (fail)
                  go_quiet (fail)
                  go_wp2
                  have hb21 : ∀ q, Below Y.heap.size Y (wr.drewN q) := below_drewN hbel2
                  clear s0 s1
                  go_loopw [11, 114] (fun u i w3 => ∃ k : Nat, i = .int .i64 k ∧ u = .bool (aheadS A av b (p.take k)) ∧ k ≤ p.length ∧ Below Y.heap.size Y w3) (fun _ i _ => p.length - (intOf i).toNat)
                  case atStart => exact ⟨0, rfl, by simp [aheadS], Nat.zero_le _, hb21 _⟩
                  case round =>
                    clear hbel2 hb21
                    obtain ⟨k, rfl, rfl, hk, hbel2⟩ := hrel
                    obtain ⟨ua, hua⟩ : ∃ ua, Hid (ua = aheadS A av b (p.take k)) := ⟨_, hide rfl⟩
                    rw [← hua.out]
                    by_cases hlt3 : k < p.length
                    · obtain ⟨x, hx⟩ := get_ex (l := p) (k := k) hlt3
                      have hxb := hpb.out x (List.mem_of_getElem? hx.out)
                      obtain ⟨xn, rfl⟩ := Int.eq_ofNat_of_zero_le hxb.1
                      have hxn : xn < n := by have := hxb.2; omega
                      clear hxb
                      obtain ⟨g3, rfl, hg3⟩ := hpg.out (by omega)
                      have r3 := fun w' h => hg3 k _ hx.out w' (hbel.trans (Below.mono h hYs))
                      obtain ⟨ux, hux⟩ := get_ex (l := A) (k := xn) (by omega)
                      have r4 := hAr.out xn ux hux.out
                      have r5 := hAr.out b av hav.out
                      have hst : Hid (aheadS A av b (p.take (k + 1)) = (ua || (decide (ux > 0) && decide (ux < av)))) := hide (by rw [hua.out]; exact ahead_step hx.out (by rw [Int.toNat_natCast]; exact hux.out))
                      have hki : (k : Int) < (p.length : Int) := by omega
                      have hx0 : ¬ ((xn : Nat) : Int) < 0 := by omega
                      have hx1 : ¬ ((xn : Nat) : Int) ≥ (n : Int) := by omega
                      clear hg3 hend
                      cases ua with
                      | true =>
                        clear r4 r5
                        go_upto_region 28 with (fail)
                        go_quiet (fail)
                        go_wp2
                        go_roundw
                        case rel => exact ⟨k + 1, by go_num, by rw [hst.out]; rfl, hlt3, below_drewN hbel2 _⟩
                        case measure => simp [intOf]; omega
                      | false =>
                        by_cases hu0 : ux > 0
                        · have hud : decide (ux > 0) = true := decide_eq_true hu0
                          rw [hud] at hst
                          go_upto_region 28 with (fail)
                          go_quiet (fail)
                          go_wp2
                          go_roundw
                          case rel => exact ⟨k + 1, by go_num, by rw [hst.out]; rfl, hlt3, below_drewN hbel2 _⟩
                          case measure => simp [intOf]; omega
                        · have hud : decide (ux > 0) = false := decide_eq_false hu0
                          rw [hud] at hst
                          clear r5
                          go_upto_region 28 with (fail)
                          go_quiet (fail)
                          go_wp2
                          go_roundw
                          case rel => exact ⟨k + 1, by go_num, by rw [hst.out]; rfl, hlt3, below_drewN hbel2 _⟩
                          case measure => simp [intOf]; omega
                    · obtain rfl : k = p.length := by omega
                      rw [List.take_length] at hua
                      have s0 := fun w' h => hRr.out b _ hrb.out w' (hbel.trans (Below.mono h hYs))
                      have hu := hua.out
                      clear hua
                      cases ua with
                      | true =>
                        clear hu hend
                        go_wp2
                        go_roundw
                        case rel => exact ⟨b + 1, by go_num, hlt2, hbel2⟩
                        case measure => simp [intOf]; omega
                      | false =>
                        first
                          | (exfalso; have h9 := hu.trans (hend.out (by first | trivial | rfl)); cases h9; done)
                          | (clear hu hend
                             go_wp2
                             go_roundw
                             case rel => exact ⟨b + 1, by go_num, hlt2, hbel2⟩
                             case measure => simp [intOf]; omega)
            · obtain rfl : b = n := by omega
              go_wp2
              go_ret
              exact ⟨rfl, hwX.out.trans ((hbel.trans (hbel2.mono hYs)).mono hwXs.out)⟩
end Go.Proofs.Ytffklfalocamiaa
