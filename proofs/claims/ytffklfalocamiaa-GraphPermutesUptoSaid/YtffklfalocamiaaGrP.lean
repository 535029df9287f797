/- The law GraphPairs, walked. No condition but sizes. -/
import Derived.Test.YtffklfalocamiaaGrO
namespace Go.Proofs.Ytffklfalocamiaa
open Go.RowKit
set_option linter.unusedSimpArgs false
set_option linter.unusedVariables false

def LawPost (w : World) (e : Ending) (w' : World) : Prop := e = .returned (.bool true) ∧ Below w.heap.size w w'
set_option maxRecDepth 100000 in
set_option maxHeartbeats 12800000 in
theorem law_pairs (f : Fun) (c1 c2 : Value) (w : World) (hf : RFun.rep w w.heap.size [.string f.name, c1, .int .i64 f.ret, c2] f) (hs : Small f) :
    Calls Try.prog 11 #[f.v c1 c2] w (LawPost w) := by
  obtain ⟨hp, hb⟩ := fun_open (RFun.later hf (Below.refl _ _) (Nat.le_refl _))
  obtain ⟨A1, k1, h1, -, -⟩ := Rp.slice1_open hp
  obtain ⟨A2, k2, h2, hm2, -⟩ := Rp.slice1_open hb
  cases h1; cases h2
  clear hp hb
  obtain ⟨n, hn⟩ : ∃ n, Hid (n = f.blocks.length) := ⟨_, hide rfl⟩
  have hnle : n ≤ 2000000 := by rw [hn.out]; exact hs.blocks
  obtain ⟨sc, hsc⟩ : ∃ sc, Hid (sc = succsF f.blocks) := ⟨_, hide rfl⟩
  have hsok : Hid (∀ b, SuccOk n (sc b)) := hide (fun b => by rw [hsc.out, hn.out]; exact succsF_ok _ _)
  obtain ⟨R, hR⟩ : ∃ R, Hid (R = reachF f.blocks) := ⟨_, hide rfl⟩
  obtain ⟨P, hP⟩ : ∃ P, Hid (P = predsL sc n) := ⟨_, hide rfl⟩
  have hPl : P.length = n := by rw [hP.out, predsL_len]
  have hRl : R.length = n := by rw [hR.out, hn.out, reach_len]
  rw [← hn.out] at hf hm2 ⊢
  obtain ⟨W, hW, hwW, hWs, hx⟩ := boxes1 w #[.string f.name, .slice A1 f.params.length k1, .int .i64 f.ret, .slice A2 n k2] 41
  have q0 : ∀ w', Below W.heap.size W w' → w'.cell? ⟨w.heap.size, 0, none⟩ = some (.string f.name) := hx 0 _ rfl
  have q1 : ∀ w', Below W.heap.size W w' → w'.cell? ⟨w.heap.size, 1, none⟩ = some (.slice A1 f.params.length k1) := hx 1 _ rfl
  have q2 : ∀ w', Below W.heap.size W w' → w'.cell? ⟨w.heap.size, 2, none⟩ = some (.int .i64 f.ret) := hx 2 _ rfl
  have q3 : ∀ w', Below W.heap.size W w' → w'.cell? ⟨w.heap.size, 3, none⟩ = some (.slice A2 n k2) := hx 3 _ rfl
  clear hx
  have hws : w.heap.size ≤ W.heap.size := by omega
  replace hWs := hide hWs
  have hself := Below.refl W.heap.size W
  have hF : Hid (∀ w', Below W.heap.size W w' → RFun.rep w' w'.heap.size [.string f.name, .slice A1 f.params.length k1, .int .i64 f.ret, .slice A2 n k2] f) := hide (fun w' h => RFun.later hf (hwW.trans (h.mono hws)) (hwW.trans (h.mono hws)).size)
  have cS : Hid (∀ (b : Int) w', Below W.heap.size W w' → Calls Try.prog 29 #[f.v (.slice A1 f.params.length k1) (.slice A2 n k2), .int .i64 b] w' (SuccPost (sc b) w')) := hide (fun b w' h => by
    have := succs_any f b (.slice A1 f.params.length k1) (.slice A2 n k2) w' w'.heap.size (Nat.le_refl _) (hF.out w' h) hs
    rwa [← hsc.out] at this)
  have cR : Hid (∀ w', Below W.heap.size W w' → Calls Try.prog 27 #[f.v (.slice A1 f.params.length k1) (.slice A2 n k2)] w' (ReachPost n R w')) := hide (fun w' h => by
    have := reach_any f (.slice A1 f.params.length k1) (.slice A2 n k2) w' w'.heap.size (Nat.le_refl _) (hF.out w' h) hs
    rwa [← hn.out, ← hR.out] at this)
  have cP : Hid (∀ w', Below W.heap.size W w' → Calls Try.prog 54 #[f.v (.slice A1 f.params.length k1) (.slice A2 n k2)] w' (PredPost n P w')) := hide (fun w' h => by
    have := preds_any f (.slice A1 f.params.length k1) (.slice A2 n k2) w' w'.heap.size (Nat.le_refl _) (hF.out w' h) hs
    rwa [← hn.out, ← hsc.out, ← hP.out] at this)
  have cL : Hid (∀ w', Below W.heap.size W w' → Calls Try.prog 24 #[f.v (.slice A1 f.params.length k1) (.slice A2 n k2)] w' (LongPost n w')) := hide (fun w' h => by
    have := long_any f (.slice A1 f.params.length k1) (.slice A2 n k2) w' w'.heap.size (Nat.le_refl _) (hF.out w' h)
    rwa [← hn.out] at this)
  replace hs := hide hs
  replace hf := hide hf
  replace hwW := hide hwW
  go_enter Try.func11, Try.ntmps11
  go_wp2_with (fail)
  refine (lives06_any _).mono ?_
  rintro e w1 ⟨rfl, hb1⟩
  go_wp2_with (fail)
  refine (cL.out _ hb1).mono ?_
  rintro e w2 ⟨bl, rfl, h80, hb2⟩
  have hbel2 := hb1.trans (hb2.mono hb1.size)
  clear hb1 hb2 h80
  cases bl with
  | true =>
    go_wp2
    go_ret
    exact ⟨rfl, hwW.out.trans (hbel2.mono hws)⟩
  | false =>
    have hww2 := hbel2.size
    go_upto_region 6 with (fail)
    go_region_held3 (fun w' => Below W.heap.size W w') (first | (with_reducible assumption) | exact hbel2.drew)
      (first
        | (go_at_call 54; refine (cP.out _ (hbel2.drew)).mono ?_; rintro e w3 ⟨gp, cs, rfl, hL3, hb3⟩; have hk3 : Below W.heap.size W w3 := (hbel2.drew).trans (hb3.mono hww2); have hL3' := hide hL3; clear hL3 hb3)
        | (go_at_call 27; refine (cR.out _ hk3).mono ?_; rintro e X ⟨gr, rfl, hR4, hb4⟩; have hk4 : Below W.heap.size W X := hk3.trans (hb4.mono hk3.size); have hL4 := hide (hL3'.out.below hb4); have hR4' := hide hR4; clear hR4 hb4))
    obtain ⟨-, hRr⟩ := bool_reads hR4'.out
    have hPr := rows_reads hL4.out hPl
    have hsX := hk4.size
    have z0 : ∀ w', Below X.heap.size X w' → w'.cell? ⟨w.heap.size, 0, none⟩ = some (.string f.name) := fun w' h => q0 w' (hk4.trans (h.mono hsX))
    have z1 : ∀ w', Below X.heap.size X w' → w'.cell? ⟨w.heap.size, 1, none⟩ = some (.slice A1 f.params.length k1) := fun w' h => q1 w' (hk4.trans (h.mono hsX))
    have z2 : ∀ w', Below X.heap.size X w' → w'.cell? ⟨w.heap.size, 2, none⟩ = some (.int .i64 f.ret) := fun w' h => q2 w' (hk4.trans (h.mono hsX))
    have z3 : ∀ w', Below X.heap.size X w' → w'.cell? ⟨w.heap.size, 3, none⟩ = some (.slice A2 n k2) := fun w' h => q3 w' (hk4.trans (h.mono hsX))
    have cSX : Hid (∀ (b : Int) w', Below X.heap.size X w' → Calls Try.prog 29 #[f.v (.slice A1 f.params.length k1) (.slice A2 n k2), .int .i64 b] w' (SuccPost (sc b) w')) := hide (fun b w' h => cS.out b w' (hk4.trans (h.mono hsX)))
    have hwX : Hid (Below w.heap.size w X) := hide (hwW.out.trans (hk4.mono hws))
    have hwXs : Hid (w.heap.size ≤ X.heap.size) := hide hwX.out.size
    replace hRr := hide hRr
    replace hPr := hide hPr
    have hselfX := Below.refl X.heap.size X
    have hSl : ∀ b : Nat, b ≤ n → waysS sc b ≤ 2000000 * n := fun b hb => Nat.le_trans (ways_le (fun b => succ_len (hsok.out b)) b) (Nat.mul_le_mul_right _ (Nat.le_trans hb hnle))
    replace hSl := hide hSl
    clear q0 q1 q2 q3 hself hbel2 hww2 hk3 hk4 hL3' hL4 hR4' hsX cS cR cP cL hF hW
    go_wp2
    go_loopw [6, 40] (fun m i wr => ∃ b : Nat, i = .int .i64 b ∧ m = .int .i64 (waysS sc b) ∧ b ≤ n ∧ Below X.heap.size X wr) (fun _ i _ => n - (intOf i).toNat)
    case atStart => exact ⟨0, rfl, rfl, Nat.zero_le _, hselfX⟩
    case round =>
      obtain ⟨b, rfl, rfl, hb, hbel⟩ := hrel
      have hSb := hSl.out b hb
      by_cases hlt : b < n
      · have hbi : (b : Int) < (n : Int) := by omega
        have hsl : (sc b).length ≤ n := succ_len (hsok.out b)
        have hbs := hbel.size
        go_wp2_with (first | (go_at_call 29; refine (cSX.out b _ hbel).mono ?_; rintro e w5 ⟨c, rfl, hO5, hb5⟩; obtain ⟨Ac, kc, hcf, hsr⟩ := int_reads hO5; subst hcf))
        have hbel5 := hbel.trans (hb5.mono hbs)
        have hself5 := Below.refl w5.heap.size w5
        have hs5 := hbel5.size
        replace hsr := hide hsr
        clear hO5 hb5 hbel hbs
        obtain ⟨m0, hm0⟩ : ∃ m0, Hid (m0 = waysS sc b) := ⟨_, hide rfl⟩
        rw [← hm0.out] at hSb ⊢
        go_loopw [6, 47] (fun m i wr => ∃ j : Nat, i = .int .i64 j ∧ m = .int .i64 ((m0 + j : Nat) : Int) ∧ j ≤ (sc b).length ∧ Below w5.heap.size w5 wr) (fun _ i _ => (sc b).length - (intOf i).toNat)
        case atStart => exact ⟨0, rfl, rfl, Nat.zero_le _, hself5⟩
        case round =>
          obtain ⟨j, rfl, rfl, hj, hbel⟩ := hrel
          by_cases hlt2 : j < (sc b).length
          · obtain ⟨t, ht⟩ := get_ex (l := sc b) (k := j) hlt2
            have htm := List.mem_of_getElem? ht.out
            have htb := (hsok.out b).bound t htm
            obtain ⟨tn, rfl⟩ := Int.eq_ofNat_of_zero_le htb.1
            have htn : tn < n := by have := htb.2; omega
            clear htb
            obtain ⟨gs, rfl, hsg⟩ := hsr.out (by omega)
            have r0 := hsg j _ ht.out
            clear hsg
            obtain ⟨p, hp⟩ := get_ex (l := P) (k := tn) (by omega)
            obtain ⟨Ap, kp, r1, hpg⟩ := hPr.out tn p hp.out
            replace r1 := fun w' h => r1 w' (hbel5.trans (Below.mono h hs5))
            replace hpg := hide hpg
            have hpl : p.length ≤ n + 1 := predsPart_at_len (succ := sc) (n := n) (b := n) (i := 0) (t := tn) (by rw [predsPart_last, ← hP.out]; exact hp.out)
            have hmem : Hid (decide ((b : Int) ∈ p) = true) := hide (by
              have hh := hp.out
              rw [hP.out] at hh
              rw [decide_eq_true_eq, predsL_mem hh]
              exact ⟨by omega, by omega, htm⟩)
            obtain ⟨rb, hrb⟩ := get_ex (l := R) (k := b) (by omega)
            obtain ⟨rt, hrt⟩ := get_ex (l := R) (k := tn) (by omega)
            have s0 := fun w' h => hRr.out b rb hrb.out w' (hbel5.trans (Below.mono h hs5))
            have s1 := fun w' h => hRr.out tn rt hrt.out w' (hbel5.trans (Below.mono h hs5))
            have hcase : rb = false ∨ (rb = true ∧ rt = true) := by
              cases rb with
              | false => exact .inl rfl
              | true =>
                refine .inr ⟨rfl, ?_⟩
                have h1 := hrb.out
                rw [hR.out] at h1
                have h2 := reach_step h1 (by rw [← hn.out]; exact hlt) (by rw [← hsc.out]; exact htm) (by rw [← hn.out]; exact htn)
                rw [← hR.out, hrt.out] at h2
                exact Option.some.inj h2
            have hne : ¬ ((tn : Nat) : Int) < 0 := by omega
            have hge : ¬ ((tn : Nat) : Int) ≥ (n : Int) := by omega
            have hji : (j : Int) < ((sc b).length : Int) := by omega
            rcases hcase with rfl | ⟨rfl, rfl⟩
            all_goals
              go_wp2
              go_loopw [10, 76] (fun u i wr => ∃ k : Nat, i = .int .i64 k ∧ u = .bool (decide ((b : Int) ∈ p.take k)) ∧ k ≤ p.length ∧ Below w5.heap.size w5 wr) (fun _ i _ => p.length - (intOf i).toNat)
              case atStart => exact ⟨0, rfl, by simp, Nat.zero_le _, hbel⟩
              case round =>
                clear hbel
                obtain ⟨k, rfl, rfl, hk, hbel⟩ := hrel
                obtain ⟨fb, hfb⟩ : ∃ fb, Hid (fb = decide ((b : Int) ∈ p.take k)) := ⟨_, hide rfl⟩
                rw [← hfb.out]
                by_cases hlt3 : k < p.length
                · obtain ⟨x, hx⟩ := get_ex (l := p) (k := k) hlt3
                  obtain ⟨g3, rfl, hg3⟩ := hpg.out (by omega)
                  have r3 := fun w' h => hg3 k x hx.out w' (hbel5.trans (Below.mono h hs5))
                  have hst : Hid (decide ((b : Int) ∈ p.take (k + 1)) = (fb || x == (b : Int))) := hide (by rw [hfb.out]; exact found_step hx.out)
                  have hki : (k : Int) < (p.length : Int) := by omega
                  clear hpg hg3
                  cases fb with
                  | false =>
                    go_wp2
                    go_roundw
                    case rel => exact ⟨k + 1, by go_num, by rw [hst.out]; rfl, hlt3, hbel⟩
                    case measure => simp [intOf]; omega
                  | true =>
                    go_wp2
                    go_roundw
                    case rel => exact ⟨k + 1, by go_num, by rw [hst.out]; rfl, hlt3, hbel⟩
                    case measure => simp [intOf]; omega
                · obtain rfl : k = p.length := by omega
                  have hft : fb = true := by rw [hfb.out, List.take_length]; exact hmem.out
                  subst hft
                  go_wp2
                  go_roundw
                  case rel => exact ⟨j + 1, by go_num, by go_num, hlt2, hbel⟩
                  case measure => simp [intOf]; omega
          · obtain rfl : j = (sc b).length := by omega
            have hbX := hbel5.trans (hbel.mono hs5)
            have hstp : Hid (waysS sc (b + 1) = m0 + (sc b).length) := hide (by rw [ways_step, hm0.out])
            go_wp2
            go_roundw
            case rel => exact ⟨b + 1, by go_num, by rw [hstp.out], hlt, hbX⟩
            case measure => simp [intOf]; omega
      · obtain rfl : b = n := by omega
        have hsum : Hid ((P.map List.length).sum = waysS sc b) := hide (by rw [hP.out, predsL_sum hsok.out]; rfl)
        have hPS : Hid (∀ t : Nat, lensS P t ≤ waysS sc b) := hide (fun t => by rw [← hsum.out]; exact lens_le P t)
        have hend : Hid (lensS P b = waysS sc b) := hide (by rw [← hsum.out, ← lens_end, hPl])
        obtain ⟨S, hS⟩ : ∃ S, Hid (S = waysS sc b) := ⟨_, hide rfl⟩
        rw [← hS.out] at hPS hend hSb ⊢
        go_wp2
        go_loopw [6, 95] (fun m i wr => ∃ t : Nat, i = .int .i64 t ∧ m = .int .i64 ((S : Int) - (lensS P t : Nat)) ∧ t ≤ b ∧ Below X.heap.size X wr) (fun _ i _ => b - (intOf i).toNat)
        case atStart => exact ⟨0, rfl, by simp [lensS], Nat.zero_le _, hbel⟩
        case round =>
          clear hbel
          obtain ⟨t, rfl, rfl, ht, hbel⟩ := hrel
          by_cases hlt2 : t < b
          · obtain ⟨p, hp⟩ := get_ex (l := P) (k := t) (by omega)
            obtain ⟨Ap, kp, r1, hpg⟩ := hPr.out t p hp.out
            replace hpg := hide hpg
            have hL1 := hPS.out t
            have hL2 := hPS.out (t + 1)
            have hst : Hid (lensS P (t + 1) = lensS P t + p.length) := hide (lens_step hp.out)
            rw [hst.out] at hL2
            obtain ⟨q, hq⟩ : ∃ q, Hid (q = lensS P t) := ⟨_, hide rfl⟩
            rw [← hq.out] at hL1 hL2 hst ⊢
            have hti : (t : Int) < (b : Int) := by omega
            have hsrt : Hid (p.Pairwise (· < ·)) := hide (by
              have hh := hp.out
              rw [hP.out] at hh
              exact predsL_sorted hh)
            go_wp2
            go_loopw [6, 101] (fun m i wr => ∃ j : Nat, i = .int .i64 j ∧ m = .int .i64 ((S : Int) - ((q + j : Nat) : Int)) ∧ j ≤ p.length ∧ Below X.heap.size X wr) (fun _ i _ => p.length - (intOf i).toNat)
            case atStart => exact ⟨0, rfl, by simp, Nat.zero_le _, hbel⟩
            case round =>
              clear hbel
              obtain ⟨j, rfl, rfl, hj, hbel⟩ := hrel
              by_cases hlt3 : j < p.length
              · obtain ⟨gs, rfl, hsg⟩ := hpg.out (by omega)
                obtain ⟨x, hx⟩ := get_ex (l := p) (k := j) hlt3
                have r0 := hsg j _ hx.out
                have hji : (j : Int) < (p.length : Int) := by omega
                cases j with
                | zero =>
                  clear hsg
                  go_upto_region 35 with (fail)
                  go_quiet (fail)
                  go_wp2
                  go_roundw
                  case rel => exact ⟨1, by go_num, by go_num, hlt3, below_drewN hbel _⟩
                  case measure => simp [intOf]; omega
                | succ j =>
                  obtain ⟨y, hy⟩ := get_ex (l := p) (k := j) (by omega)
                  have r3 := hsg j _ hy.out
                  clear hsg
                  have hyx : ¬ y ≥ x := by
                    have h1 := List.pairwise_iff_getElem.1 hsrt.out j (j + 1) (by omega) hlt3 (by omega)
                    have h2 := (List.getElem?_eq_some_iff.1 hx.out).2
                    have h3 := (List.getElem?_eq_some_iff.1 hy.out).2
                    rw [h2, h3] at h1
                    omega
                  have e1 : ((j + 1 : Nat) : Int) > 0 := by omega
                  have e2 : ((j + 1 : Nat) : Int) - 1 = (j : Int) := by omega
                  have e3 : ((j + 1 : Nat) : Int) < (p.length : Int) := hji
                  go_upto_region 35 with (fail)
                  go_quiet (fail)
                  go_wp2
                  go_roundw
                  case rel => exact ⟨j + 2, by go_num, by go_num, hlt3, below_drewN hbel _⟩
                  case measure => simp [intOf]; omega
              · obtain rfl : j = p.length := by omega
                go_wp2
                go_roundw
                case rel => exact ⟨t + 1, by go_num, by rw [hst.out], hlt2, hbel⟩
                case measure => simp [intOf]; omega
          · obtain rfl : t = b := by omega
            rw [hend.out]
            have e0 : (S : Int) - (S : Int) = 0 := by omega
            rw [e0]
            go_wp2
            go_ret
            exact ⟨rfl, hwX.out.trans (hbel.mono hwXs.out)⟩
end Go.Proofs.Ytffklfalocamiaa
