/- The law GraphTells, walked. No condition but sizes. -/
import Derived.Test.YtffklfalocamiaaGrR
import Derived.Test.YtffklfalocamiaaGrU
import Derived.Test.YtffklfalocamiaaGrW
import Derived.Test.YtffklfalocamiaaGrY
namespace Go.Proofs.Ytffklfalocamiaa
open Go.RowKit
set_option linter.unusedSimpArgs false
set_option linter.unusedVariables false

theorem ints_same {u v : Value} {w : World} {B1 B2 : Nat} {l : List Int} (h1 : OwnI w B1 u l) (h2 : OwnI w B2 v l) : Calls Try.prog 49 #[u, v] w fun e w' => e = .returned (.bool true) ∧ Below w.heap.size w w' := by
  have := rints_any u v l l w w.heap.size (Nat.le_refl _) h1.rep h2.rep
  rwa [show (l == l) = true by simp] at this
theorem OwnI.below {w w' : World} {B : Nat} {v : Value} {l : List Int} (h : OwnI w B v l) (hb : Below w.heap.size w w') : OwnI w' B v l := h.kept fun k _ hk => hb.block k hk
theorem OwnL.kept {w w' : World} {B : Nat} {no : Option Nat} {v : Value} {ls : List (List Int)} {cs : List Value} (h : OwnL w B no v ls cs) (hk : ∀ k, B ≤ k → k < w.heap.size → w'.heap[k]? = w.heap[k]?) : OwnL w' B no v ls cs :=
  ⟨row_kept h.row fun k hv => hk k (row_lt h.row hv).1 (row_lt h.row hv).2.1, fun i c l hc hl => (h.inn i c l hc hl).kept hk, h.apart, h.far⟩
theorem blocks_of {w : World} {B g n k : Nat} {no : Option Nat} {ls : List (List Int)} {cs : List Value} (h : OwnL w B no (.slice (some ⟨g, 0, none⟩) n n) ls cs) (hk : BlocksOf g cs k) : B ≤ k ∧ k < w.heap.size := by
  rcases hk with rfl | ⟨i, c, hc, hk⟩
  · have := row_lt h.row (k := k) rfl
    exact ⟨this.1, this.2.1⟩
  · have := h.below_at hc hk
    exact ⟨this.1, this.2.1⟩
set_option maxRecDepth 100000 in
set_option maxHeartbeats 12800000 in
theorem law_tells6 (f : Fun) (b : Int) (c1 c2 : Value) (w : World) (hf : RFun.rep w w.heap.size [.string f.name, c1, .int .i64 f.ret, c2] f) (hs : Small f) :
    Calls Try.prog 9 #[f.v c1 c2, .int .i64 b] w (LawPost w) := by
  obtain ⟨hp, hb⟩ := fun_open (RFun.later hf (Below.refl _ _) (Nat.le_refl _))
  obtain ⟨A1, k1, h1, -, -⟩ := Rp.slice1_open hp
  obtain ⟨A2, k2, h2, hm2, -⟩ := Rp.slice1_open hb
  cases h1; cases h2
  clear hp hb
  obtain ⟨n, hn⟩ : ∃ n, Hid (n = f.blocks.length) := ⟨_, hide rfl⟩
  have hnle : n ≤ 2000000 := by rw [hn.out]; exact hs.blocks
  obtain ⟨sc, hsc⟩ : ∃ sc, Hid (sc = succsF f.blocks) := ⟨_, hide rfl⟩
  have hsok : Hid (∀ b, SuccOk n (sc b)) := hide (fun b => by rw [hsc.out, hn.out]; exact succsF_ok _ _)
  obtain ⟨R, hR⟩ : ∃ R, Hid (R = reachF f.blocks) := ⟨_, hide rfl⟩
  obtain ⟨O, hO⟩ : ∃ O, Hid (O = orderF f.blocks) := ⟨_, hide rfl⟩
  have hol : O.length ≤ n := by rw [hO.out, hn.out]; exact order_len _
  have hob : Hid (∀ x, x ∈ O → 0 ≤ x ∧ x < n) := hide (by rw [hO.out, hn.out]; exact (order_ok _).bound)
  have hnd : Hid O.Nodup := hide (by rw [hO.out]; exact (order_ok _).nodup)
  obtain ⟨P, hP⟩ : ∃ P, Hid (P = predsL sc n) := ⟨_, hide rfl⟩
  have hPl : P.length = n := by rw [hP.out, predsL_len]
  have hRl : R.length = n := by rw [hR.out, hn.out, reach_len]
  rw [← hn.out] at hf hm2 ⊢
  obtain ⟨W, hW, hwW, hWs, hx⟩ := boxes1 w #[.string f.name, .slice A1 f.params.length k1, .int .i64 f.ret, .slice A2 n k2] 41
  have q0 : ∀ w', Below W.heap.size W w' → w'.cell? ⟨w.heap.size, 0, none⟩ = some (.string f.name) := hx 0 _ rfl
  have q1 : ∀ w', Below W.heap.size W w' → w'.cell? ⟨w.heap.size, 1, none⟩ = some (.slice A1 f.params.length k1) := hx 1 _ rfl
  have q2 : ∀ w', Below W.heap.size W w' → w'.cell? ⟨w.heap.size, 2, none⟩ = some (.int .i64 f.ret) := hx 2 _ rfl
  have q3 : ∀ w', Below W.heap.size W w' → w'.cell? ⟨w.heap.size, 3, none⟩ = some (.slice A2 n k2) := hx 3 _ rfl
  clear hx
  have hws : w.heap.size ≤ W.heap.size := by omega
  replace hWs := hide hWs
  have hself := Below.refl W.heap.size W
  have hF : Hid (∀ w', Below W.heap.size W w' → RFun.rep w' w'.heap.size [.string f.name, .slice A1 f.params.length k1, .int .i64 f.ret, .slice A2 n k2] f) := hide (fun w' h => RFun.later hf (hwW.trans (h.mono hws)) (hwW.trans (h.mono hws)).size)
  have hsmall := hide hs
  have cL : Hid (∀ w', Below W.heap.size W w' → Calls Try.prog 24 #[f.v (.slice A1 f.params.length k1) (.slice A2 n k2)] w' (LongPost n w')) := hide (fun w' h => by
    have := long_any f (.slice A1 f.params.length k1) (.slice A2 n k2) w' w'.heap.size (Nat.le_refl _) (hF.out w' h)
    rwa [← hn.out] at this)
  obtain ⟨i0, hi0, hz0, hz1, hz2⟩ := cinfo_parts cinfo_int
  replace hi0 := hide hi0
  replace hz0 := hide hz0
  replace hz1 := hide hz1
  replace hz2 := hide hz2
  replace hs := hide hs
  replace hf := hide hf
  replace hwW := hide hwW
  go_enter Try.func9, Try.ntmps9
  go_wp2_with (fail)
  refine (lives06_any _).mono ?_
  rintro e w1 ⟨rfl, hb1⟩
  go_wp2_with (fail)
  refine (cL.out _ hb1).mono ?_
  rintro e w2 ⟨bl, rfl, h80, hb2⟩
  have hbel2 := hb1.trans (hb2.mono hb1.size)
  clear hb1 hb2 h80
  cases bl with
  | true =>
    go_wp2
    go_ret
    exact ⟨rfl, hwW.out.trans (hbel2.mono hws)⟩
  | false =>
    have cC := hide (rcopyfunc_any f (.slice A1 f.params.length k1) (.slice A2 n k2) w2 w2.heap.size (Nat.le_refl _) (by have := hF.out w2 hbel2; exact this) hsmall.out)
    go_wp2_with (fail)
    refine cC.out.mono ?_
    rintro e w3 ⟨c, d, rfl, hOI, hOK, hb3⟩
    obtain ⟨Am, Cm, hcm⟩ := row_form hOI.row
    subst hcm
    obtain ⟨Ad, Cd, hdm⟩ : ∃ A C, d = .slice A n C := by
      obtain ⟨xs, h1, -⟩ := hOK.more
      obtain ⟨A, C, h⟩ := row_form h1
      exact ⟨A, C, by rw [h, hn.out]⟩
    subst hdm
    have hbel3 := hbel2.trans (hb3.mono hbel2.size)
    have hs3 := hbel3.size
    have hOI' := hide hOI
    have hOK' := hide hOK
    clear hOI hOK
    go_upto_region 6 with (fail)
    obtain ⟨Y, hY, hwY, hYs, hy⟩ := boxes1 w3 #[.string f.name, .slice Am f.params.length Cm, .int .i64 f.ret, .slice Ad n Cd] 41
    have hMI := hide (hOI'.out.kept (w' := Y) fun k _ hk => hwY.block k hk)
    have hMK := hide (hOK'.out.kept (w' := Y) fun k _ hk => hwY.block k hk)
    have hwYW : Hid (Below W.heap.size W Y) := hide (hbel3.trans (hwY.mono hs3))
    have hYss : Hid (W.heap.size ≤ Y.heap.size) := hide hwYW.out.size
    have m0 : ∀ w', Below Y.heap.size Y w' → w'.cell? ⟨w3.heap.size, 0, none⟩ = some (.string f.name) := hy 0 _ rfl
    have m1 : ∀ w', Below Y.heap.size Y w' → w'.cell? ⟨w3.heap.size, 1, none⟩ = some (.slice Am f.params.length Cm) := hy 1 _ rfl
    have m2 : ∀ w', Below Y.heap.size Y w' → w'.cell? ⟨w3.heap.size, 2, none⟩ = some (.int .i64 f.ret) := hy 2 _ rfl
    have m3 : ∀ w', Below Y.heap.size Y w' → w'.cell? ⟨w3.heap.size, 3, none⟩ = some (.slice Ad n Cd) := hy 3 _ rfl
    have z0 : ∀ w', Below Y.heap.size Y w' → w'.cell? ⟨w.heap.size, 0, none⟩ = some (.string f.name) := fun w' h => q0 w' (hwYW.out.trans (h.mono hYss.out))
    have z1 : ∀ w', Below Y.heap.size Y w' → w'.cell? ⟨w.heap.size, 1, none⟩ = some (.slice A1 f.params.length k1) := fun w' h => q1 w' (hwYW.out.trans (h.mono hYss.out))
    have z2 : ∀ w', Below Y.heap.size Y w' → w'.cell? ⟨w.heap.size, 2, none⟩ = some (.int .i64 f.ret) := fun w' h => q2 w' (hwYW.out.trans (h.mono hYss.out))
    have z3 : ∀ w', Below Y.heap.size Y w' → w'.cell? ⟨w.heap.size, 3, none⟩ = some (.slice A2 n k2) := fun w' h => q3 w' (hwYW.out.trans (h.mono hYss.out))
    have hfY : Hid (∀ w', Below Y.heap.size Y w' → RFun.rep w' w'.heap.size [.string f.name, .slice A1 f.params.length k1, .int .i64 f.ret, .slice A2 n k2] f) := hide (fun w' h => hF.out w' (hwYW.out.trans (h.mono hYss.out)))
    have hmY : Hid (∀ w', Below Y.heap.size Y w' → RFun.rep w' w'.heap.size [.string f.name, .slice Am f.params.length Cm, .int .i64 f.ret, .slice Ad n Cd] f) := hide (fun w' h => by
      obtain ⟨_, _, _, _, _, hr, hnm⟩ := hf.out
      exact RFun.later (w := Y) (B := Y.heap.size) ⟨_, _, rfl, hMI.out.rep, by have := hMK.out.rep; exact this, hr, hnm⟩ h h.size)
    have cS1 : Hid (∀ w', Below Y.heap.size Y w' → Calls Try.prog 29 #[f.v (.slice Am f.params.length Cm) (.slice Ad n Cd), .int .i64 b] w' (SuccPost (sc b) w')) := hide (fun w' h => by
      have := succs_any f b (.slice Am f.params.length Cm) (.slice Ad n Cd) w' w'.heap.size (Nat.le_refl _) (hmY.out w' h) hsmall.out
      rwa [← hsc.out] at this)
    have cS2 : Hid (∀ w', Below Y.heap.size Y w' → Calls Try.prog 50 #[f.v (.slice A1 f.params.length k1) (.slice A2 n k2), .int .i64 b] w' (SuccPost (sc b) w')) := hide (fun w' h => by
      have := rsuccs_any f b (.slice A1 f.params.length k1) (.slice A2 n k2) w' w'.heap.size (Nat.le_refl _) (hfY.out w' h) hsmall.out
      rwa [← hsc.out] at this)
    have cR1 : Hid (∀ w', Below Y.heap.size Y w' → Calls Try.prog 27 #[f.v (.slice Am f.params.length Cm) (.slice Ad n Cd)] w' (ReachPost n R w')) := hide (fun w' h => by
      have := reach_any f (.slice Am f.params.length Cm) (.slice Ad n Cd) w' w'.heap.size (Nat.le_refl _) (hmY.out w' h) hsmall.out
      rwa [← hn.out, ← hR.out] at this)
    have cR2 : Hid (∀ w', Below Y.heap.size Y w' → Calls Try.prog 52 #[f.v (.slice A1 f.params.length k1) (.slice A2 n k2)] w' (ReachPost n R w')) := hide (fun w' h => by
      have := rreach_any f (.slice A1 f.params.length k1) (.slice A2 n k2) w' w'.heap.size (Nat.le_refl _) (hfY.out w' h) hsmall.out
      rwa [← hn.out, ← hR.out] at this)
    have cO1 : Hid (∀ w', Below Y.heap.size Y w' → Calls Try.prog 26 #[f.v (.slice Am f.params.length Cm) (.slice Ad n Cd)] w' (OrdPost O w')) := hide (fun w' h => by
      have := order_any f (.slice Am f.params.length Cm) (.slice Ad n Cd) w' w'.heap.size (Nat.le_refl _) (hmY.out w' h) hsmall.out
      rwa [← hO.out] at this)
    have cO2 : Hid (∀ w', Below Y.heap.size Y w' → Calls Try.prog 53 #[f.v (.slice A1 f.params.length k1) (.slice A2 n k2)] w' (OrdPost O w')) := hide (fun w' h => by
      have := rorder_any f (.slice A1 f.params.length k1) (.slice A2 n k2) w' w'.heap.size (Nat.le_refl _) (hfY.out w' h) hsmall.out
      rwa [← hO.out] at this)
    have cP1 : Hid (∀ w', Below Y.heap.size Y w' → Calls Try.prog 54 #[f.v (.slice Am f.params.length Cm) (.slice Ad n Cd)] w' (PredPost n P w')) := hide (fun w' h => by
      have := preds_any f (.slice Am f.params.length Cm) (.slice Ad n Cd) w' w'.heap.size (Nat.le_refl _) (hmY.out w' h) hsmall.out
      rwa [← hn.out, ← hsc.out, ← hP.out] at this)
    have cP2 : Hid (∀ w', Below Y.heap.size Y w' → Calls Try.prog 55 #[f.v (.slice A1 f.params.length k1) (.slice A2 n k2)] w' (PredPost n P w')) := hide (fun w' h => by
      have := rpreds_any f (.slice A1 f.params.length k1) (.slice A2 n k2) w' w'.heap.size (Nat.le_refl _) (hfY.out w' h) hsmall.out
      rwa [← hn.out, ← hsc.out, ← hP.out] at this)
    have cF : Hid (∀ w', Below Y.heap.size Y w' → Calls Try.prog 57 #[f.v (.slice Am f.params.length Cm) (.slice Ad n Cd), f.v (.slice A1 f.params.length k1) (.slice A2 n k2)] w' fun e w'' => e = .returned (.bool true) ∧ Below w'.heap.size w' w'') := hide (fun w' h => by
      have := funcs_any f f (.slice Am f.params.length Cm) (.slice Ad n Cd) (.slice A1 f.params.length k1) (.slice A2 n k2) w' w'.heap.size (Nat.le_refl _) (hmY.out w' h) (hfY.out w' h)
      rwa [show decide (f = f) = true by simp] at this)
    rw [hY]
    have hwYw : Hid (Below w.heap.size w Y) := hide (hwW.out.trans (hwYW.out.mono hws))
    have hwYs : Hid (w.heap.size ≤ Y.heap.size) := hide hwYw.out.size
    have hselfY := Below.refl Y.heap.size Y
    clear hY hy hwY hYs hMI hMK hOI' hOK' hbel3 hs3 hbel2 hb3 q0 q1 q2 q3 hself hF hW cC cL
    go_region_held3 (fun w' => Below Y.heap.size Y w') (first | (with_reducible assumption) | exact hselfY.drew)
      (first
        | (go_at_call 29; refine (cS1.out _ (hselfY.drew)).mono ?_; rintro e u1 ⟨v1, rfl, hO1, hb1⟩; have hk1 : Below Y.heap.size Y u1 := (hselfY.drew).trans hb1; have hg1 := hide hO1; clear hO1 hb1)
        | (go_at_call 50; refine (cS2.out _ hk1).mono ?_; rintro e u2 ⟨v2, rfl, hO2, hb2⟩; have hk2 : Below Y.heap.size Y u2 := hk1.trans (hb2.mono hk1.size); have hg1b := hide (hg1.out.below hb2); have hg2 := hide hO2; clear hO2 hb2)
        | (go_at_call 49; refine (ints_same hg7b.out hg8.out).mono ?_; rintro e Z ⟨rfl, hb9⟩; have hk9 : Below Y.heap.size Y Z := hk8.trans (hb9.mono hk8.size); clear hb9)
        | (go_at_call 49; refine (ints_same hg1b.out hg2.out).mono ?_; rintro e u3 ⟨rfl, hb3⟩; have hk3 : Below Y.heap.size Y u3 := hk2.trans (hb3.mono hk2.size); clear hb3)
        | (go_at_call 27; refine (cR1.out _ hk3).mono ?_; rintro e u4 ⟨g4, rfl, hO4, hb4⟩; have hk4 : Below Y.heap.size Y u4 := hk3.trans (hb4.mono hk3.size); have hg4 := hide hO4; clear hO4 hb4)
        | (go_at_call 52; refine (cR2.out _ hk4).mono ?_; rintro e u5 ⟨g5, rfl, hO5, hb5⟩; have hk5 : Below Y.heap.size Y u5 := hk4.trans (hb5.mono hk4.size); have hg4b := hide (row_kept hg4.out fun k hk => hb5.block k (row_lt hg4.out hk).2.1); have hg5 := hide hO5; clear hO5 hb5)
        | (go_at_call 51; refine (bools_same _ _ _ g4 g5 n R hnle hg4b.out hg5.out).mono ?_; rintro e u6 ⟨rfl, hb6⟩; have hk6 : Below Y.heap.size Y u6 := hk5.trans (hb6.mono hk5.size); clear hb6)
        | (go_at_call 26; refine (cO1.out _ hk6).mono ?_; rintro e u7 ⟨v7, rfl, hO7, hb7⟩; have hk7 : Below Y.heap.size Y u7 := hk6.trans (hb7.mono hk6.size); have hg7 := hide hO7; clear hO7 hb7)
        | (go_at_call 53; refine (cO2.out _ hk7).mono ?_; rintro e u8 ⟨v8, rfl, hO8, hb8⟩; have hk8 : Below Y.heap.size Y u8 := hk7.trans (hb8.mono hk7.size); have hg7b := hide (hg7.out.below hb8); have hg8 := hide hO8; clear hO8 hb8))
    clear hg1 hg1b hg2 hg4 hg4b hg5 hg7 hg7b hg8 hk1 hk2 hk3 hk4 hk5 hk6 hk7 hk8 cS2 cR1 cR2 cO1 cO2
    go_upto_region 8 with (fail)
    go_region_held3 (fun w' => Below Y.heap.size Y w') (first | (with_reducible assumption) | exact hk9.drew)
      (first
        | (go_at_call 54; refine (cP1.out _ hkp1).mono ?_; rintro e V2 ⟨gq, csq, rfl, hLq, hbq⟩; have hkp2 : Below Y.heap.size Y V2 := hkp1.trans (hbq.mono hkp1.size); have hL2 := hide hLq; have hL1b := hide (hL1.out.below hbq); clear hLq hbq)
        | (go_at_call 54; refine (cP1.out _ (hk9.drew)).mono ?_; rintro e V1 ⟨gp, csp, rfl, hLp, hbp⟩; have hkp1 : Below Y.heap.size Y V1 := (hk9.drew).trans (hbp.mono hk9.size); have hL1 := hide hLp; clear hLp hbp))
    have hbo : Hid (∀ k, BlocksOf gp csp k → Y.heap.size ≤ k ∧ k < V1.heap.size) := hide (fun k hk => ⟨Nat.le_trans hk9.size (blocks_of hL1.out hk).1, (blocks_of hL1.out hk).2⟩)
    clear hL1
    go_wp2_with (fail)
    refine (cP2.out _ hkp2).mono ?_
    rintro e V3 ⟨gw, csw, rfl, hLw, hbw⟩
    have hkp3 : Below Y.heap.size Y V3 := hkp2.trans (hbw.mono hkp2.size)
    have hL2b := hide (hL2.out.below hbw)
    have hL1c := hide (hL1b.out.below hbw)
    have hV12 : Hid (V1.heap.size ≤ V2.heap.size) := hide (by
      obtain ⟨-, h1, -⟩ := row_lt hL2.out.row (k := gq) rfl
      obtain ⟨h2, -, -⟩ := row_lt hL2.out.row (k := gq) rfl
      omega)
    have hLw' := hide (hLw.mono hV12.out)
    clear hL2 hL1b hLw hbw
    go_wp2_with (fail)
    refine (lists_same _ _ _ gp gw n none none P csp csw hnle hPl hL1c.out hLw'.out).mono ?_
    rintro e V4 ⟨rfl, hb4⟩
    have hkp4 : Below Y.heap.size Y V4 := hkp3.trans (hb4.mono hkp3.size)
    go_wp2_with (fail)
    refine (cF.out _ hkp4).mono ?_
    rintro e V5 ⟨rfl, hb5⟩
    have hkp5 : Below Y.heap.size Y V5 := hkp4.trans (hb5.mono hkp4.size)
    have hP5 := hide (hL1c.out.below (hb4.trans (hb5.mono hb4.size)))
    have hQ5 := hide (hL2b.out.below (hb4.trans (hb5.mono hb4.size)))
    have hW5 := hide (hLw'.out.below (hb4.trans (hb5.mono hb4.size)))
    clear hL1c hL2b hLw' hb4 hb5 hkp1 hkp2 hkp3 hkp4 hk9
    go_wp2_with (fail)
    refine (cS1.out _ hkp5).mono ?_
    rintro e V6 ⟨vs, rfl, hs6, hb6⟩
    obtain ⟨As, ks, hcf⟩ := row_form hs6.row
    subst hcf
    obtain ⟨ns, hns⟩ : ∃ ns, Hid (ns = (sc b).length) := ⟨_, hide rfl⟩
    have hnsl : ns ≤ n := by rw [hns.out]; exact succ_len (hsok.out b)
    rw [← hns.out] at hs6 ⊢
    have hs6' : Hid (∃ xs, V6.ownsRow V5.heap.size 3 1 (.slice As ns ks) ns xs) := hide ⟨_, by have := hs6.row; rwa [← hns.out] at this⟩
    clear hs6
    go_wp2
    go_loopw [62] (fun i wr => ∃ m : Nat, i = .int .i64 m ∧ m ≤ ns ∧ Hid (∃ xs, wr.ownsRow V5.heap.size 3 1 (.slice As ns ks) ns xs) ∧ Below V5.heap.size V5 wr) (fun i _ => ns - (intOf i).toNat)
    case atStart => exact ⟨0, rfl, Nat.zero_le _, hs6', hb6⟩
    case round =>
      clear hs6' hb6
      obtain ⟨m, rfl, hm, hrw, hbel⟩ := hrel
      by_cases hlt : m < ns
      · have hmi : (m : Int) < (ns : Int) := by omega
        obtain ⟨xs, hx⟩ := hrw.out
        have hxl : xs.length = ns := by have := hx.1; omega
        obtain ⟨ga, cap, hv, hga, -⟩ := hx.form (by omega)
        cases hv
        obtain ⟨y, hy⟩ := get_ex (l := xs) (k := m) (by omega)
        have r1 : wr.cell? ⟨ga, m, none⟩ = some y := by rw [World.ownsRow.cellAt hx m (by omega)]; exact hy.out
        have f1 : wr.frozen? ⟨ga, m, none⟩ = false := World.ownsRow.frozenAt hx m
        have hput : Hid (∀ u, (∃ xs, (wr.setCell ⟨ga, m, none⟩ u).ownsRow V5.heap.size 3 1 (.slice (some ⟨ga, 0, none⟩) ns ks) ns xs) ∧ Below V5.heap.size V5 (wr.setCell ⟨ga, m, none⟩ u)) := hide (fun u => ⟨⟨_, (World.ownsRow.stored hx m u).1⟩, hbel.setCell (p := ⟨ga, m, none⟩) hga u⟩)
        replace hx := hide hx
        go_wp2
        go_roundw
        case rel => exact ⟨m + 1, by go_num, hlt, hide (hput.out _).1, (hput.out _).2⟩
        case measure => simp [intOf]; omega
      · obtain rfl : m = ns := by omega
        have hP6 := hP5.out.below hbel
        have hQ6 := hQ5.out.below hbel
        have hW6 := hW5.out.below hbel
        have hkw := hkp5.trans (hbel.mono hkp5.size)
        have cWi := hide (wipe_any wr _ gp n P csp (by have := (row_lt hP6.row (k := gp) rfl); omega) hnle hPl (fun l hl => by
          obtain ⟨i, hi⟩ := List.getElem?_of_mem hl
          have := predsPart_at_len (succ := sc) (n := n) (b := n) (i := 0) (t := i) (p := l) (by rw [predsPart_last, ← hP.out]; exact hi)
          omega) hP6)
        replace hP6 := hide hP6
        replace hQ6 := hide hQ6
        replace hW6 := hide hW6
        have hV1w : Hid (V1.heap.size ≤ wr.heap.size) := hide (by
          obtain ⟨h1, h2, -⟩ := row_lt hQ6.out.row (k := gq) rfl
          omega)
        go_wp2_with (fail)
        refine cWi.out.mono ?_
        rintro e V7 ⟨rfl, hon7⟩
        have hQ7 := hQ6.out.kept (w' := V7) fun k h1 h2 => hon7.block k h2 (fun hb => by have := (hbo.out k hb).2; omega)
        have hW7 := hW6.out.kept (w' := V7) fun k h1 h2 => hon7.block k h2 (fun hb => by have := (hbo.out k hb).2; omega)
        have hk7 : Below Y.heap.size Y V7 := hkw.trans (hon7.to_below (fun k hk => (hbo.out k hk).1) hkw.size)
        replace hQ7 := hide hQ7
        replace hW7 := hide hW7
        clear hon7 hkw hkp5 hbel cWi hP5 hQ5 hW5
        go_wp2_with (fail)
        refine (lists_same _ _ _ gq gw n none none P csq csw hnle hPl hQ7.out hW7.out).mono ?_
        rintro e V8 ⟨rfl, hb8⟩
        have hk8 : Below Y.heap.size Y V8 := hk7.trans (hb8.mono hk7.size)
        go_wp2_with (fail)
        refine (cF.out _ hk8).mono ?_
        rintro e V9 ⟨rfl, hb9⟩
        have hk9 : Below Y.heap.size Y V9 := hk8.trans (hb9.mono hk8.size)
        go_wp2
        go_ret
        exact ⟨rfl, hwYw.out.trans (hk9.mono hwYs.out)⟩
end Go.Proofs.Ytffklfalocamiaa
