/- DomTells. -/
import Derived.Test.YtkhlnopbgngjbaaFrF
import Derived.Test.YtkhlnopbgngjbaaDoG
import Derived.Test.YtkhlnopbgngjbaaGrY
namespace Go.Proofs.Ytkhlnopbgngjbaa
open Go.RowKit
set_option linter.unusedSimpArgs false
set_option linter.unusedVariables false

theorem own_n_i {w : World} {B g n : Nat} {l : List Int} (h : OwnN w B g n l) (ok : ∀ x, x ∈ l → I64 x) : OwnI w B (.slice (some ⟨g, 0, none⟩) n n) l := by
  have e := h.len
  subst e
  exact ⟨h, ok⟩
theorem treeR {f : Fun} {c1 c2 : Value} {w : World} {B : Nat} (hB : B ≤ w.heap.size) (hf : RFun.rep w B [.string f.name, c1, .int .i64 f.ret, c2] f) (hs : Small f) :
    Calls Try.prog 28 #[f.v c1 c2] w (RTreePost (succsF f.blocks) (orderF f.blocks) f.blocks.length w) := (tree_any f c1 c2 w B hB hf hs).mono (by
  rintro e w' ⟨g, cs, l, rfl, hI, hL, hb⟩
  rw [hI.eq (order_ok _) (dom_tab _ _ _)] at hL
  exact ⟨g, cs, rfl, hL, hb⟩)
theorem idomR {f : Fun} {c1 c2 : Value} {w : World} {B : Nat} (hB : B ≤ w.heap.size) (hf : RFun.rep w B [.string f.name, c1, .int .i64 f.ret, c2] f) (hs : Small f) :
    Calls Try.prog 24 #[f.v c1 c2] w (RIdomPost (succsF f.blocks) (orderF f.blocks) f.blocks.length w) := (idom_any f c1 c2 w B hB hf hs).mono (by
  rintro e w' ⟨g, l, rfl, hI, hL, hb⟩
  rw [hI.eq (order_ok _) (dom_tab _ _ _)] at hL
  exact ⟨g, rfl, hL, hb⟩)
set_option maxRecDepth 100000 in
set_option maxHeartbeats 12800000 in
theorem law_dom_tells (f : Fun) (c1 c2 : Value) (w : World) (hf : RFun.rep w w.heap.size [.string f.name, c1, .int .i64 f.ret, c2] f) (hs : Small f) (hsz : funSz f ≤ 2000000) :
    Calls Try.prog 5 #[f.v c1 c2] w (LawPost w) := by
  obtain ⟨hp, hb⟩ := fun_open (RFun.later hf (Below.refl _ _) (Nat.le_refl _))
  obtain ⟨A1, k1, h1, -, -⟩ := Rp.slice1_open hp
  obtain ⟨A2, k2, h2, hm2, -⟩ := Rp.slice1_open hb
  cases h1; cases h2
  clear hp hb
  obtain ⟨n, hn⟩ : ∃ n, Hid (n = f.blocks.length) := ⟨_, hide rfl⟩
  have hnle : n ≤ 2000000 := by rw [hn.out]; exact hs.blocks
  obtain ⟨O, hO⟩ : ∃ O, Hid (O = orderF f.blocks) := ⟨_, hide rfl⟩
  obtain ⟨sc, hsc⟩ : ∃ sc, Hid (sc = succsF f.blocks) := ⟨_, hide rfl⟩
  obtain ⟨R, hR⟩ : ∃ R, Hid (R = reachF f.blocks) := ⟨_, hide rfl⟩
  obtain ⟨P, hP⟩ : ∃ P, Hid (P = predsL sc n) := ⟨_, hide rfl⟩
  have hPl : P.length = n := by rw [hP.out, predsL_len]
  have hRl : R.length = n := by rw [hR.out, hn.out, reach_len]
  have hsok : Hid (∀ b, SuccOk n (sc b)) := hide (fun b => by rw [hsc.out, hn.out]; exact succsF_ok _ _)
  have hok : Hid (OrderOk n sc O) := hide (by rw [hO.out, hn.out, hsc.out]; exact order_ok _)
  have hol : O.length ≤ n := by rw [hO.out, hn.out]; exact order_len _
  have hRat : Hid (∀ k : Nat, k < n → R[k]? = some (decide ((k : Int) ∈ O))) := hide (fun k hk => by rw [hR.out, hO.out]; exact reach_at _ _ (by rw [← hn.out]; exact hk))
  rw [← hn.out]
  rw [← hn.out] at hf hm2
  obtain ⟨W, hW, hwW, hWs, hx⟩ := boxes1 w #[.string f.name, .slice A1 f.params.length k1, .int .i64 f.ret, .slice A2 n k2] 25
  have q0 : ∀ w', Below W.heap.size W w' → w'.cell? ⟨w.heap.size, 0, none⟩ = some (.string f.name) := hx 0 _ rfl
  have q1 : ∀ w', Below W.heap.size W w' → w'.cell? ⟨w.heap.size, 1, none⟩ = some (.slice A1 f.params.length k1) := hx 1 _ rfl
  have q2 : ∀ w', Below W.heap.size W w' → w'.cell? ⟨w.heap.size, 2, none⟩ = some (.int .i64 f.ret) := hx 2 _ rfl
  have q3 : ∀ w', Below W.heap.size W w' → w'.cell? ⟨w.heap.size, 3, none⟩ = some (.slice A2 n k2) := hx 3 _ rfl
  clear hx
  have hws : w.heap.size ≤ W.heap.size := by omega
  replace hWs := hide hWs
  have hself := Below.refl W.heap.size W
  have hF : Hid (∀ w', Below W.heap.size W w' → RFun.rep w' w'.heap.size [.string f.name, .slice A1 f.params.length k1, .int .i64 f.ret, .slice A2 n k2] f) := hide (fun w' h => RFun.later hf (hwW.trans (h.mono hws)) (hwW.trans (h.mono hws)).size)
  obtain ⟨lb, hlb⟩ : ∃ lb, Hid (lb = long7F f) := ⟨_, hide rfl⟩
  have cL : Hid (∀ w', Below W.heap.size W w' → Calls Try.prog 23 #[f.v (.slice A1 f.params.length k1) (.slice A2 n k2)] w' (RetB lb w')) := hide (fun w' h => by
    have := long07_any f (.slice A1 f.params.length k1) (.slice A2 n k2) w' w'.heap.size (Nat.le_refl _) (hF.out w' h) hsz
    rwa [← hlb.out] at this)
  have hsmall := hide hs
  replace hs := hide hs
  replace hf := hide hf
  replace hwW := hide hwW
  replace hW := hide hW
  go_enter Try.func5, Try.ntmps5
  go_upto_region 1 with (fail)
  rw [hW.out]
  go_wp2_with (fail)
  refine (lives07_any _).mono ?_
  rintro e w1 ⟨rfl, hb1⟩
  go_wp2_with (fail)
  refine (cL.out _ hb1).mono ?_
  rintro e w2 ⟨rfl, hb2⟩
  have hbel2 := hb1.trans (hb2.mono hb1.size)
  clear hb1 hb2 cL
  cases lb with
  | true =>
    go_wp2
    go_ret
    exact ⟨rfl, hwW.out.trans (hbel2.mono hws)⟩
  | false =>
    have cC := hide (rcopyfunc_any f (.slice A1 f.params.length k1) (.slice A2 n k2) w2 w2.heap.size (Nat.le_refl _) (by have := hF.out w2 hbel2; exact this) hsmall.out)
    go_wp2_with (fail)
    refine cC.out.mono ?_
    rintro e w3 ⟨c, d, rfl, hOI, hOK, hb3⟩
    obtain ⟨Am, Cm, hcm⟩ := row_form hOI.row
    subst hcm
    obtain ⟨Ad, Cd, hdm⟩ : ∃ A C, d = .slice A n C := by
      obtain ⟨xs, h1, -⟩ := hOK.more
      obtain ⟨A, C, h⟩ := row_form h1
      exact ⟨A, C, by rw [h, hn.out]⟩
    subst hdm
    have hbel3 := hbel2.trans (hb3.mono hbel2.size)
    have hs3 := hbel3.size
    have hOI' := hide hOI
    have hOK' := hide hOK
    clear hOI hOK
    go_upto_region 6 with (fail)
    obtain ⟨Y, hY, hwY, hYs, hy⟩ := boxes1 w3 #[.string f.name, .slice Am f.params.length Cm, .int .i64 f.ret, .slice Ad n Cd] 25
    have hMI := hide (hOI'.out.kept (w' := Y) fun k _ hk => hwY.block k hk)
    have hMK := hide (hOK'.out.kept (w' := Y) fun k _ hk => hwY.block k hk)
    have hwYW : Hid (Below W.heap.size W Y) := hide (hbel3.trans (hwY.mono hs3))
    have hYss : Hid (W.heap.size ≤ Y.heap.size) := hide hwYW.out.size
    have m0 : ∀ w', Below Y.heap.size Y w' → w'.cell? ⟨w3.heap.size, 0, none⟩ = some (.string f.name) := hy 0 _ rfl
    have m1 : ∀ w', Below Y.heap.size Y w' → w'.cell? ⟨w3.heap.size, 1, none⟩ = some (.slice Am f.params.length Cm) := hy 1 _ rfl
    have m2 : ∀ w', Below Y.heap.size Y w' → w'.cell? ⟨w3.heap.size, 2, none⟩ = some (.int .i64 f.ret) := hy 2 _ rfl
    have m3 : ∀ w', Below Y.heap.size Y w' → w'.cell? ⟨w3.heap.size, 3, none⟩ = some (.slice Ad n Cd) := hy 3 _ rfl
    have z0 : ∀ w', Below Y.heap.size Y w' → w'.cell? ⟨w.heap.size, 0, none⟩ = some (.string f.name) := fun w' h => q0 w' (hwYW.out.trans (h.mono hYss.out))
    have z1 : ∀ w', Below Y.heap.size Y w' → w'.cell? ⟨w.heap.size, 1, none⟩ = some (.slice A1 f.params.length k1) := fun w' h => q1 w' (hwYW.out.trans (h.mono hYss.out))
    have z2 : ∀ w', Below Y.heap.size Y w' → w'.cell? ⟨w.heap.size, 2, none⟩ = some (.int .i64 f.ret) := fun w' h => q2 w' (hwYW.out.trans (h.mono hYss.out))
    have z3 : ∀ w', Below Y.heap.size Y w' → w'.cell? ⟨w.heap.size, 3, none⟩ = some (.slice A2 n k2) := fun w' h => q3 w' (hwYW.out.trans (h.mono hYss.out))
    have hfY : Hid (∀ w', Below Y.heap.size Y w' → RFun.rep w' w'.heap.size [.string f.name, .slice A1 f.params.length k1, .int .i64 f.ret, .slice A2 n k2] f) := hide (fun w' h => hF.out w' (hwYW.out.trans (h.mono hYss.out)))
    have hmY : Hid (∀ w', Below Y.heap.size Y w' → RFun.rep w' w'.heap.size [.string f.name, .slice Am f.params.length Cm, .int .i64 f.ret, .slice Ad n Cd] f) := hide (fun w' h => by
      obtain ⟨_, _, _, _, _, hr, hnm⟩ := hf.out
      exact RFun.later (w := Y) (B := Y.heap.size) ⟨_, _, rfl, hMI.out.rep, by have := hMK.out.rep; exact this, hr, hnm⟩ h h.size)
    have cT1 : Hid (∀ w', Below Y.heap.size Y w' → Calls Try.prog 28 #[f.v (.slice Am f.params.length Cm) (.slice Ad n Cd)] w' (RTreePost sc O n w')) := hide (fun w' h => by
      have := treeR (f := f) (w := w') (B := w'.heap.size) (Nat.le_refl _) (hmY.out w' h) hsmall.out
      rwa [← hn.out, ← hO.out, ← hsc.out] at this)
    have cI1 : Hid (∀ w', Below Y.heap.size Y w' → Calls Try.prog 24 #[f.v (.slice Am f.params.length Cm) (.slice Ad n Cd)] w' (RIdomPost sc O n w')) := hide (fun w' h => by
      have := idomR (f := f) (w := w') (B := w'.heap.size) (Nat.le_refl _) (hmY.out w' h) hsmall.out
      rwa [← hn.out, ← hO.out, ← hsc.out] at this)
    have cF1 : Hid (∀ w', Below Y.heap.size Y w' → Calls Try.prog 25 #[f.v (.slice Am f.params.length Cm) (.slice Ad n Cd)] w' (FrontPost sc O n w')) := hide (fun w' h => by
      have := front_any f (.slice Am f.params.length Cm) (.slice Ad n Cd) w' w'.heap.size (Nat.le_refl _) (hmY.out w' h) hsmall.out
      rwa [← hn.out, ← hO.out, ← hsc.out] at this)
    have cT2 : Hid (∀ w', Below Y.heap.size Y w' → Calls Try.prog 29 #[f.v (.slice A1 f.params.length k1) (.slice A2 n k2)] w' (RTreePost sc O n w')) := hide (fun w' h => by
      have := rtree_any f (.slice A1 f.params.length k1) (.slice A2 n k2) w' w'.heap.size (Nat.le_refl _) (hfY.out w' h) hsmall.out
      rwa [← hn.out, ← hO.out, ← hsc.out] at this)
    have cF2 : Hid (∀ w', Below Y.heap.size Y w' → Calls Try.prog 30 #[f.v (.slice A1 f.params.length k1) (.slice A2 n k2)] w' (FrontPost sc O n w')) := hide (fun w' h => by
      have := rfront_any f (.slice A1 f.params.length k1) (.slice A2 n k2) w' w'.heap.size (Nat.le_refl _) (hfY.out w' h) hsmall.out
      rwa [← hn.out, ← hO.out, ← hsc.out] at this)
    have cI2 : Hid (∀ w', Below Y.heap.size Y w' → Calls Try.prog 32 #[f.v (.slice A1 f.params.length k1) (.slice A2 n k2)] w' (RIdomPost sc O n w')) := hide (fun w' h => by
      have := ridom_any f (.slice A1 f.params.length k1) (.slice A2 n k2) w' w'.heap.size (Nat.le_refl _) (hfY.out w' h) hsmall.out
      rwa [← hn.out, ← hO.out, ← hsc.out] at this)
    have cFu : Hid (∀ w', Below Y.heap.size Y w' → Calls Try.prog 20 #[f.v (.slice Am f.params.length Cm) (.slice Ad n Cd), f.v (.slice A1 f.params.length k1) (.slice A2 n k2)] w' (RetB true w')) := hide (fun w' h => by
      have := funcs_any f f (.slice Am f.params.length Cm) (.slice Ad n Cd) (.slice A1 f.params.length k1) (.slice A2 n k2) w' w'.heap.size (Nat.le_refl _) (hmY.out w' h) (hfY.out w' h)
      rwa [show decide (f = f) = true by simp] at this)
    obtain ⟨TL, hTL⟩ : ∃ TL, Hid (TL = treeL (idomL (fun (a b : Nat) => domB sc O a b) n) n n) := ⟨_, hide rfl⟩
    obtain ⟨FL, hFL⟩ : ∃ FL, Hid (FL = qL (frB sc O) n n) := ⟨_, hide rfl⟩
    have hTLl : Hid (TL.length = n) := hide (by rw [hTL.out, treeL_len])
    have hFLl : Hid (FL.length = n) := hide (by rw [hFL.out, qL_len])
    have hTLm : Hid (∀ l, l ∈ TL → l.length ≤ 3000000) := hide (fun l hl => by
      obtain ⟨i, hi⟩ := List.getElem?_of_mem hl
      have h1 := (List.getElem?_eq_some_iff.1 hi).1
      rw [hTLl.out] at h1
      rw [hTL.out, treeL_at _ h1] at hi
      cases hi
      have := child_len (idomL (fun (a b : Nat) => domB sc O a b) n) i n
      omega)
    have hFLm : Hid (∀ l, l ∈ FL → l.length ≤ 3000000) := hide (fun l hl => by
      obtain ⟨i, hi⟩ := List.getElem?_of_mem hl
      have h1 := (List.getElem?_eq_some_iff.1 hi).1
      rw [hFLl.out] at h1
      rw [hFL.out, qL_at h1] at hi
      cases hi
      have := qAt_len (q := frB sc O) (t := i) (b := n)
      omega)
    have hI64 : Hid (∀ x, x ∈ idomL (fun (a b : Nat) => domB sc O a b) n → I64 x) := hide (fun x hx => by
      have := idomL_bound hx
      exact i64_mk (by omega) (by omega))
    unfold RTreePost at cT1 cT2
    unfold FrontPost at cF1 cF2
    rw [← hTL.out] at cT1 cT2
    rw [← hFL.out] at cF1 cF2
    rw [hY]
    have hwYw : Hid (Below w.heap.size w Y) := hide (hwW.out.trans (hwYW.out.mono hws))
    have hwYs : Hid (w.heap.size ≤ Y.heap.size) := hide hwYw.out.size
    have hselfY := Below.refl Y.heap.size Y
    clear hY hy hwY hYs hMI hMK hOI' hOK' hbel3 hs3 hbel2 hb3 q0 q1 q2 q3 hself hF hW cC
    go_region_held3 (fun w' => Below Y.heap.size Y w') (first | (with_reducible assumption) | exact hselfY.drew)
      (first
        | (go_at_call 28; refine (cT1.out _ hk1).mono ?_; rintro e V2 ⟨gb, csb, rfl, hL, hb⟩; have hk2 : Below Y.heap.size Y V2 := hk1.trans (hb.mono hk1.size); have hB2 := hide hL; have hA2 := hide (hA1.out.below hb); have h12 := hide hb.size; clear hL hb)
        | (go_at_call 28; refine (cT1.out _ hselfY.drew).mono ?_; rintro e V1 ⟨ga, csa, rfl, hL, hb⟩; have hk1 : Below Y.heap.size Y V1 := hselfY.drew.trans (hb.mono (Nat.le_refl _)); have hA1 := hide hL; clear hL hb))
    have hboA : Hid (∀ k, BlocksOf ga csa k → Y.heap.size ≤ k ∧ k < V1.heap.size) := hide (fun k hk => blocks_of hA1.out hk)
    have h2s := hk2.size
    have hY2 := hide h2s
    have hcF1 : Hid (∀ w', Below V2.heap.size V2 w' → Below Y.heap.size Y w') := hide (fun w' h => hk2.trans (h.mono h2s))
    have hself2 := Below.refl V2.heap.size V2
    clear hA1
    have k0' : ∀ w', Below V2.heap.size V2 w' → w'.cell? ⟨w3.heap.size, 0, none⟩ = some (.string f.name) := fun w' h => m0 w' (hcF1.out w' h)
    have k1' : ∀ w', Below V2.heap.size V2 w' → w'.cell? ⟨w3.heap.size, 1, none⟩ = some (.slice Am f.params.length Cm) := fun w' h => m1 w' (hcF1.out w' h)
    have k2' : ∀ w', Below V2.heap.size V2 w' → w'.cell? ⟨w3.heap.size, 2, none⟩ = some (.int .i64 f.ret) := fun w' h => m2 w' (hcF1.out w' h)
    have k3' : ∀ w', Below V2.heap.size V2 w' → w'.cell? ⟨w3.heap.size, 3, none⟩ = some (.slice Ad n Cd) := fun w' h => m3 w' (hcF1.out w' h)
    go_upto_region 7 with (fail)
    go_region_held3 (fun w' => Below V2.heap.size V2 w') (first | (with_reducible assumption) | exact hself2.drew)
      (first
        | (go_at_call 25; refine (cF1.out _ (hcF1.out _ hk3)).mono ?_; rintro e V4 ⟨gd, csd, rfl, hL, hb⟩; have hk4 : Below V2.heap.size V2 V4 := hk3.trans (hb.mono hk3.size); have hD4 := hide hL; have hC4 := hide (hC3.out.below hb); have h34 := hide hb.size; clear hL hb)
        | (go_at_call 25; refine (cF1.out _ (hcF1.out _ hself2.drew)).mono ?_; rintro e V3 ⟨gc, csc, rfl, hL, hb⟩; have hk3 : Below V2.heap.size V2 V3 := hself2.drew.trans (hb.mono (Nat.le_refl _)); have hC3 := hide hL; clear hL hb))
    have hboC : Hid (∀ k, BlocksOf gc csc k → V2.heap.size ≤ k ∧ k < V3.heap.size) := hide (fun k hk => blocks_of hC3.out hk)
    have hA4 := hide (hA2.out.below hk4)
    have h2_4 := hide hk4
    have hk4Y := hcF1.out _ hk4
    have h4s := hk4Y.size
    have h24 := hide hk4.size
    have h23 := hide hk3.size
    have hcF4 : Hid (∀ w', Below V4.heap.size V4 w' → Below Y.heap.size Y w') := hide (fun w' h => hk4Y.trans (h.mono h4s))
    have hself4 := Below.refl V4.heap.size V4
    clear hC3 hA2 hk4 hk3 hself2 hk2 hk1 hselfY h2s hk4Y h4s cT1 cF1 hcF1
    have y0 : ∀ w', Below V4.heap.size V4 w' → w'.cell? ⟨w3.heap.size, 0, none⟩ = some (.string f.name) := fun w' h => m0 w' (hcF4.out w' h)
    have y1 : ∀ w', Below V4.heap.size V4 w' → w'.cell? ⟨w3.heap.size, 1, none⟩ = some (.slice Am f.params.length Cm) := fun w' h => m1 w' (hcF4.out w' h)
    have y2 : ∀ w', Below V4.heap.size V4 w' → w'.cell? ⟨w3.heap.size, 2, none⟩ = some (.int .i64 f.ret) := fun w' h => m2 w' (hcF4.out w' h)
    have y3 : ∀ w', Below V4.heap.size V4 w' → w'.cell? ⟨w3.heap.size, 3, none⟩ = some (.slice Ad n Cd) := fun w' h => m3 w' (hcF4.out w' h)
    have x0 : ∀ w', Below V4.heap.size V4 w' → w'.cell? ⟨w.heap.size, 0, none⟩ = some (.string f.name) := fun w' h => z0 w' (hcF4.out w' h)
    have x1 : ∀ w', Below V4.heap.size V4 w' → w'.cell? ⟨w.heap.size, 1, none⟩ = some (.slice A1 f.params.length k1) := fun w' h => z1 w' (hcF4.out w' h)
    have x2 : ∀ w', Below V4.heap.size V4 w' → w'.cell? ⟨w.heap.size, 2, none⟩ = some (.int .i64 f.ret) := fun w' h => z2 w' (hcF4.out w' h)
    have x3 : ∀ w', Below V4.heap.size V4 w' → w'.cell? ⟨w.heap.size, 3, none⟩ = some (.slice A2 n k2) := fun w' h => z3 w' (hcF4.out w' h)
    clear k0' k1' k2' k3' m0 m1 m2 m3 z0 z1 z2 z3
    go_upto_region 8 with (fail)
    go_region_held3 (fun w' => Below V4.heap.size V4 w') (first | (with_reducible assumption) | exact hself4.drew)
      (first
        | (go_at_call 30; refine (cF2.out _ (hcF4.out _ hk5)).mono ?_; rintro e V6 ⟨gf, csf, rfl, hL, hb⟩; have hk6 : Below V4.heap.size V4 V6 := hk5.trans (hb.mono hk5.size); have hF6 := hide hL; have hT6 := hide (hT5.out.below hb); have h56 := hide hb.size; clear hL hb)
        | (go_at_call 29; refine (cT2.out _ (hcF4.out _ hself4.drew)).mono ?_; rintro e V5 ⟨gt, cst, rfl, hL, hb⟩; have hk5 : Below V4.heap.size V4 V5 := hself4.drew.trans (hb.mono (Nat.le_refl _)); have hT5 := hide hL; clear hL hb))
    have hA6 := hide (hA4.out.below hk6)
    have h2_6 := hide (h2_4.out.trans (hk6.mono h2_4.out.size))
    have hC6 := hide (hC4.out.below hk6)
    have hD6 := hide (hD4.out.below hk6)
    have h45 := hide hk5.size
    have h6s := hk6.size
    have hcF6 : Hid (∀ w', Below V6.heap.size V6 w' → Below Y.heap.size Y w') := hide (fun w' h => hcF4.out _ (hk6.trans (h.mono h6s)))
    have hself6 := Below.refl V6.heap.size V6
    have cLa : Hid (∀ w', Below V6.heap.size V6 w' → Calls Try.prog 33 #[.slice (some ⟨ga, 0, none⟩) n n, .slice (some ⟨gt, 0, none⟩) n n] w' (RetB true w')) := hide (fun w' h => lists_same _ _ _ ga gt n none none TL csa cst hnle hTLl.out (hA6.out.below h) (hT6.out.below h))
    have cLc : Hid (∀ w', Below V6.heap.size V6 w' → Calls Try.prog 33 #[.slice (some ⟨gc, 0, none⟩) n n, .slice (some ⟨gf, 0, none⟩) n n] w' (RetB true w')) := hide (fun w' h => lists_same _ _ _ gc gf n none none FL csc csf hnle hFLl.out (hC6.out.below h) (hF6.out.below h))
    have n0 : ∀ w', Below V6.heap.size V6 w' → w'.cell? ⟨w3.heap.size, 0, none⟩ = some (.string f.name) := fun w' h => y0 w' (hk6.trans (h.mono h6s))
    have n1 : ∀ w', Below V6.heap.size V6 w' → w'.cell? ⟨w3.heap.size, 1, none⟩ = some (.slice Am f.params.length Cm) := fun w' h => y1 w' (hk6.trans (h.mono h6s))
    have n2 : ∀ w', Below V6.heap.size V6 w' → w'.cell? ⟨w3.heap.size, 2, none⟩ = some (.int .i64 f.ret) := fun w' h => y2 w' (hk6.trans (h.mono h6s))
    have n3 : ∀ w', Below V6.heap.size V6 w' → w'.cell? ⟨w3.heap.size, 3, none⟩ = some (.slice Ad n Cd) := fun w' h => y3 w' (hk6.trans (h.mono h6s))
    have v0 : ∀ w', Below V6.heap.size V6 w' → w'.cell? ⟨w.heap.size, 0, none⟩ = some (.string f.name) := fun w' h => x0 w' (hk6.trans (h.mono h6s))
    have v1 : ∀ w', Below V6.heap.size V6 w' → w'.cell? ⟨w.heap.size, 1, none⟩ = some (.slice A1 f.params.length k1) := fun w' h => x1 w' (hk6.trans (h.mono h6s))
    have v2 : ∀ w', Below V6.heap.size V6 w' → w'.cell? ⟨w.heap.size, 2, none⟩ = some (.int .i64 f.ret) := fun w' h => x2 w' (hk6.trans (h.mono h6s))
    have v3 : ∀ w', Below V6.heap.size V6 w' → w'.cell? ⟨w.heap.size, 3, none⟩ = some (.slice A2 n k2) := fun w' h => x3 w' (hk6.trans (h.mono h6s))
    have h46 := hide h6s
    clear hT5 hA4 h2_4 hC4 hD4 hk6 hk5 hself4 h6s hcF4 y0 y1 y2 y3 x0 x1 x2 x3 cT2 cF2
    go_upto_region 9 with (fail)
    go_region_held3 (fun w' => Below V6.heap.size V6 w') (first | (with_reducible assumption) | exact hself6.drew)
      (first
        | (go_at_call 24; refine (cI1.out _ (hcF6.out _ hself6.drew)).mono ?_; rintro e V7 ⟨g7, rfl, hL, hb⟩; have hk7 : Below V6.heap.size V6 V7 := hself6.drew.trans (hb.mono (Nat.le_refl _)); have hI7 := hide (own_n_i hL hI64.out); clear hL hb)
        | (go_at_call 32; refine (cI2.out _ (hcF6.out _ hk7)).mono ?_; rintro e V8 ⟨g8, rfl, hL, hb⟩; have hk8 : Below V6.heap.size V6 V8 := hk7.trans (hb.mono hk7.size); have hI8 := hide (own_n_i hL hI64.out); have hI78 := hide (hI7.out.below hb); clear hL hb)
        | (go_at_call 31; refine (ints_same hI78.out hI8.out).mono ?_; rintro e V9 ⟨rfl, hb⟩; have hk9 : Below V6.heap.size V6 V9 := hk8.trans (hb.mono hk8.size); clear hb)
        | (go_at_call 33; refine (cLc.out _ hk10).mono ?_; rintro e V11 ⟨rfl, hb⟩; have hk11 : Below V6.heap.size V6 V11 := hk10.trans (hb.mono hk10.size); clear hb)
        | (go_at_call 33; refine (cLa.out _ hk9).mono ?_; rintro e V10 ⟨rfl, hb⟩; have hk10 : Below V6.heap.size V6 V10 := hk9.trans (hb.mono hk9.size); clear hb)
        | (go_at_call 20; refine (cFu.out _ (hcF6.out _ hk11)).mono ?_; rintro e V12 ⟨rfl, hb⟩; have hk12 : Below V6.heap.size V6 V12 := hk11.trans (hb.mono hk11.size); clear hb))
    have hA := hA6.out.below hk12
    have h2_12 := hide (h2_6.out.trans (hk12.mono h2_6.out.size))
    have hC := hC6.out.below hk12
    have hD := hD6.out.below hk12
    have hT := hT6.out.below hk12
    have hF := hF6.out.below hk12
    have hkY := hcF6.out _ hk12
    have hsz := hk12.size
    clear hk7 hk8 hk9 hk10 hk11 hI7 hI8 hI78 hself6 n0 n1 n2 n3 v0 v1 v2 v3 hA6 h2_6 hC6 hD6 hT6 hF6 cLa cLc cI1 cI2 cFu hcF6 hk12
    have cWa := hide (wipe_any V12 _ ga n TL csa (by have := (row_lt hA.row (k := ga) rfl); omega) hnle hTLl.out hTLm.out hA)
    replace hA := hide hA
    replace hC := hide hC
    replace hD := hide hD
    replace hT := hide hT
    replace hF := hide hF
    have hYV1 : Hid (V1.heap.size ≤ V12.heap.size) := hide (by have := h12.out; have := h24.out; have := h46.out; omega)
    go_wp2_with (fail)
    refine cWa.out.mono ?_
    rintro e V13 ⟨rfl, hon⟩
    have hBon := hide hon
    have hD3 := hide (hD.out.kept (w' := V13) fun k h1 h2 => hon.block k h2 (fun hb => by have e4 : V4.drew.heap.size = V4.heap.size := rfl; have e2 : V2.drew.heap.size = V2.heap.size := rfl; have := (hboA.out k hb).2; have := h12.out; have := h23.out; omega))
    have hT3 := hide (hT.out.kept (w' := V13) fun k h1 h2 => hon.block k h2 (fun hb => by have e4 : V4.drew.heap.size = V4.heap.size := rfl; have e2 : V2.drew.heap.size = V2.heap.size := rfl; have := (hboA.out k hb).2; have := h12.out; have := h24.out; omega))
    have hF3 := hide (hF.out.kept (w' := V13) fun k h1 h2 => hon.block k h2 (fun hb => by have e4 : V4.drew.heap.size = V4.heap.size := rfl; have e2 : V2.drew.heap.size = V2.heap.size := rfl; have := (hboA.out k hb).2; have := h12.out; have := h24.out; have := h45.out; omega))
    have hC3 := hC.out.kept (w' := V13) fun k h1 h2 => hon.block k h2 (fun hb => by have e4 : V4.drew.heap.size = V4.heap.size := rfl; have e2 : V2.drew.heap.size = V2.heap.size := rfl; have := (hboA.out k hb).2; have := h12.out; omega)
    have hk13 : Below Y.heap.size Y V13 := hkY.trans (hon.to_below (fun k hk => (hboA.out k hk).1) hkY.size)
    have cWc := hide (wipe_any V13 _ gc n FL csc (by have := (row_lt hC3.row (k := gc) rfl); omega) hnle hFLl.out hFLm.out hC3)
    clear hon hkY hC3
    go_wp2_with (fail)
    refine cWc.out.mono ?_
    rintro e V14 ⟨rfl, hon⟩
    have hB4 := hide (hB2.out.kept (w' := V14) fun k h1 h2 => (hon.block k (by have := hBon.out.size; have := h24.out; have := h46.out; omega) (fun hb => by have e4 : V4.drew.heap.size = V4.heap.size := rfl; have e2 : V2.drew.heap.size = V2.heap.size := rfl; have := (hboC.out k hb).1; omega)).trans ((hBon.out.block k (by have := h24.out; have := h46.out; omega) (fun hb => by have e4 : V4.drew.heap.size = V4.heap.size := rfl; have e2 : V2.drew.heap.size = V2.heap.size := rfl; have := (hboA.out k hb).2; omega)).trans (h2_12.out.block k h2)))
    have hD4 := hide (hD3.out.kept (w' := V14) fun k h1 h2 => hon.block k h2 (fun hb => by have e4 : V4.drew.heap.size = V4.heap.size := rfl; have e2 : V2.drew.heap.size = V2.heap.size := rfl; have := (hboC.out k hb).2; omega))
    have hT4 := hide (hT3.out.kept (w' := V14) fun k h1 h2 => hon.block k h2 (fun hb => by have e4 : V4.drew.heap.size = V4.heap.size := rfl; have e2 : V2.drew.heap.size = V2.heap.size := rfl; have := (hboC.out k hb).2; have := h34.out; omega))
    have hF4 := hide (hF3.out.kept (w' := V14) fun k h1 h2 => hon.block k h2 (fun hb => by have e4 : V4.drew.heap.size = V4.heap.size := rfl; have e2 : V2.drew.heap.size = V2.heap.size := rfl; have := (hboC.out k hb).2; have := h34.out; have := h45.out; omega))
    have hk14 : Below Y.heap.size Y V14 := hk13.trans (hon.to_below (fun k hk => by have := (hboC.out k hk).1; have := hY2.out; omega) hk13.size)
    clear hon hk13
    go_wp2_with (fail)
    refine (lists_same _ _ _ gb gt n none none TL csb cst hnle hTLl.out hB4.out hT4.out).mono ?_
    rintro e V15 ⟨rfl, hb⟩
    have hD5 := hide (hD4.out.below hb)
    have hF5 := hide (hF4.out.below hb)
    have hk15 : Below Y.heap.size Y V15 := hk14.trans (hb.mono hk14.size)
    clear hb
    go_wp2_with (fail)
    refine (lists_same _ _ _ gd gf n none none FL csd csf hnle hFLl.out hD5.out hF5.out).mono ?_
    rintro e V16 ⟨rfl, hb⟩
    have hk16 : Below Y.heap.size Y V16 := hk15.trans (hb.mono hk15.size)
    clear hb
    go_wp2
    go_ret
    exact ⟨rfl, hwYw.out.trans (hk16.mono hwYs.out)⟩
end Go.Proofs.Ytkhlnopbgngjbaa
