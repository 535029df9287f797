/- LoopsPermute: it doesn't matter how blocks are numbered. -/
import Derived.Test.YtidjaohlaljmpaaLoW
import Derived.Test.YtidjaohlaljmpaaLoT
import Derived.Test.YtidjaohlaljmpaaDoL
namespace Go.Proofs.Ytidjaohlaljmpaa
open Go.RowKit
set_option linter.unusedSimpArgs false
set_option linter.unusedVariables false

/-- has the header been met among the first j? -/
def lmet (LM : List Lp) (t : Int) (j : Nat) : Bool := decide (t ∈ (LM.take j).map Lp.head)
theorem lmet_zero {LM : List Lp} {t : Int} : lmet LM t 0 = false := by simp [lmet]
theorem lmet_step {LM : List Lp} {t : Int} {j : Nat} {y : Lp} (hy : LM[j]? = some y) : lmet LM t (j + 1) = (lmet LM t j || decide (y.head = t)) := by
  unfold lmet
  rw [List.take_add_one, hy, Bool.eq_iff_iff]
  simp only [Option.toList_some, List.map_append, List.map_cons, List.map_nil, decide_eq_true_eq, List.mem_append, List.mem_singleton, Bool.or_eq_true]
  exact ⟨fun h => h.imp id Eq.symm, fun h => h.imp id Eq.symm⟩
set_option maxRecDepth 100000 in
set_option maxHeartbeats 12800000 in
theorem law_loops_permute (f : Fun) (a b : Int) (c1 c2 : Value) (w : World) (hf : RFun.rep w w.heap.size [.string f.name, c1, .int .i64 f.ret, c2] f) (hs : Small f) (hsz : funSz f ≤ 2000000) :
    Calls Try.prog 5 #[f.v c1 c2, .int .i64 a, .int .i64 b] w (LawPost w) := by
  obtain ⟨hp, hb⟩ := fun_open (RFun.later hf (Below.refl _ _) (Nat.le_refl _))
  obtain ⟨A1, k1, h1, -, -⟩ := Rp.slice1_open hp
  obtain ⟨A2, k2, h2, hm2, -⟩ := Rp.slice1_open hb
  cases h1; cases h2
  clear hp hb
  obtain ⟨n, hn⟩ : ∃ n, Hid (n = f.blocks.length) := ⟨_, hide rfl⟩
  have hnle : n ≤ 2000000 := by rw [hn.out]; exact hs.blocks
  obtain ⟨O, hO⟩ : ∃ O, Hid (O = orderF f.blocks) := ⟨_, hide rfl⟩
  obtain ⟨sc, hsc⟩ : ∃ sc, Hid (sc = succsF f.blocks) := ⟨_, hide rfl⟩
  obtain ⟨R, hR⟩ : ∃ R, Hid (R = reachF f.blocks) := ⟨_, hide rfl⟩
  obtain ⟨P, hP⟩ : ∃ P, Hid (P = predsL sc n) := ⟨_, hide rfl⟩
  have hPl : P.length = n := by rw [hP.out, predsL_len]
  have hRl : R.length = n := by rw [hR.out, hn.out, reach_len]
  have hsok : Hid (∀ b, SuccOk n (sc b)) := hide (fun b => by rw [hsc.out, hn.out]; exact succsF_ok _ _)
  have hok : Hid (OrderOk n sc O) := hide (by rw [hO.out, hn.out, hsc.out]; exact order_ok _)
  have hol : O.length ≤ n := by rw [hO.out, hn.out]; exact order_len _
  have hRat : Hid (∀ k : Nat, k < n → R[k]? = some (decide ((k : Int) ∈ O))) := hide (fun k hk => by rw [hR.out, hO.out]; exact reach_at _ _ (by rw [← hn.out]; exact hk))
  rw [← hn.out]
  rw [← hn.out] at hf hm2
  obtain ⟨W, hW, hwW, hWs, hx⟩ := boxes1 w #[.string f.name, .slice A1 f.params.length k1, .int .i64 f.ret, .slice A2 n k2] 25
  have q0 : ∀ w', Below W.heap.size W w' → w'.cell? ⟨w.heap.size, 0, none⟩ = some (.string f.name) := hx 0 _ rfl
  have q1 : ∀ w', Below W.heap.size W w' → w'.cell? ⟨w.heap.size, 1, none⟩ = some (.slice A1 f.params.length k1) := hx 1 _ rfl
  have q2 : ∀ w', Below W.heap.size W w' → w'.cell? ⟨w.heap.size, 2, none⟩ = some (.int .i64 f.ret) := hx 2 _ rfl
  have q3 : ∀ w', Below W.heap.size W w' → w'.cell? ⟨w.heap.size, 3, none⟩ = some (.slice A2 n k2) := hx 3 _ rfl
  clear hx
  have hws : w.heap.size ≤ W.heap.size := by omega
  replace hWs := hide hWs
  have hself := Below.refl W.heap.size W
  have hF : Hid (∀ w', Below W.heap.size W w' → RFun.rep w' w'.heap.size [.string f.name, .slice A1 f.params.length k1, .int .i64 f.ret, .slice A2 n k2] f) := hide (fun w' h => RFun.later hf (hwW.trans (h.mono hws)) (hwW.trans (h.mono hws)).size)
  obtain ⟨lb, hlb⟩ : ∃ lb, Hid (lb = long7F f) := ⟨_, hide rfl⟩
  have cL : Hid (∀ w', Below W.heap.size W w' → Calls Try.prog 12 #[f.v (.slice A1 f.params.length k1) (.slice A2 n k2)] w' (RetB lb w')) := hide (fun w' h => by
    have := long13_any f (.slice A1 f.params.length k1) (.slice A2 n k2) w' w'.heap.size (Nat.le_refl _) (hF.out w' h) hsz
    rwa [← hlb.out] at this)
  have cF : Hid (∀ w', Below W.heap.size W w' → Calls Try.prog 14 #[f.v (.slice A1 f.params.length k1) (.slice A2 n k2)] w' (LoopPost (loopsS sc O P n) w')) := hide (fun w' h => by
    have := lfind_any f (.slice A1 f.params.length k1) (.slice A2 n k2) w' w'.heap.size (Nat.le_refl _) (hF.out w' h) hs
    rwa [← hn.out, ← hO.out, ← hsc.out, ← hP.out] at this)
  replace hs := hide hs
  replace hf := hide hf
  replace hwW := hide hwW
  replace hW := hide hW
  go_enter Try.func5, Try.ntmps5
  go_upto_region 1 with (fail)
  rw [hW.out]
  go_wp2_with (fail)
  refine (lives13_any _).mono ?_
  rintro e w1 ⟨rfl, hb1⟩
  go_wp2_with (fail)
  refine (cL.out _ hb1).mono ?_
  rintro e w2 ⟨rfl, hb2⟩
  have hbel2 := hb1.trans (hb2.mono hb1.size)
  clear hb1 hb2 cL
  cases lb with
  | true =>
    go_wp2
    go_ret
    exact ⟨rfl, hwW.out.trans (hbel2.mono hws)⟩
  | false =>
    by_cases hn3 : n < 3
    · have hn3i : (n : Int) < 3 := by omega
      go_wp2
      go_ret
      exact ⟨rfl, hwW.out.trans (hbel2.mono hws)⟩
    · have hn3i : ¬ (n : Int) < 3 := by omega
      go_upto_region 6 with (fail)
      go_quiet (fail)
      have hbel3 : Below W.heap.size W (w2.drewN nq) := below_drewN hbel2 _
      obtain ⟨w3, hw3⟩ : ∃ w3, w3 = w2.drewN nq := ⟨_, rfl⟩
      rw [← hw3] at hbel3 ⊢
      clear hw3 hbel2
      obtain ⟨A, hAn, hAe⟩ := pick_mv a (n := n) (by omega) hnle
      obtain ⟨B, hBn, hBe⟩ := pick_mv b (n := n) (by omega) hnle
      rw [hAe.out, hBe.out]
      clear hAe hBe
      have hAB1 : Hid (0 < A ∧ A < f.blocks.length) := hide (by rw [← hn.out]; exact hAn.out)
      have hAB2 : Hid (0 < B ∧ B < f.blocks.length) := hide (by rw [← hn.out]; exact hBn.out)
      have hsm2 := hide (small_swap hs.out hAB1.out.2 hAB2.out.2)
      have cW : Hid (∀ w', Below W.heap.size W w' → Calls Try.prog 21 #[f.v (.slice A1 f.params.length k1) (.slice A2 n k2), .int .i64 A, .int .i64 B] w' (SwapPost A B f w')) := hide (fun w' h => swapped_any f A B (.slice A1 f.params.length k1) (.slice A2 n k2) w' w'.heap.size (Nat.le_refl _) (hF.out w' h) hs.out hAB1.out.2 hAB2.out.2)
      obtain ⟨sc2, hsc2⟩ : ∃ sc2, Hid (sc2 = succsF (swapS A B f.blocks)) := ⟨_, hide rfl⟩
      have hmv2 : Hid (∀ x, sc2 (mv A B x) = (sc x).map (mv A B)) := hide (fun x => by rw [hsc2.out, hsc.out]; exact succsF_mv hAB1.out.2 hAB2.out.2 x)
      obtain ⟨LL, hLL⟩ : ∃ LL, Hid (LL = loopsS sc O P n) := ⟨_, hide rfl⟩
      obtain ⟨LM, hLM⟩ : ∃ LM, Hid (LM = loopsS sc2 (O.map (mv A B)) (predsL sc2 n) n) := ⟨_, hide rfl⟩
      have hlen : Hid (LM.length = LL.length) := hide (by rw [hLM.out, hLL.out, hP.out]; exact loops_len_mv hAn.out hBn.out hmv2.out)
      have hof : Hid (∀ x y, x ∈ LL → y ∈ LM → y.head = mv A B x.head → LpMv A B x y) := hide (fun x y hx hy he => by
        rw [hLL.out, hP.out] at hx
        rw [hLM.out] at hy
        exact lp_mv_of hAn.out hBn.out hmv2.out hx hy he)
      have hexi : Hid (∀ x, x ∈ LL → ∃ y, y ∈ LM ∧ y.head = mv A B x.head) := hide (fun x hx => by
        rw [hLL.out, hP.out] at hx
        rw [hLM.out]
        exact lp_mv_ex hAn.out hBn.out hmv2.out hx)
      have hsz1 : Hid (∀ y, y ∈ LM → y.blocks.length ≤ 4000000 ∧ y.exits.length ≤ 4000000) := hide (fun y hy => by
        rw [hLM.out] at hy
        unfold loopsS at hy
        obtain ⟨h, -, rfl⟩ := List.mem_map.1 hy
        have e1 : (lp1 sc2 (O.map (mv A B)) (predsL sc2 n) n h).blocks.length ≤ n := lpL_len
        have e2 : (lp1 sc2 (O.map (mv A B)) (predsL sc2 n) n h).exits.length ≤ n := exL_len
        omega)
      have hsz0 : Hid (∀ y, y ∈ LL → y.blocks.length ≤ n ∧ y.exits.length ≤ n) := hide (fun y hy => by
        rw [hLL.out] at hy
        unfold loopsS at hy
        obtain ⟨h, -, rfl⟩ := List.mem_map.1 hy
        exact ⟨lpL_len, exL_len⟩)
      obtain ⟨NL, hNL⟩ : ∃ NL, Hid (LL.length = NL) := ⟨_, hide rfl⟩
      have hNM : Hid (LM.length = NL) := hide (by rw [hlen.out, hNL.out])
      have hNLn : NL ≤ n := by rw [← hNL.out, hLL.out]; exact loopsS_len
      rw [← hLL.out] at cF
      have cF2 : Hid (∀ (Ag Dg : Option Addr) (Cg Eg : Nat) w', RFun.rep w' w'.heap.size [.string f.name, .slice Ag f.params.length Cg, .int .i64 f.ret, .slice Dg n Eg] (setBlocks f (swapS A B f.blocks)) → Calls Try.prog 14 #[f.v (.slice Ag f.params.length Cg) (.slice Dg n Eg)] w' (LoopPost LM w')) := hide (fun Ag Dg Cg Eg w' h => by
        have := lfind_any (setBlocks f (swapS A B f.blocks)) (.slice Ag f.params.length Cg) (.slice Dg n Eg) w' w'.heap.size (Nat.le_refl _) h hsm2.out
        rwa [show (setBlocks f (swapS A B f.blocks)).blocks = swapS A B f.blocks from rfl, swap_len, order_mv hAB1.out hAB2.out, ← hO.out, ← hsc2.out, ← hn.out, ← hLM.out] at this)
      have hs3 := hbel3.size
      go_upto_region 7 with (fail)
      go_region_held3 (fun w' => Below W.heap.size W w') (first | (with_reducible assumption) | exact hbel3.drew)
        (first
          | (go_at_call 14; refine (cF2.out _ _ _ _ _ hgr5.out).mono ?_; rintro e X ⟨vm, esM, rfl, hM, hb6⟩; have hk6 : Below W.heap.size W X := hk5.trans (hb6.mono hk5.size); have hA6 := hide (hA5.out.below hb6); have hM6 := hide hM; clear hM hb6)
          | (go_at_call 21; refine (cW.out _ hk4).mono ?_; rintro e w5 ⟨Ag, Cg, Dg, Eg, rfl, hgr, hb5⟩; rw [← hn.out] at hgr ⊢; have hk5 : Below W.heap.size W w5 := hk4.trans (hb5.mono hk4.size); have hA5 := hide (hA4.out.below hb5); have hgr5 := hide hgr; clear hgr hb5)
          | (go_at_call 14; refine (cF.out _ (hbel3.drew)).mono ?_; rintro e w4 ⟨va, esA, rfl, hA, hb4⟩; have hk4 : Below W.heap.size W w4 := (hbel3.drew).trans (hb4.mono hs3); have hA4 := hide hA; clear hA hb4))
      obtain ⟨Aa, Ca, rfl⟩ := row_form hA6.out.row
      obtain ⟨Am, Cm, rfl⟩ := row_form hM6.out.row
      have hA := hA6.out
      have hM := hM6.out
      rw [hNL.out] at hA ⊢
      rw [hNM.out] at hM ⊢
      replace hA := hide hA
      replace hM := hide hM
      have hkX := hk6.size
      have hwX : Hid (Below w.heap.size w X) := hide (hwW.out.trans (hk6.mono hws))
      have hwXs : Hid (w.heap.size ≤ X.heap.size) := hide hwX.out.size
      have hselfX := Below.refl X.heap.size X
      have hnn : ((NL : Int) != (NL : Int)) = false := by simp
      clear q0 q1 q2 q3 hself hbel3 hs3 hk4 hk5 hk6 hkX hA4 hA5 hA6 hM6 hgr5 cF cF2 cW hF hW
      go_wp2
      go_loopw [60] (fun s wr => ∃ i : Nat, s = .int .i64 i ∧ i ≤ NL ∧ Below X.heap.size X wr) (fun s _ => NL - (intOf s).toNat)
      case atStart => exact ⟨0, rfl, Nat.zero_le _, hselfX⟩
      case round =>
        clear hselfX
        rename World => V
        obtain ⟨i, rfl, hi, hbel⟩ := hrel
        have hVs := hbel.size
        by_cases hlti : i < NL
        · have hii : (i : Int) < (NL : Int) := by omega
          obtain ⟨x, hx⟩ := get_ex (l := LL) (k := i) (by rw [hNL.out]; exact hlti)
          have hxm := List.mem_of_getElem? hx.out
          obtain ⟨hzx1, hzx2⟩ := hsz0.out x hxm
          obtain ⟨⟨vb, vl, ve⟩, he1⟩ := hA.out.at_ hx.out
          have hinn := (hA.out.below hbel).inn i x _ hx.out he1
          obtain ⟨Ab, Cb, hvb, rb⟩ := int_reads hinn.1
          obtain ⟨Al, Cl, hvl⟩ := row_form hinn.2.1.row
          obtain ⟨Ae, Ce, hve, re⟩ := int_reads hinn.2.2
          simp only at hvb hvl hve
          subst hvb hvl hve
          obtain ⟨ga, hga⟩ : ∃ ga, Aa = some ⟨ga, 0, none⟩ := by
            obtain ⟨g, cap, hv, -, -⟩ := hA.out.row.form (by rw [hNL.out]; omega)
            cases hv
            exact ⟨g, rfl⟩
          subst hga
          obtain ⟨nb, hnb⟩ : ∃ nb, Hid (x.blocks.length = nb) := ⟨_, hide rfl⟩
          obtain ⟨nl, hnl⟩ : ∃ nl, Hid (x.latch.length = nl) := ⟨_, hide rfl⟩
          obtain ⟨nx, hnx⟩ : ∃ nx, Hid (x.exits.length = nx) := ⟨_, hide rfl⟩
          rw [hnb.out, hnl.out, hnx.out] at he1
          rw [hnb.out] at rb hzx1
          rw [hnx.out] at re hzx2
          obtain ⟨a0, a1, a2, a3, a4⟩ := (hA.out.below hbel).cells hx.out he1
          have a1' : V.cell? ⟨ga, i * 5 + 1, none⟩ = some (.slice Ab nb Cb) := a1
          have a2' : V.cell? ⟨ga, i * 5 + 2, none⟩ = some (.slice Al nl Cl) := a2
          have a3' : V.cell? ⟨ga, i * 5 + 3, none⟩ = some (.slice Ae nx Ce) := a3
          replace rb := hide rb
          replace re := hide re
          replace he1 := hide he1
          clear hinn a1 a2 a3
          obtain ⟨V1, hV1, hwV1, hV1s, hxx⟩ := boxes1 V #[.int .i64 x.head, .slice Ab nb Cb, .slice Al nl Cl, .slice Ae nx Ce, .int .i64 (x.depth : Int)] 34
          have x0 : ∀ w', Below V1.heap.size V1 w' → w'.cell? ⟨V.heap.size, 0, none⟩ = some (.int .i64 x.head) := hxx 0 _ rfl
          have x1 : ∀ w', Below V1.heap.size V1 w' → w'.cell? ⟨V.heap.size, 1, none⟩ = some (.slice Ab nb Cb) := hxx 1 _ rfl
          have x2 : ∀ w', Below V1.heap.size V1 w' → w'.cell? ⟨V.heap.size, 2, none⟩ = some (.slice Al nl Cl) := hxx 2 _ rfl
          have x3 : ∀ w', Below V1.heap.size V1 w' → w'.cell? ⟨V.heap.size, 3, none⟩ = some (.slice Ae nx Ce) := hxx 3 _ rfl
          have x4 : ∀ w', Below V1.heap.size V1 w' → w'.cell? ⟨V.heap.size, 4, none⟩ = some (.int .i64 (x.depth : Int)) := hxx 4 _ rfl
          have hb1 := hbel.trans (hwV1.mono hVs)
          have hb1s := hb1.size
          have hXV1 : Hid (∀ w', Below V1.heap.size V1 w' → Below X.heap.size X w') := hide (fun w' h => hb1.trans (h.mono hb1s))
          have hVV1 : Hid (∀ w', Below V1.heap.size V1 w' → Below V.heap.size V w') := hide (fun w' h => hwV1.trans (h.mono hwV1.size))
          have hself1 := Below.refl V1.heap.size V1
          replace hV1s := hide hV1s
          replace hwV1 := hide hwV1
          have hm0 : Hid (lmet LM (mv A B x.head) 0 = false) := hide lmet_zero
          have hxm9 := hide hxm
          clear hxx hbel hxm
          go_upto_region 13 with (fail)
          replace hV1 := hide hV1
          clear a0 a1' a2' a3' a4
          go_wp2
          go_loopw [12, 66] (fun s12 s wr => ∃ j : Nat, s = .int .i64 j ∧ j ≤ NL ∧ s12 = .bool (lmet LM (mv A B x.head) j) ∧ Below V1.heap.size V1 wr) (fun _ s _ => NL - (intOf s).toNat)
          case atStart => exact ⟨0, rfl, Nat.zero_le _, by rw [hm0.out], hself1⟩
          case round =>
            clear hself1
            rename World => U
            obtain ⟨j, rfl, hj, rfl, hon⟩ := hrel
            have hUs := hon.size
            obtain ⟨mt, hmt⟩ : ∃ mt, Hid (lmet LM (mv A B x.head) j = mt) := ⟨_, hide rfl⟩
            rw [hmt.out]
            by_cases hltj : j < NL
            · have hji : (j : Int) < (NL : Int) := by omega
              obtain ⟨y, hy⟩ := get_ex (l := LM) (k := j) (by rw [hNM.out]; exact hltj)
              have hym := List.mem_of_getElem? hy.out
              obtain ⟨hyz1, hyz2⟩ := hsz1.out y hym
              have hst := lmet_step (t := mv A B x.head) hy.out
              rw [hmt.out] at hst
              obtain ⟨⟨yb, yl, ye⟩, he2⟩ := hM.out.at_ hy.out
              have hinn := (hM.out.below (hXV1.out U hon)).inn j y _ hy.out he2
              obtain ⟨Bb, Db, Bl, Dl, Be, De, heq⟩ := lp_lits hinn
              cases heq
              obtain ⟨gm, hgm⟩ : ∃ gm, Am = some ⟨gm, 0, none⟩ := by
                obtain ⟨g, cap, hv, -, -⟩ := hM.out.row.form (by rw [hNM.out]; omega)
                cases hv
                exact ⟨g, rfl⟩
              subst hgm
              obtain ⟨c0, c1, c2, c3, c4⟩ := (hM.out.below (hXV1.out U hon)).cells hy.out he2
              have c1' : U.cell? ⟨gm, j * 5 + 1, none⟩ = some (.slice Bb y.blocks.length Db) := c1
              have c2' : U.cell? ⟨gm, j * 5 + 2, none⟩ = some (.slice Bl y.latch.length Dl) := c2
              have c3' : U.cell? ⟨gm, j * 5 + 3, none⟩ = some (.slice Be y.exits.length De) := c3
              obtain ⟨U1, hU1, hwU1, hU1s, hyy⟩ := boxes1 U #[.int .i64 y.head, .slice Bb y.blocks.length Db, .slice Bl y.latch.length Dl, .slice Be y.exits.length De, .int .i64 (y.depth : Int)] 34
              have y0 : ∀ w', Below U1.heap.size U1 w' → w'.cell? ⟨U.heap.size, 0, none⟩ = some (.int .i64 y.head) := hyy 0 _ rfl
              have y1 : ∀ w', Below U1.heap.size U1 w' → w'.cell? ⟨U.heap.size, 1, none⟩ = some (.slice Bb y.blocks.length Db) := hyy 1 _ rfl
              have y2 : ∀ w', Below U1.heap.size U1 w' → w'.cell? ⟨U.heap.size, 2, none⟩ = some (.slice Bl y.latch.length Dl) := hyy 2 _ rfl
              have y3 : ∀ w', Below U1.heap.size U1 w' → w'.cell? ⟨U.heap.size, 3, none⟩ = some (.slice Be y.exits.length De) := hyy 3 _ rfl
              have y4 : ∀ w', Below U1.heap.size U1 w' → w'.cell? ⟨U.heap.size, 4, none⟩ = some (.int .i64 (y.depth : Int)) := hyy 4 _ rfl
              have hon1 := hon.trans (hwU1.mono hUs)
              have h1s := hon1.size
              have hVU1 : Hid (∀ w', Below U1.heap.size U1 w' → Below V1.heap.size V1 w') := hide (fun w' h => hon1.trans (h.mono h1s))
              have z0 : ∀ w', Below U1.heap.size U1 w' → w'.cell? ⟨V.heap.size, 0, none⟩ = some (.int .i64 x.head) := fun w' h => x0 w' (hVU1.out w' h)
              have z1 : ∀ w', Below U1.heap.size U1 w' → w'.cell? ⟨V.heap.size, 1, none⟩ = some (.slice Ab nb Cb) := fun w' h => x1 w' (hVU1.out w' h)
              have z2 : ∀ w', Below U1.heap.size U1 w' → w'.cell? ⟨V.heap.size, 2, none⟩ = some (.slice Al nl Cl) := fun w' h => x2 w' (hVU1.out w' h)
              have z3 : ∀ w', Below U1.heap.size U1 w' → w'.cell? ⟨V.heap.size, 3, none⟩ = some (.slice Ae nx Ce) := fun w' h => x3 w' (hVU1.out w' h)
              have z4 : ∀ w', Below U1.heap.size U1 w' → w'.cell? ⟨V.heap.size, 4, none⟩ = some (.int .i64 (x.depth : Int)) := fun w' h => x4 w' (hVU1.out w' h)
              have hselfU := Below.refl U1.heap.size U1
              have cHb : Hid (∀ (t : Int) w', Below U1.heap.size U1 w' → Calls Try.prog 23 #[.slice Bb y.blocks.length Db, .int .i64 t] w' fun e w'' => e = .returned (.bool (decide (t ∈ y.blocks))) ∧ w'' = w') := hide (fun t w' h => has13_any Bb Db y.blocks t w' _ hyz1 (hinn.1.below (hwU1.trans (h.mono hwU1.size))))
              have cHe : Hid (∀ (t : Int) w', Below U1.heap.size U1 w' → Calls Try.prog 23 #[.slice Be y.exits.length De, .int .i64 t] w' fun e w'' => e = .returned (.bool (decide (t ∈ y.exits))) ∧ w'' = w') := hide (fun t w' h => has13_any Be De y.exits t w' _ hyz2 (hinn.2.2.below (hwU1.trans (h.mono hwU1.size))))
              replace hwU1 := hide hwU1
              replace hU1s := hide hU1s
              replace he2 := hide he2
              clear hyy hinn c1 c2 c3
              go_upto_region 17 with (fail)
              replace hU1 := hide hU1
              clear c0 c1' c2' c3' c4
              go_region_held3 (fun w' => Below U1.heap.size U1 w') (first | (with_reducible assumption) | exact hselfU.drew)
                (first
                  | (go_at_call 22; refine (moved_any _ A B _).mono ?_; rintro e Z ⟨rfl, hZ⟩; have hkZ : Below U1.heap.size U1 Z := hZ ▸ hselfU.drew; clear hZ))
              by_cases heq : y.head = mv A B x.head
              · have hne : (y.head != mv A B x.head) = false := by rw [heq]; simp
                have hlm := hof.out x y hxm9.out hym heq
                obtain ⟨hd1, hd2, hd3, hd4, hd5, hd6⟩ := hlm
                rw [hd2, hnb.out] at cHb y1
                rw [hd4, hnx.out] at cHe y3
                rw [hd3, hnl.out] at y2
                rw [hd1] at y4
                have hst2 : Hid (lmet LM (mv A B x.head) (j + 1) = true) := hide (by rw [hst, decide_eq_true heq, Bool.or_true])
                have e1 : ((x.depth : Int) == (x.depth : Int)) = true := by simp
                have e2 : ((nb : Int) == (nb : Int)) = true := by simp
                have e3 : ((nl : Int) == (nl : Int)) = true := by simp
                have e4 : ((nx : Int) == (nx : Int)) = true := by simp
                replace hd1 := hide hd1
                replace hd2 := hide hd2
                replace hd3 := hide hd3
                replace hd4 := hide hd4
                replace hd5 := hide hd5
                replace hd6 := hide hd6
                replace heq := hide heq
                replace hst := hide hst
                clear hselfU
                go_wp2
                clear hne e1 e2 e3 e4
                rename (y.head != mv A B x.head) = false => h9
                clear h9
                go_loopw [12, 113] (fun s12 s wr => ∃ c : Nat, s = .int .i64 c ∧ c ≤ nb ∧ s12 = .bool true ∧ Below U1.heap.size U1 wr) (fun _ s _ => nb - (intOf s).toNat)
                case atStart => exact ⟨0, rfl, Nat.zero_le _, rfl, hkZ⟩
                case round =>
                  clear hkZ
                  rename World => Q
                  obtain ⟨c, rfl, hc, rfl, hkQ⟩ := hrel
                  have hQs := hkQ.size
                  by_cases hltc : c < nb
                  · have hci : (c : Int) < (nb : Int) := by omega
                    obtain ⟨t, ht9⟩ := get_ex (l := x.blocks) (k := c) (by rw [hnb.out]; exact hltc)
                    obtain ⟨g5, hg5, rx⟩ := rb.out (by omega)
                    subst hg5
                    have rx0 := rx c _ ht9.out Q (hVV1.out Q (hVU1.out Q hkQ))
                    clear rx
                    have htm := hd5.out t (List.mem_of_getElem? ht9.out)
                    have cH0 := cHb.out (mv A B t) Q.drew (hkQ.drew)
                    rw [decide_eq_true htm] at cH0
                    replace cH0 := hide cH0
                    replace htm := hide htm
                    have hkQd := hkQ.drew
                    go_upto_region 22 with (fail)
                    refine wp_region_held_drew (S := fun w' => Below U1.heap.size U1 w') (by kernel_rfl) (hkQd) (fun hHeld => ?_)
                    refine wpAnyH_take (i := 0) (v := ?_) (by simp only [List.getElem?_toArray, List.getElem?_cons_succ, List.getElem?_cons_zero]; rfl) (by kernel_rfl) (by kernel_rfl) (by kernel_rfl) (by exact fun _ _ _ h => h) (Or.inl ⟨by rfl, ?_⟩) (by assumption) ?_
                    rotate_left
                    · intro w9 hSw
                      go_simp
                      all_goals with_reducible rfl
                    try simp only [Act.put, List.setIfInBounds_toArray, List.set_cons_zero, List.set_cons_succ]
                    refine wpAnyH_take (i := 1) (v := ?_) (by simp only [List.getElem?_toArray, List.getElem?_cons_succ, List.getElem?_cons_zero]; rfl) (by kernel_rfl) (by kernel_rfl) (by kernel_rfl) (by exact fun _ _ _ h => h) (Or.inl ⟨by rfl, ?_⟩) (by assumption) ?_
                    rotate_left
                    · intro w9 hSw
                      go_simp
                      all_goals with_reducible rfl
                    try simp only [Act.put, List.setIfInBounds_toArray, List.set_cons_zero, List.set_cons_succ]
                    refine wpAnyH_take (i := 2) (v := ?_) (by simp only [List.getElem?_toArray, List.getElem?_cons_succ, List.getElem?_cons_zero]; rfl) (by kernel_rfl) (by kernel_rfl) (by kernel_rfl) (by exact fun _ _ _ h => h) (Or.inl ⟨by rfl, ?_⟩) (by assumption) ?_
                    rotate_left
                    · intro w9 hSw
                      go_simp
                      all_goals with_reducible rfl
                    try simp only [Act.put, List.setIfInBounds_toArray, List.set_cons_zero, List.set_cons_succ]
                    refine wpAnyH_take (i := 3) (v := ?_) (by simp only [List.getElem?_toArray, List.getElem?_cons_succ, List.getElem?_cons_zero]; rfl) (by kernel_rfl) (by kernel_rfl) (by kernel_rfl) (by exact fun _ _ _ h => h) (Or.inl ⟨by rfl, ?_⟩) (by assumption) ?_
                    rotate_left
                    · intro w9 hSw
                      go_simp
                      all_goals with_reducible rfl
                    try simp only [Act.put, List.setIfInBounds_toArray, List.set_cons_zero, List.set_cons_succ]
                    refine wpAnyH_take (i := 4) (v := ?_) (by simp only [List.getElem?_toArray, List.getElem?_cons_succ, List.getElem?_cons_zero]; rfl) (by kernel_rfl) (by kernel_rfl) (by kernel_rfl) (by exact fun _ _ _ h => h) (Or.inl ⟨by rfl, ?_⟩) (by assumption) ?_
                    rotate_left
                    · intro w9 hSw
                      go_simp
                      all_goals with_reducible rfl
                    try simp only [Act.put, List.setIfInBounds_toArray, List.set_cons_zero, List.set_cons_succ]
                    refine wpAnyH_take (i := 5) (v := ?_) (by simp only [List.getElem?_toArray, List.getElem?_cons_succ, List.getElem?_cons_zero]; rfl) (by kernel_rfl) (by kernel_rfl) (by kernel_rfl) (by exact fun _ _ _ h => h) (Or.inl ⟨by rfl, ?_⟩) (by assumption) ?_
                    rotate_left
                    · intro w9 hSw
                      go_simp
                      all_goals with_reducible rfl
                    try simp only [Act.put, List.setIfInBounds_toArray, List.set_cons_zero, List.set_cons_succ]
                    refine wpAnyH_take (i := 6) (v := ?_) (by simp only [List.getElem?_toArray, List.getElem?_cons_succ, List.getElem?_cons_zero]; rfl) (by kernel_rfl) (by kernel_rfl) (by kernel_rfl) (by exact fun _ _ _ h => h) (Or.inl ⟨by rfl, ?_⟩) (by assumption) ?_
                    rotate_left
                    · intro w9 hSw
                      go_simp
                      all_goals with_reducible rfl
                    try simp only [Act.put, List.setIfInBounds_toArray, List.set_cons_zero, List.set_cons_succ]
                    refine wpAnyH_ready (rs := [7]) (by kernel_rfl) (by simp) ?_
                    refine AllReadyH.cons (by simp only [List.getElem?_toArray, List.getElem?_cons_succ, List.getElem?_cons_zero]; rfl) (fun K hK => ?_) AllReadyH.nil
                    go_simp
                    go_at_call 22
                    refine (moved_any _ A B _).mono ?_
                    rintro e Z9 ⟨rfl, hZ9⟩
                    replace hZ9 := hZ9.symm
                    subst hZ9
                    refine hK.out _ _ (hkQd) (fun hHeld => ?_)
                    clear hK K
                    try simp only [Act.put, List.setIfInBounds_toArray, List.set_cons_zero, List.set_cons_succ]
                    refine wpAnyH_ready (rs := [8]) (by kernel_rfl) (by simp) ?_
                    refine AllReadyH.cons (by simp only [List.getElem?_toArray, List.getElem?_cons_succ, List.getElem?_cons_zero]; rfl) (fun K hK => ?_) AllReadyH.nil
                    go_simp
                    go_at_call 23
                    refine cH0.out.mono ?_
                    rintro e Z9 ⟨rfl, hZ9⟩
                    replace hZ9 := hZ9.symm
                    subst hZ9
                    refine hK.out _ _ (hkQd) (fun hHeld => ?_)
                    clear hK K
                    try simp only [Act.put, List.setIfInBounds_toArray, List.set_cons_zero, List.set_cons_succ]
                    refine wpAnyH_take (i := 9) (v := ?_) (by simp only [List.getElem?_toArray, List.getElem?_cons_succ, List.getElem?_cons_zero]; rfl) (by kernel_rfl) (by kernel_rfl) (by kernel_rfl) (by exact fun _ _ _ h => h) (Or.inl ⟨by rfl, ?_⟩) (by assumption) ?_
                    rotate_left
                    · intro w9 hSw
                      go_simp
                      all_goals with_reducible rfl
                    try simp only [Act.put, List.setIfInBounds_toArray, List.set_cons_zero, List.set_cons_succ]
                    refine wpAnyH_take (i := 10) (v := ?_) (by simp only [List.getElem?_toArray, List.getElem?_cons_succ, List.getElem?_cons_zero]; rfl) (by kernel_rfl) (by kernel_rfl) (by kernel_rfl) (by exact fun _ _ _ h => h) (Or.inl ⟨by rfl, ?_⟩) (by assumption) ?_
                    rotate_left
                    · intro w9 hSw
                      go_simp
                      all_goals with_reducible rfl
                    try simp only [Act.put, List.setIfInBounds_toArray, List.set_cons_zero, List.set_cons_succ]
                    refine wpAnyH_done (by kernel_rfl) ?_ _
                    go_wp2
                    go_roundw
                    case rel => exact ⟨c + 1, by go_num, hltc, rfl, hkQd⟩
                    case measure => simp [intOf]; omega
                  · obtain rfl : c = nb := by omega
                    go_wp2
                    go_loopw [12, 131] (fun s12 s wr => ∃ d : Nat, s = .int .i64 d ∧ d ≤ nx ∧ s12 = .bool true ∧ Below U1.heap.size U1 wr) (fun _ s _ => nx - (intOf s).toNat)
                    case atStart => exact ⟨0, rfl, Nat.zero_le _, rfl, hkQ⟩
                    case round =>
                      clear hkQ hQs Q
                      rename World => Q
                      obtain ⟨d, rfl, hd, rfl, hkQ⟩ := hrel
                      by_cases hltd : d < nx
                      · have hdi : (d : Int) < (nx : Int) := by omega
                        obtain ⟨t, ht9⟩ := get_ex (l := x.exits) (k := d) (by rw [hnx.out]; exact hltd)
                        obtain ⟨g5, hg5, rx⟩ := re.out (by omega)
                        subst hg5
                        have rx0 := rx d _ ht9.out Q (hVV1.out Q (hVU1.out Q hkQ))
                        clear rx
                        have htm := hd6.out t (List.mem_of_getElem? ht9.out)
                        have cH0 := cHe.out (mv A B t) Q.drew (hkQ.drew)
                        rw [decide_eq_true htm] at cH0
                        replace cH0 := hide cH0
                        replace htm := hide htm
                        have hkQd := hkQ.drew
                        go_upto_region 27 with (fail)
                        refine wp_region_held_drew (S := fun w' => Below U1.heap.size U1 w') (by kernel_rfl) (hkQd) (fun hHeld => ?_)
                        refine wpAnyH_take (i := 0) (v := ?_) (by simp only [List.getElem?_toArray, List.getElem?_cons_succ, List.getElem?_cons_zero]; rfl) (by kernel_rfl) (by kernel_rfl) (by kernel_rfl) (by exact fun _ _ _ h => h) (Or.inl ⟨by rfl, ?_⟩) (by assumption) ?_
                        rotate_left
                        · intro w9 hSw
                          go_simp
                          all_goals with_reducible rfl
                        try simp only [Act.put, List.setIfInBounds_toArray, List.set_cons_zero, List.set_cons_succ]
                        refine wpAnyH_take (i := 1) (v := ?_) (by simp only [List.getElem?_toArray, List.getElem?_cons_succ, List.getElem?_cons_zero]; rfl) (by kernel_rfl) (by kernel_rfl) (by kernel_rfl) (by exact fun _ _ _ h => h) (Or.inl ⟨by rfl, ?_⟩) (by assumption) ?_
                        rotate_left
                        · intro w9 hSw
                          go_simp
                          all_goals with_reducible rfl
                        try simp only [Act.put, List.setIfInBounds_toArray, List.set_cons_zero, List.set_cons_succ]
                        refine wpAnyH_take (i := 2) (v := ?_) (by simp only [List.getElem?_toArray, List.getElem?_cons_succ, List.getElem?_cons_zero]; rfl) (by kernel_rfl) (by kernel_rfl) (by kernel_rfl) (by exact fun _ _ _ h => h) (Or.inl ⟨by rfl, ?_⟩) (by assumption) ?_
                        rotate_left
                        · intro w9 hSw
                          go_simp
                          all_goals with_reducible rfl
                        try simp only [Act.put, List.setIfInBounds_toArray, List.set_cons_zero, List.set_cons_succ]
                        refine wpAnyH_take (i := 3) (v := ?_) (by simp only [List.getElem?_toArray, List.getElem?_cons_succ, List.getElem?_cons_zero]; rfl) (by kernel_rfl) (by kernel_rfl) (by kernel_rfl) (by exact fun _ _ _ h => h) (Or.inl ⟨by rfl, ?_⟩) (by assumption) ?_
                        rotate_left
                        · intro w9 hSw
                          go_simp
                          all_goals with_reducible rfl
                        try simp only [Act.put, List.setIfInBounds_toArray, List.set_cons_zero, List.set_cons_succ]
                        refine wpAnyH_take (i := 4) (v := ?_) (by simp only [List.getElem?_toArray, List.getElem?_cons_succ, List.getElem?_cons_zero]; rfl) (by kernel_rfl) (by kernel_rfl) (by kernel_rfl) (by exact fun _ _ _ h => h) (Or.inl ⟨by rfl, ?_⟩) (by assumption) ?_
                        rotate_left
                        · intro w9 hSw
                          go_simp
                          all_goals with_reducible rfl
                        try simp only [Act.put, List.setIfInBounds_toArray, List.set_cons_zero, List.set_cons_succ]
                        refine wpAnyH_take (i := 5) (v := ?_) (by simp only [List.getElem?_toArray, List.getElem?_cons_succ, List.getElem?_cons_zero]; rfl) (by kernel_rfl) (by kernel_rfl) (by kernel_rfl) (by exact fun _ _ _ h => h) (Or.inl ⟨by rfl, ?_⟩) (by assumption) ?_
                        rotate_left
                        · intro w9 hSw
                          go_simp
                          all_goals with_reducible rfl
                        try simp only [Act.put, List.setIfInBounds_toArray, List.set_cons_zero, List.set_cons_succ]
                        refine wpAnyH_take (i := 6) (v := ?_) (by simp only [List.getElem?_toArray, List.getElem?_cons_succ, List.getElem?_cons_zero]; rfl) (by kernel_rfl) (by kernel_rfl) (by kernel_rfl) (by exact fun _ _ _ h => h) (Or.inl ⟨by rfl, ?_⟩) (by assumption) ?_
                        rotate_left
                        · intro w9 hSw
                          go_simp
                          all_goals with_reducible rfl
                        try simp only [Act.put, List.setIfInBounds_toArray, List.set_cons_zero, List.set_cons_succ]
                        refine wpAnyH_ready (rs := [7]) (by kernel_rfl) (by simp) ?_
                        refine AllReadyH.cons (by simp only [List.getElem?_toArray, List.getElem?_cons_succ, List.getElem?_cons_zero]; rfl) (fun K hK => ?_) AllReadyH.nil
                        go_simp
                        go_at_call 22
                        refine (moved_any _ A B _).mono ?_
                        rintro e Z9 ⟨rfl, hZ9⟩
                        replace hZ9 := hZ9.symm
                        subst hZ9
                        refine hK.out _ _ (hkQd) (fun hHeld => ?_)
                        clear hK K
                        try simp only [Act.put, List.setIfInBounds_toArray, List.set_cons_zero, List.set_cons_succ]
                        refine wpAnyH_ready (rs := [8]) (by kernel_rfl) (by simp) ?_
                        refine AllReadyH.cons (by simp only [List.getElem?_toArray, List.getElem?_cons_succ, List.getElem?_cons_zero]; rfl) (fun K hK => ?_) AllReadyH.nil
                        go_simp
                        go_at_call 23
                        refine cH0.out.mono ?_
                        rintro e Z9 ⟨rfl, hZ9⟩
                        replace hZ9 := hZ9.symm
                        subst hZ9
                        refine hK.out _ _ (hkQd) (fun hHeld => ?_)
                        clear hK K
                        try simp only [Act.put, List.setIfInBounds_toArray, List.set_cons_zero, List.set_cons_succ]
                        refine wpAnyH_take (i := 9) (v := ?_) (by simp only [List.getElem?_toArray, List.getElem?_cons_succ, List.getElem?_cons_zero]; rfl) (by kernel_rfl) (by kernel_rfl) (by kernel_rfl) (by exact fun _ _ _ h => h) (Or.inl ⟨by rfl, ?_⟩) (by assumption) ?_
                        rotate_left
                        · intro w9 hSw
                          go_simp
                          all_goals with_reducible rfl
                        try simp only [Act.put, List.setIfInBounds_toArray, List.set_cons_zero, List.set_cons_succ]
                        refine wpAnyH_take (i := 10) (v := ?_) (by simp only [List.getElem?_toArray, List.getElem?_cons_succ, List.getElem?_cons_zero]; rfl) (by kernel_rfl) (by kernel_rfl) (by kernel_rfl) (by exact fun _ _ _ h => h) (Or.inl ⟨by rfl, ?_⟩) (by assumption) ?_
                        rotate_left
                        · intro w9 hSw
                          go_simp
                          all_goals with_reducible rfl
                        try simp only [Act.put, List.setIfInBounds_toArray, List.set_cons_zero, List.set_cons_succ]
                        refine wpAnyH_done (by kernel_rfl) ?_ _
                        go_wp2
                        go_roundw
                        case rel => exact ⟨d + 1, by go_num, hltd, rfl, hkQd⟩
                        case measure => simp [intOf]; omega
                      · obtain rfl : d = nx := by omega
                        have hbQ := hVU1.out Q hkQ
                        go_wp2
                        go_roundw
                        case rel => exact ⟨j + 1, by go_num, hltj, by rw [hst2.out], hbQ⟩
                        case measure => simp [intOf]; omega
              · have hne : (y.head != mv A B x.head) = true := by rw [bne_iff_ne]; exact heq
                have hst2 : Hid (lmet LM (mv A B x.head) (j + 1) = mt) := hide (by rw [hst, decide_eq_false heq, Bool.or_false])
                have hbQ := hVU1.out Z hkZ
                replace hst := hide hst
                replace heq := hide heq
                go_wp2
                go_roundw
                case rel => exact ⟨j + 1, by go_num, hltj, by rw [hst2.out], hbQ⟩
                case measure => simp [intOf]; omega
            · obtain rfl : j = NL := by omega
              have hmtt : mt = true := by
                rw [← hmt.out]
                unfold lmet
                rw [decide_eq_true_iff, List.take_of_length_le (by rw [hNM.out]; exact Nat.le_refl _)]
                obtain ⟨y, hy, he⟩ := hexi.out x hxm9.out
                exact List.mem_map.2 ⟨y, hy, he⟩
              subst hmtt
              have hbX := hXV1.out U hon
              go_wp2
              go_roundw
              case rel => exact ⟨i + 1, by go_num, hlti, hbX⟩
              case measure => simp [intOf]; omega
        · obtain rfl : i = NL := by omega
          have hw := hide (hwX.out.trans (hbel.mono hwXs.out))
          go_wp2
          go_ret
          exact ⟨rfl, hw.out⟩
end Go.Proofs.Ytidjaohlaljmpaa
