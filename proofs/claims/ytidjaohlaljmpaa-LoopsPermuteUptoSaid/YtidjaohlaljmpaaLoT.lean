/- LoopsFind: all loops of any function, and the block ahead of any, are as the document says, in new memory. -/
import Derived.Test.YtidjaohlaljmpaaLoS
import Derived.Test.YtidjaohlaljmpaaGrY
import Derived.Test.YtidjaohlaljmpaaDoG
namespace Go.Proofs.Ytidjaohlaljmpaa
open Go.RowKit
set_option linter.unusedSimpArgs false
set_option linter.unusedVariables false

/-- the blocks of all rows of these loops -/
def LpBl (es : List LpV) (k : Nat) : Prop := ∃ (j : Nat) (e : LpV), es[j]? = some e ∧ e.has k
/-- the loops from number i on are as they were -/
def LpFrom (w : World) (B : Nat) (ls : List Lp) (es : List LpV) (i : Nat) : Prop := ∀ (j : Nat) x e, i ≤ j → ls[j]? = some x → es[j]? = some e → OwnI w B e.b x.blocks ∧ OwnI w B e.l x.latch ∧ OwnI w B e.e x.exits
theorem OwnLp.row_not {w : World} {B g n C : Nat} {ls : List Lp} {es : List LpV} (h : OwnLp w B (.slice (some ⟨g, 0, none⟩) n C) ls es) : ¬ LpBl es g := by
  rintro ⟨j, e, he, hg⟩
  obtain ⟨-, -, c, hc⟩ := h.in_lt he hg
  obtain ⟨-, -, c', hc'⟩ := row_lt h.row (k := g) rfl
  rw [hc] at hc'
  injection hc' with hc'
  injection hc' with _ h2
  exact absurd h2 (by decide)
theorem OwnLp.reads {w : World} {B g n C : Nat} {S : Nat → Prop} {ls : List Lp} {es : List LpV} (h : OwnLp w B (.slice (some ⟨g, 0, none⟩) n C) ls es) (hS : ¬ S g) {i : Nat} {x : Lp} {e : LpV} (hx : ls[i]? = some x) (he : es[i]? = some e) (w' : World) (ho : Only S w.heap.size w w') :
    w'.cell? ⟨g, i * 5, none⟩ = some (.int .i64 x.head) ∧ w'.cell? ⟨g, i * 5 + 1, none⟩ = some e.b ∧ w'.cell? ⟨g, i * 5 + 2, none⟩ = some e.l ∧ w'.cell? ⟨g, i * 5 + 3, none⟩ = some e.e ∧ w'.cell? ⟨g, i * 5 + 4, none⟩ = some (.int .i64 (x.depth : Int)) := by
  have hg := (row_lt h.row (k := g) rfl).2.1
  have key : ∀ (j : Nat), w'.cell? ⟨g, j, none⟩ = w.cell? ⟨g, j, none⟩ := fun j => ho.cell (p := ⟨g, j, none⟩) hg hS
  rw [key, key, key, key, key]
  exact h.cells hx he
theorem lp_lits {w : World} {B : Nat} {x : Lp} {e : LpV} (h : OwnI w B e.b x.blocks ∧ OwnI w B e.l x.latch ∧ OwnI w B e.e x.exits) : ∃ Ab Cb Al Cl Ae Ce, e = ⟨.slice Ab x.blocks.length Cb, .slice Al x.latch.length Cl, .slice Ae x.exits.length Ce⟩ := by
  obtain ⟨vb, vl, ve⟩ := e
  obtain ⟨h1, h2, h3⟩ := h
  obtain ⟨Ab, Cb, e1⟩ := row_form h1.row
  obtain ⟨Al, Cl, e2⟩ := row_form h2.row
  obtain ⟨Ae, Ce, e3⟩ := row_form h3.row
  simp only at e1 e2 e3
  subst e1 e2 e3
  exact ⟨Ab, Cb, Al, Cl, Ae, Ce, rfl⟩
theorem own_three {w : World} {B : Nat} {b l e : Value} {lb ll le : List Int} (hB : B ≤ w.heap.size) (h1 : OwnI w B b lb) (h2 : OwnI w B l ll) (h3 : OwnI w B e le) (hs : (⟨b, l, e⟩ : LpV).Sep) :
    OwnL (w.alloc (.cells #[b, l, e] 22)) B none (.slice (some ⟨w.heap.size, 0, none⟩) 3 3) [lb, ll, le] [b, l, e] := by
  have hk : ∀ {v : Value} {q : List Int}, OwnI w B v q → OwnI (w.alloc (.cells #[b, l, e] 22)) B v q := fun hv => hv.kept fun k _ hk => Below.heap_alloc w _ k hk
  refine ⟨⟨rfl, .inr ⟨w.heap.size, 3, _, rfl, hB, box_top _ _, Nat.le_refl _, by simp [maxLen], rfl, rfl⟩⟩, fun i c q hc hq => ?_, fun i j ci cj k hi hj hij hk' => ?_, fun i c k _ hk => by cases hk⟩
  · match i, hc, hq with
    | 0, hc, hq => cases hc; cases hq; exact hk h1
    | 1, hc, hq => cases hc; cases hq; exact hk h2
    | 2, hc, hq => cases hc; cases hq; exact hk h3
    | i + 3, hc, _ => simp at hc
  · match i, j, hi, hj with
    | 0, 0, _, _ => exact absurd rfl hij
    | 0, 1, hi, hj => cases hi; cases hj; exact ((hs k).1 hk').1
    | 0, 2, hi, hj => cases hi; cases hj; exact ((hs k).1 hk').2
    | 1, 0, hi, hj => cases hi; cases hj; exact fun e => ((hs k).1 e).1 hk'
    | 1, 1, _, _ => exact absurd rfl hij
    | 1, 2, hi, hj => cases hi; cases hj; exact (hs k).2 hk'
    | 2, 0, hi, hj => cases hi; cases hj; exact fun e => ((hs k).1 e).2 hk'
    | 2, 1, hi, hj => cases hi; cases hj; exact fun e => (hs k).2 e hk'
    | 2, 2, _, _ => exact absurd rfl hij
    | i + 3, _, hi, _ => simp at hi
    | 0, j + 3, _, hj => simp at hj
    | 1, j + 3, _, hj => simp at hj
    | 2, j + 3, _, hj => simp at hj
theorem loop_sizes {sc : Int → List Int} {o : List Int} {P : List (List Int)} {n : Nat} (hl : ∀ a, a < n → (latF sc o P a).length ≤ n) : ∀ x, x ∈ loopsS sc o P n → x.blocks.length ≤ n ∧ x.latch.length ≤ n ∧ x.exits.length ≤ n := fun x hx => by
  unfold loopsS at hx
  obtain ⟨h, hh, rfl⟩ := List.mem_map.1 hx
  exact ⟨lpL_len, hl h (headsS_mem.1 hh).1, exL_len⟩
set_option maxRecDepth 100000 in
set_option maxHeartbeats 12800000 in
theorem law_loops_find (f : Fun) (h : Int) (c1 c2 : Value) (w : World) (hf : RFun.rep w w.heap.size [.string f.name, c1, .int .i64 f.ret, c2] f) (hs : Small f) (hsz : funSz f ≤ 2000000) :
    Calls Try.prog 3 #[f.v c1 c2, .int .i64 h] w (LawPost w) := by
  obtain ⟨hp, hb⟩ := fun_open (RFun.later hf (Below.refl _ _) (Nat.le_refl _))
  obtain ⟨A1, k1, h1, -, -⟩ := Rp.slice1_open hp
  obtain ⟨A2, k2, h2, hm2, -⟩ := Rp.slice1_open hb
  cases h1; cases h2
  clear hp hb
  obtain ⟨n, hn⟩ : ∃ n, Hid (n = f.blocks.length) := ⟨_, hide rfl⟩
  have hnle : n ≤ 2000000 := by rw [hn.out]; exact hs.blocks
  obtain ⟨O, hO⟩ : ∃ O, Hid (O = orderF f.blocks) := ⟨_, hide rfl⟩
  obtain ⟨sc, hsc⟩ : ∃ sc, Hid (sc = succsF f.blocks) := ⟨_, hide rfl⟩
  obtain ⟨R, hR⟩ : ∃ R, Hid (R = reachF f.blocks) := ⟨_, hide rfl⟩
  obtain ⟨P, hP⟩ : ∃ P, Hid (P = predsL sc n) := ⟨_, hide rfl⟩
  have hPl : P.length = n := by rw [hP.out, predsL_len]
  have hRl : R.length = n := by rw [hR.out, hn.out, reach_len]
  have hsok : Hid (∀ b, SuccOk n (sc b)) := hide (fun b => by rw [hsc.out, hn.out]; exact succsF_ok _ _)
  have hok : Hid (OrderOk n sc O) := hide (by rw [hO.out, hn.out, hsc.out]; exact order_ok _)
  have hol : O.length ≤ n := by rw [hO.out, hn.out]; exact order_len _
  have hRat : Hid (∀ k : Nat, k < n → R[k]? = some (decide ((k : Int) ∈ O))) := hide (fun k hk => by rw [hR.out, hO.out]; exact reach_at _ _ (by rw [← hn.out]; exact hk))
  rw [← hn.out]
  rw [← hn.out] at hf hm2
  obtain ⟨W, hW, hwW, hWs, hx⟩ := boxes1 w #[.string f.name, .slice A1 f.params.length k1, .int .i64 f.ret, .slice A2 n k2] 25
  have q0 : ∀ w', Below W.heap.size W w' → w'.cell? ⟨w.heap.size, 0, none⟩ = some (.string f.name) := hx 0 _ rfl
  have q1 : ∀ w', Below W.heap.size W w' → w'.cell? ⟨w.heap.size, 1, none⟩ = some (.slice A1 f.params.length k1) := hx 1 _ rfl
  have q2 : ∀ w', Below W.heap.size W w' → w'.cell? ⟨w.heap.size, 2, none⟩ = some (.int .i64 f.ret) := hx 2 _ rfl
  have q3 : ∀ w', Below W.heap.size W w' → w'.cell? ⟨w.heap.size, 3, none⟩ = some (.slice A2 n k2) := hx 3 _ rfl
  clear hx
  have hws : w.heap.size ≤ W.heap.size := by omega
  replace hWs := hide hWs
  have hself := Below.refl W.heap.size W
  have hF : Hid (∀ w', Below W.heap.size W w' → RFun.rep w' w'.heap.size [.string f.name, .slice A1 f.params.length k1, .int .i64 f.ret, .slice A2 n k2] f) := hide (fun w' h => RFun.later hf (hwW.trans (h.mono hws)) (hwW.trans (h.mono hws)).size)
  obtain ⟨lb, hlb⟩ : ∃ lb, Hid (lb = long7F f) := ⟨_, hide rfl⟩
  have cL : Hid (∀ w', Below W.heap.size W w' → Calls Try.prog 12 #[f.v (.slice A1 f.params.length k1) (.slice A2 n k2)] w' (RetB lb w')) := hide (fun w' h => by
    have := long13_any f (.slice A1 f.params.length k1) (.slice A2 n k2) w' w'.heap.size (Nat.le_refl _) (hF.out w' h) hsz
    rwa [← hlb.out] at this)
  have hsmall := hide hs
  replace hs := hide hs
  replace hf := hide hf
  replace hwW := hide hwW
  replace hW := hide hW
  go_enter Try.func3, Try.ntmps3
  go_upto_region 1 with (fail)
  rw [hW.out]
  go_wp2_with (fail)
  refine (lives13_any _).mono ?_
  rintro e w1 ⟨rfl, hb1⟩
  go_wp2_with (fail)
  refine (cL.out _ hb1).mono ?_
  rintro e w2 ⟨rfl, hb2⟩
  have hbel2 := hb1.trans (hb2.mono hb1.size)
  clear hb1 hb2 cL
  cases lb with
  | true =>
    go_wp2
    go_ret
    exact ⟨rfl, hwW.out.trans (hbel2.mono hws)⟩
  | false =>
    have cC := hide (rcopyfunc_any f (.slice A1 f.params.length k1) (.slice A2 n k2) w2 w2.heap.size (Nat.le_refl _) (by have := hF.out w2 hbel2; exact this) hsmall.out)
    go_wp2_with (fail)
    refine cC.out.mono ?_
    rintro e w3 ⟨c, d, rfl, hOI, hOK, hb3⟩
    obtain ⟨Am, Cm, hcm⟩ := row_form hOI.row
    subst hcm
    obtain ⟨Ad, Cd, hdm⟩ : ∃ A C, d = .slice A n C := by
      obtain ⟨xs, h1, -⟩ := hOK.more
      obtain ⟨A, C, h⟩ := row_form h1
      exact ⟨A, C, by rw [h, hn.out]⟩
    subst hdm
    have hbel3 := hbel2.trans (hb3.mono hbel2.size)
    have hs3 := hbel3.size
    have hOI' := hide hOI
    have hOK' := hide hOK
    clear hOI hOK
    go_upto_region 6 with (fail)
    obtain ⟨Y, hY, hwY, hYs, hy⟩ := boxes1 w3 #[.string f.name, .slice Am f.params.length Cm, .int .i64 f.ret, .slice Ad n Cd] 25
    have hMI := hide (hOI'.out.kept (w' := Y) fun k _ hk => hwY.block k hk)
    have hMK := hide (hOK'.out.kept (w' := Y) fun k _ hk => hwY.block k hk)
    have hwYW : Hid (Below W.heap.size W Y) := hide (hbel3.trans (hwY.mono hs3))
    have hYss : Hid (W.heap.size ≤ Y.heap.size) := hide hwYW.out.size
    have m0 : ∀ w', Below Y.heap.size Y w' → w'.cell? ⟨w3.heap.size, 0, none⟩ = some (.string f.name) := hy 0 _ rfl
    have m1 : ∀ w', Below Y.heap.size Y w' → w'.cell? ⟨w3.heap.size, 1, none⟩ = some (.slice Am f.params.length Cm) := hy 1 _ rfl
    have m2 : ∀ w', Below Y.heap.size Y w' → w'.cell? ⟨w3.heap.size, 2, none⟩ = some (.int .i64 f.ret) := hy 2 _ rfl
    have m3 : ∀ w', Below Y.heap.size Y w' → w'.cell? ⟨w3.heap.size, 3, none⟩ = some (.slice Ad n Cd) := hy 3 _ rfl
    have z0 : ∀ w', Below Y.heap.size Y w' → w'.cell? ⟨w.heap.size, 0, none⟩ = some (.string f.name) := fun w' h => q0 w' (hwYW.out.trans (h.mono hYss.out))
    have z1 : ∀ w', Below Y.heap.size Y w' → w'.cell? ⟨w.heap.size, 1, none⟩ = some (.slice A1 f.params.length k1) := fun w' h => q1 w' (hwYW.out.trans (h.mono hYss.out))
    have z2 : ∀ w', Below Y.heap.size Y w' → w'.cell? ⟨w.heap.size, 2, none⟩ = some (.int .i64 f.ret) := fun w' h => q2 w' (hwYW.out.trans (h.mono hYss.out))
    have z3 : ∀ w', Below Y.heap.size Y w' → w'.cell? ⟨w.heap.size, 3, none⟩ = some (.slice A2 n k2) := fun w' h => q3 w' (hwYW.out.trans (h.mono hYss.out))
    have hfY : Hid (∀ w', Below Y.heap.size Y w' → RFun.rep w' w'.heap.size [.string f.name, .slice A1 f.params.length k1, .int .i64 f.ret, .slice A2 n k2] f) := hide (fun w' h => hF.out w' (hwYW.out.trans (h.mono hYss.out)))
    have hmY : Hid (∀ w', Below Y.heap.size Y w' → RFun.rep w' w'.heap.size [.string f.name, .slice Am f.params.length Cm, .int .i64 f.ret, .slice Ad n Cd] f) := hide (fun w' h => by
      obtain ⟨_, _, _, _, _, hr, hnm⟩ := hf.out
      exact RFun.later (w := Y) (B := Y.heap.size) ⟨_, _, rfl, hMI.out.rep, by have := hMK.out.rep; exact this, hr, hnm⟩ h h.size)
    have cF1 : Hid (∀ w', Below Y.heap.size Y w' → Calls Try.prog 14 #[f.v (.slice Am f.params.length Cm) (.slice Ad n Cd)] w' (LoopPost (loopsS sc O P n) w')) := hide (fun w' h9 => by
      have := lfind_any f (.slice Am f.params.length Cm) (.slice Ad n Cd) w' w'.heap.size (Nat.le_refl _) (hmY.out w' h9) hsmall.out
      rwa [← hn.out, ← hO.out, ← hsc.out, ← hP.out] at this)
    have cF2 : Hid (∀ w', Below Y.heap.size Y w' → Calls Try.prog 15 #[f.v (.slice A1 f.params.length k1) (.slice A2 n k2)] w' (LoopPost (loopsS sc O P n) w')) := hide (fun w' h9 => by
      have := rfind_any f (.slice A1 f.params.length k1) (.slice A2 n k2) w' w'.heap.size (Nat.le_refl _) (hfY.out w' h9) hsmall.out
      rwa [← hn.out, ← hO.out, ← hsc.out, ← hP.out] at this)
    have cA1 : Hid (∀ w', Below Y.heap.size Y w' → Calls Try.prog 19 #[f.v (.slice Am f.params.length Cm) (.slice Ad n Cd), .int .i64 h] w' (AhPost (aheadR sc O P n h) w')) := hide (fun w' h9 => by
      have := lahead_any f h (.slice Am f.params.length Cm) (.slice Ad n Cd) w' w'.heap.size (Nat.le_refl _) (hmY.out w' h9) hsmall.out
      rwa [← hn.out, ← hO.out, ← hsc.out, ← hP.out] at this)
    have cA2 : Hid (∀ w', Below Y.heap.size Y w' → Calls Try.prog 20 #[f.v (.slice A1 f.params.length k1) (.slice A2 n k2), .int .i64 h] w' (RetI (aheadR sc O P n h) w')) := hide (fun w' h9 => by
      have := rahead_any f h (.slice A1 f.params.length k1) (.slice A2 n k2) w' w'.heap.size (Nat.le_refl _) (hfY.out w' h9) hsmall.out
      rwa [← hn.out, ← hO.out, ← hsc.out, ← hP.out] at this)
    have cFu : Hid (∀ w', Below Y.heap.size Y w' → Calls Try.prog 16 #[f.v (.slice Am f.params.length Cm) (.slice Ad n Cd), f.v (.slice A1 f.params.length k1) (.slice A2 n k2)] w' (RetB true w')) := hide (fun w' h => by
      have := funcs_any f f (.slice Am f.params.length Cm) (.slice Ad n Cd) (.slice A1 f.params.length k1) (.slice A2 n k2) w' w'.heap.size (Nat.le_refl _) (hmY.out w' h) (hfY.out w' h)
      rwa [show decide (f = f) = true by simp] at this)
    obtain ⟨LL, hLL⟩ : ∃ LL, Hid (LL = loopsS sc O P n) := ⟨_, hide rfl⟩
    have hLs : Hid (∀ x, x ∈ LL → x.blocks.length ≤ n ∧ x.latch.length ≤ n ∧ x.exits.length ≤ n) := hide (by
      rw [hLL.out]
      refine loop_sizes fun a ha => ?_
      obtain ⟨p, hp⟩ := get_ex (l := P) (k := a) (by omega)
      rw [← latP_end hp.out]
      refine Nat.le_trans latP_len ?_
      have hp2 := hp.out
      rw [hP.out] at hp2
      exact range_len n p ((predsL_sorted hp2).imp fun h => by omega) (fun x hx => ⟨((predsL_mem hp2 x).1 hx).1, ((predsL_mem hp2 x).1 hx).2.1⟩))
    have hLLl : LL.length ≤ n := by rw [hLL.out]; exact loopsS_len
    obtain ⟨ans, hans⟩ : ∃ ans, Hid (ans = aheadR sc O P n h) := ⟨_, hide rfl⟩
    rw [← hans.out] at cA1 cA2
    rw [← hLL.out] at cF1 cF2
    obtain ⟨NL, hNL⟩ : ∃ NL, Hid (LL.length = NL) := ⟨_, hide rfl⟩
    rw [hNL.out] at hLLl
    rw [hY]
    have hwYw : Hid (Below w.heap.size w Y) := hide (hwW.out.trans (hwYW.out.mono hws))
    have hwYs : Hid (w.heap.size ≤ Y.heap.size) := hide hwYw.out.size
    have hselfY := Below.refl Y.heap.size Y
    clear hY hy hwY hYs hMI hMK hOI' hOK' hbel3 hs3 hbel2 hb3 q0 q1 q2 q3 hself hF hW cC
    go_region_held3 (fun w' => Below Y.heap.size Y w') (first | (with_reducible assumption) | exact hselfY.drew)
      (first
        | (go_at_call 14; refine (cF1.out _ hk1).mono ?_; rintro e V2 ⟨vb, esB, rfl, hL, hb⟩; have hk2 : Below Y.heap.size Y V2 := hk1.trans (hb.mono hk1.size); have hB2 := hide hL; have hA2 := hide (hA1.out.below hb); have h12 := hide hb.size; have hAlt : Hid (∀ k, LpBl esA k → Y.heap.size ≤ k ∧ k < V1.heap.size) := hide (fun k hk => by obtain ⟨j, e, he, hg⟩ := hk; exact ⟨(hA1.out.in_lt he hg).1, (hA1.out.in_lt he hg).2.1⟩); clear hL hb)
        | (go_at_call 14; refine (cF1.out _ hselfY.drew).mono ?_; rintro e V1 ⟨va, esA, rfl, hL, hb⟩; have hk1 : Below Y.heap.size Y V1 := hselfY.drew.trans (hb.mono (Nat.le_refl _)); have hA1 := hide hL; clear hL hb))
    obtain ⟨Aa, Ca, rfl⟩ := row_form hA2.out.row
    obtain ⟨Ab9, Cb9, rfl⟩ := row_form hB2.out.row
    clear hA1 hk1
    go_wp2_with (fail)
    refine (cF2.out _ hk2).mono ?_
    rintro e V3 ⟨vc, esC, rfl, hC3, hb3'⟩
    obtain ⟨Ac, Cc, rfl⟩ := row_form hC3.row
    have hk3 := hk2.trans (hb3'.mono hk2.size)
    have hA3 := hide (hA2.out.below hb3')
    have hB3 := hide (hB2.out.below hb3')
    have hV2s := hb3'.size
    clear hA2 hB2 hb3' hk2
    rw [hNL.out] at hA3 hB3 hC3 ⊢
    replace hC3 := hide hC3
    have hnn : ((NL : Int) != (NL : Int)) = false := by simp
    go_wp2_with (fail)
    refine (cFu.out _ hk3).mono ?_
    rintro e V4 ⟨rfl, hb4⟩
    have hk4 := hk3.trans (hb4.mono hk3.size)
    have hA4 := hide (hA3.out.below hb4)
    have hB4 := hide (hB3.out.below hb4)
    have hC4 := hide (hC3.out.below hb4)
    have hV3s := hb4.size
    have h1s := h12.out
    have hself4 := Only.refl (LpBl esA) V4.heap.size V4
    have hfr0 : Hid (LpFrom V4 Y.heap.size LL esA 0) := hide (fun j x e _ hx he => hA4.out.inn j x e hx he)
    have hYo : Hid (∀ w', Only (LpBl esA) V4.heap.size V4 w' → Below Y.heap.size Y w') := hide (fun w' ho => hk4.trans (ho.to_below (fun k hk => (hAlt.out k hk).1) hk4.size))
    have hYs4 := hk4.size
    clear hA3 hB3 hC3 hb4 hk3 hk4 cF1 cF2 cFu hselfY
    go_wp2
    go_loopw [46] (fun s wr => ∃ i : Nat, s = .int .i64 i ∧ i ≤ NL ∧ Hid (LpFrom wr Y.heap.size LL esA i) ∧ Only (LpBl esA) V4.heap.size V4 wr) (fun s _ => NL - (intOf s).toNat)
    case atStart => exact ⟨0, rfl, Nat.zero_le _, hfr0, hself4⟩
    case round =>
      clear hfr0 hself4
      rename World => V
      obtain ⟨i, rfl, hi, hfr, hon⟩ := hrel
      have hVs := hon.size
      by_cases hlti : i < NL
      · have hii : (i : Int) < (NL : Int) := by omega
        obtain ⟨x, hx⟩ := get_ex (l := LL) (k := i) (by rw [hNL.out]; exact hlti)
        obtain ⟨hz1, hz2, hz3⟩ := hLs.out x (List.mem_of_getElem? hx.out)
        obtain ⟨eA, heA⟩ := hA4.out.at_ hx.out
        obtain ⟨eC, heC⟩ := hC4.out.at_ hx.out
        have hinA := hfr.out i x eA (Nat.le_refl _) hx.out heA
        have hinC4 := hC4.out.inn i x eC hx.out heC
        have hinC : OwnI V V2.heap.size eC.b x.blocks ∧ OwnI V V2.heap.size eC.l x.latch ∧ OwnI V V2.heap.size eC.e x.exits := by
          have hk : ∀ {v : Value} {l : List Int}, OwnI V4 V2.heap.size v l → OwnI V V2.heap.size v l := fun hv => hv.kept fun k h1 h2 => hon.block k h2 (fun hb => by have := (hAlt.out k hb).2; omega)
          exact ⟨hk hinC4.1, hk hinC4.2.1, hk hinC4.2.2⟩
        have hsep := hA4.out.self i eA heA
        obtain ⟨Ab, Cb, Al, Cl, Ae, Ce, heA9⟩ := lp_lits hinA
        obtain ⟨Ab2, Cb2, Al2, Cl2, Ae2, Ce2, heC9⟩ := lp_lits hinC
        subst heA9 heC9
        obtain ⟨ga, hga⟩ : ∃ ga, Aa = some ⟨ga, 0, none⟩ := by
          have hr := hA4.out.row
          rw [hNL.out] at hr
          obtain ⟨g, cap, hv, -, -⟩ := hr.form (by omega)
          cases hv
          exact ⟨g, rfl⟩
        obtain ⟨gc, hgc⟩ : ∃ gc, Ac = some ⟨gc, 0, none⟩ := by
          have hr := hC4.out.row
          rw [hNL.out] at hr
          obtain ⟨g, cap, hv, -, -⟩ := hr.form (by omega)
          cases hv
          exact ⟨g, rfl⟩
        subst hga hgc
        have hgaN : ¬ LpBl esA ga := hA4.out.row_not
        have hgcN : ¬ LpBl esA gc := fun hb => by have := (hAlt.out gc hb).2; have := (row_lt hC4.out.row (k := gc) rfl).1; omega
        obtain ⟨nb, hnb⟩ : ∃ nb, Hid (x.blocks.length = nb) := ⟨_, hide rfl⟩
        obtain ⟨nl, hnl⟩ : ∃ nl, Hid (x.latch.length = nl) := ⟨_, hide rfl⟩
        obtain ⟨nx, hnx⟩ : ∃ nx, Hid (x.exits.length = nx) := ⟨_, hide rfl⟩
        rw [hnb.out, hnl.out, hnx.out] at heA hinA hsep heC hinC
        have RA := fun w' (h : Only (LpBl esA) V4.heap.size V4 w') => hA4.out.reads hgaN hx.out heA w' h
        have RC := fun w' (h : Only (LpBl esA) V4.heap.size V4 w') => hC4.out.reads hgcN hx.out heC w' h
        have a0 : ∀ w', Only (LpBl esA) V4.heap.size V4 w' → w'.cell? ⟨ga, i * 5, none⟩ = some (.int .i64 x.head) := fun w' h => (RA w' h).1
        have a1 : ∀ w', Only (LpBl esA) V4.heap.size V4 w' → w'.cell? ⟨ga, i * 5 + 1, none⟩ = some (.slice Ab nb Cb) := fun w' h => (RA w' h).2.1
        have a2 : ∀ w', Only (LpBl esA) V4.heap.size V4 w' → w'.cell? ⟨ga, i * 5 + 2, none⟩ = some (.slice Al nl Cl) := fun w' h => (RA w' h).2.2.1
        have a3 : ∀ w', Only (LpBl esA) V4.heap.size V4 w' → w'.cell? ⟨ga, i * 5 + 3, none⟩ = some (.slice Ae nx Ce) := fun w' h => (RA w' h).2.2.2.1
        have a4 : ∀ w', Only (LpBl esA) V4.heap.size V4 w' → w'.cell? ⟨ga, i * 5 + 4, none⟩ = some (.int .i64 (x.depth : Int)) := fun w' h => (RA w' h).2.2.2.2
        have b0 : ∀ w', Only (LpBl esA) V4.heap.size V4 w' → w'.cell? ⟨gc, i * 5, none⟩ = some (.int .i64 x.head) := fun w' h => (RC w' h).1
        have b1 : ∀ w', Only (LpBl esA) V4.heap.size V4 w' → w'.cell? ⟨gc, i * 5 + 1, none⟩ = some (.slice Ab2 nb Cb2) := fun w' h => (RC w' h).2.1
        have b2 : ∀ w', Only (LpBl esA) V4.heap.size V4 w' → w'.cell? ⟨gc, i * 5 + 2, none⟩ = some (.slice Al2 nl Cl2) := fun w' h => (RC w' h).2.2.1
        have b3 : ∀ w', Only (LpBl esA) V4.heap.size V4 w' → w'.cell? ⟨gc, i * 5 + 3, none⟩ = some (.slice Ae2 nx Ce2) := fun w' h => (RC w' h).2.2.2.1
        have b4 : ∀ w', Only (LpBl esA) V4.heap.size V4 w' → w'.cell? ⟨gc, i * 5 + 4, none⟩ = some (.int .i64 (x.depth : Int)) := fun w' h => (RC w' h).2.2.2.2
        have cS := same_any x ⟨.slice Ab nb Cb, .slice Al nl Cl, .slice Ae nx Ce⟩ ⟨.slice Ab2 nb Cb2, .slice Al2 nl Cl2, .slice Ae2 nx Ce2⟩ V.drew Y.heap.size V2.heap.size ⟨hinA.1.kept fun _ _ _ => rfl, hinA.2.1.kept fun _ _ _ => rfl, hinA.2.2.kept fun _ _ _ => rfl⟩ ⟨hinC.1.kept fun _ _ _ => rfl, hinC.2.1.kept fun _ _ _ => rfl, hinC.2.2.kept fun _ _ _ => rfl⟩
        unfold lpA at cS
        replace cS := hide cS
        replace hsep := hide hsep
        replace heA := hide heA
        replace heC := hide heC
        replace hinC4 := hide hinC4
        replace hgaN := hide hgaN
        replace hgcN := hide hgcN
        have hond := hon.drew
        clear RA RC hinC
        go_upto_region 13 with (fail)
        go_region_held3 (fun w' => Only (LpBl esA) V4.heap.size V4 w') (first | (with_reducible assumption) | exact hond)
          (first
            | (go_at_call 17; refine cS.out.mono ?_; rintro e Z ⟨rfl, hbZ⟩; have hkZ : Only (LpBl esA) V4.heap.size V4 Z := hond.then_below (Nat.le_refl _) hbZ; have hbVZ := hide hbZ; clear hbZ))
        have hZs := hkZ.size
        have hbVZ' : Below V.heap.size V Z := (Below.refl V.heap.size V).drew.trans hbVZ.out
        have hZA : Hid (OwnI Z Y.heap.size (.slice Ab nb Cb) x.blocks ∧ OwnI Z Y.heap.size (.slice Al nl Cl) x.latch ∧ OwnI Z Y.heap.size (.slice Ae nx Ce) x.exits) := hide ⟨hinA.1.kept fun k _ hk => hbVZ'.block k hk, hinA.2.1.kept fun k _ hk => hbVZ'.block k hk, hinA.2.2.kept fun k _ hk => hbVZ'.block k hk⟩
        have hfrZ : Hid (LpFrom Z Y.heap.size LL esA i) := hide (fun j x e hj hx he => by
          obtain ⟨h1, h2, h3⟩ := hfr.out j x e hj hx he
          exact ⟨h1.kept fun k _ hk => hbVZ'.block k hk, h2.kept fun k _ hk => hbVZ'.block k hk, h3.kept fun k _ hk => hbVZ'.block k hk⟩)
        have hZd := hkZ.drew
        have hZda := (hkZ.alloc hZs (.cells #[.slice Ab nb Cb, .slice Al nl Cl, .slice Ae nx Ce] 22)).drew
        have hOL := (own_three (w := Z) (B := Y.heap.size) (by omega) hZA.out.1 hZA.out.2.1 hZA.out.2.2 hsep.out).kept (w' := (Z.alloc (.cells #[.slice Ab nb Cb, .slice Al nl Cl, .slice Ae nx Ce] 22)).drew) (fun _ _ _ => rfl)
        have cW := hide (wipe_any ((Z.alloc (.cells #[.slice Ab nb Cb, .slice Al nl Cl, .slice Ae nx Ce] 22)).drew) Y.heap.size Z.heap.size 3 [x.blocks, x.latch, x.exits] [.slice Ab nb Cb, .slice Al nl Cl, .slice Ae nx Ce] (by show Y.heap.size ≤ (Z.alloc _).heap.size; simp; omega) (by omega) rfl (fun l hl => by
          rcases List.mem_cons.1 hl with rfl | hl
          · omega
          · rcases List.mem_cons.1 hl with rfl | hl
            · omega
            · rw [List.mem_singleton.1 hl]; omega) hOL)
        clear hbVZ hbVZ' hfr hinA hon hond cS hOL b0 b1 b2 b3 b4 a0 a4
        go_upto_region 15 with (fail)
        go_region_held3 (fun w' => Only (LpBl esA) V4.heap.size V4 w') (first | (with_reducible assumption) | (with_reducible exact hZd) | (with_reducible exact hZda))
          (first
            | (go_at_call 18
               refine cW.out.mono ?_
               rintro e Z2 ⟨rfl, hW2⟩
               have hkZ2 : Only (LpBl esA) V4.heap.size V4 Z2 := hZda.trans ((hW2.mono (by show V4.heap.size ≤ (Z.alloc _).heap.size; simp; omega)).more (fun k hk hb => by
                 rcases hb with hb | ⟨j, c, hc, hb⟩
                 · omega
                 · refine ⟨i, _, heA.out, ?_⟩
                   match j, hc with
                   | 0, hc => cases hc; exact .inl hb
                   | 1, hc => cases hc; exact .inr (.inl hb)
                   | 2, hc => cases hc; exact .inr (.inr hb)
                   | j + 3, hc => simp at hc))
               have hfr2 : Hid (LpFrom Z2 Y.heap.size LL esA (i + 1)) := hide (fun j x9 e9 hj hx9 he9 => by
                 obtain ⟨h1, h2, h3⟩ := hfrZ.out j x9 e9 (by omega) hx9 he9
                 have hkk : ∀ {v : Value} {l : List Int}, OwnI Z Y.heap.size v l → (∀ k, v.ownBlock = some k → e9.has k) → OwnI Z2 Y.heap.size v l := fun {v l} hv hh => ⟨row_kept hv.row fun k hk => by
                   have hlt := (row_lt hv.row hk).2.1
                   have hne : ¬ BlocksOf Z.heap.size [.slice Ab nb Cb, .slice Al nl Cl, .slice Ae nx Ce] k := by
                     rintro (rfl | ⟨j', c, hc, hb⟩)
                     · omega
                     · refine hA4.out.apart i j _ e9 k heA.out he9 (by omega) ?_ (hh k hk)
                       match j', hc with
                       | 0, hc => cases hc; exact .inl hb
                       | 1, hc => cases hc; exact .inr (.inl hb)
                       | 2, hc => cases hc; exact .inr (.inr hb)
                       | j' + 3, hc => simp at hc
                   rw [hW2.block k (by show k < (Z.alloc _).heap.size; simp; omega) hne]
                   exact Below.heap_alloc Z _ k hlt, hv.ok⟩
                 exact ⟨hkk h1 (fun k hk => .inl hk), hkk h2 (fun k hk => .inr (.inl hk)), hkk h3 (fun k hk => .inr (.inr hk))⟩)
               clear hW2))
        go_wp2
        go_roundw
        case rel => exact ⟨i + 1, by go_num, hlti, hfr2, hkZ2⟩
        case measure => simp [intOf]; omega
      · obtain rfl : i = NL := by omega
        have hB5 := hide (hB4.out.kept (w' := V) fun k h1 h2 => hon.block k h2 (fun hb => by have := (hAlt.out k hb).2; omega))
        have hC5 := hide (hC4.out.kept (w' := V) fun k h1 h2 => hon.block k h2 (fun hb => by have := (hAlt.out k hb).2; omega))
        have hYV := hYo.out V hon
        have hYVs := hYV.size
        have hselfV := Below.refl V.heap.size V
        have hYV2 : Hid (∀ w', Below V.heap.size V w' → Below Y.heap.size Y w') := hide (fun w' h => hYV.trans (h.mono hYVs))
        clear hfr hA4 hB4 hC4 hon
        go_wp2
        go_loopw [79] (fun s wr => ∃ c : Nat, s = .int .i64 c ∧ c ≤ i ∧ Below V.heap.size V wr) (fun s _ => i - (intOf s).toNat)
        case atStart => exact ⟨0, rfl, Nat.zero_le _, hselfV⟩
        case round =>
          clear hselfV
          rename World => Q
          obtain ⟨c, rfl, hc, hbel⟩ := hrel
          have hQs := hbel.size
          by_cases hltc : c < i
          · have hci : (c : Int) < (i : Int) := by omega
            obtain ⟨x, hx⟩ := get_ex (l := LL) (k := c) (by rw [hNL.out]; exact hltc)
            obtain ⟨eB, heB⟩ := hB5.out.at_ hx.out
            obtain ⟨eC, heC⟩ := hC5.out.at_ hx.out
            have hinB := (hB5.out.below hbel).inn c x eB hx.out heB
            have hinC := (hC5.out.below hbel).inn c x eC hx.out heC
            obtain ⟨Ab, Cb, Al, Cl, Ae, Ce, heB9⟩ := lp_lits hinB
            obtain ⟨Ab2, Cb2, Al2, Cl2, Ae2, Ce2, heC9⟩ := lp_lits hinC
            subst heB9 heC9
            obtain ⟨ga, hga⟩ : ∃ ga, Ab9 = some ⟨ga, 0, none⟩ := by
              have hr := hB5.out.row
              rw [hNL.out] at hr
              obtain ⟨g, cap, hv, -, -⟩ := hr.form (by omega)
              cases hv
              exact ⟨g, rfl⟩
            obtain ⟨gc, hgc⟩ : ∃ gc, Ac = some ⟨gc, 0, none⟩ := by
              have hr := hC5.out.row
              rw [hNL.out] at hr
              obtain ⟨g, cap, hv, -, -⟩ := hr.form (by omega)
              cases hv
              exact ⟨g, rfl⟩
            subst hga hgc
            obtain ⟨nb, hnb⟩ : ∃ nb, Hid (x.blocks.length = nb) := ⟨_, hide rfl⟩
            obtain ⟨nl, hnl⟩ : ∃ nl, Hid (x.latch.length = nl) := ⟨_, hide rfl⟩
            obtain ⟨nx, hnx⟩ : ∃ nx, Hid (x.exits.length = nx) := ⟨_, hide rfl⟩
            rw [hnb.out, hnl.out, hnx.out] at heB hinB heC hinC
            have RA := fun w' (h : Below Q.heap.size Q w') => (hB5.out.below (hbel.trans (h.mono hQs))).cells hx.out heB
            have RC := fun w' (h : Below Q.heap.size Q w') => (hC5.out.below (hbel.trans (h.mono hQs))).cells hx.out heC
            have a0 : ∀ w', Below Q.heap.size Q w' → w'.cell? ⟨ga, c * 5, none⟩ = some (.int .i64 x.head) := fun w' h => (RA w' h).1
            have a1 : ∀ w', Below Q.heap.size Q w' → w'.cell? ⟨ga, c * 5 + 1, none⟩ = some (.slice Ab nb Cb) := fun w' h => (RA w' h).2.1
            have a2 : ∀ w', Below Q.heap.size Q w' → w'.cell? ⟨ga, c * 5 + 2, none⟩ = some (.slice Al nl Cl) := fun w' h => (RA w' h).2.2.1
            have a3 : ∀ w', Below Q.heap.size Q w' → w'.cell? ⟨ga, c * 5 + 3, none⟩ = some (.slice Ae nx Ce) := fun w' h => (RA w' h).2.2.2.1
            have a4 : ∀ w', Below Q.heap.size Q w' → w'.cell? ⟨ga, c * 5 + 4, none⟩ = some (.int .i64 (x.depth : Int)) := fun w' h => (RA w' h).2.2.2.2
            have b0 : ∀ w', Below Q.heap.size Q w' → w'.cell? ⟨gc, c * 5, none⟩ = some (.int .i64 x.head) := fun w' h => (RC w' h).1
            have b1 : ∀ w', Below Q.heap.size Q w' → w'.cell? ⟨gc, c * 5 + 1, none⟩ = some (.slice Ab2 nb Cb2) := fun w' h => (RC w' h).2.1
            have b2 : ∀ w', Below Q.heap.size Q w' → w'.cell? ⟨gc, c * 5 + 2, none⟩ = some (.slice Al2 nl Cl2) := fun w' h => (RC w' h).2.2.1
            have b3 : ∀ w', Below Q.heap.size Q w' → w'.cell? ⟨gc, c * 5 + 3, none⟩ = some (.slice Ae2 nx Ce2) := fun w' h => (RC w' h).2.2.2.1
            have b4 : ∀ w', Below Q.heap.size Q w' → w'.cell? ⟨gc, c * 5 + 4, none⟩ = some (.int .i64 (x.depth : Int)) := fun w' h => (RC w' h).2.2.2.2
            have cS := same_any x ⟨.slice Ab nb Cb, .slice Al nl Cl, .slice Ae nx Ce⟩ ⟨.slice Ab2 nb Cb2, .slice Al2 nl Cl2, .slice Ae2 nx Ce2⟩ Q.drew V1.heap.size V2.heap.size ⟨hinB.1.kept fun _ _ _ => rfl, hinB.2.1.kept fun _ _ _ => rfl, hinB.2.2.kept fun _ _ _ => rfl⟩ ⟨hinC.1.kept fun _ _ _ => rfl, hinC.2.1.kept fun _ _ _ => rfl, hinC.2.2.kept fun _ _ _ => rfl⟩
            unfold lpA at cS
            replace cS := hide cS
            replace heB := hide heB
            replace heC := hide heC
            have hselfQ := Below.refl Q.heap.size Q
            clear RA RC hinB hinC
            go_upto_region 20 with (fail)
            go_region_held3 (fun w' => Below Q.heap.size Q w') (first | (with_reducible assumption) | exact hselfQ.drew)
              (first
                | (go_at_call 17; refine cS.out.mono ?_; rintro e Z ⟨rfl, hbZ⟩; have hkZ : Below Q.heap.size Q Z := hselfQ.drew.trans hbZ; clear hbZ))
            have hbZ := hbel.trans (hkZ.mono hQs)
            clear hkZ hselfQ a0 a1 a2 a3 a4 b0 b1 b2 b3 b4
            go_wp2
            go_roundw
            case rel => exact ⟨c + 1, by go_num, hltc, hbZ⟩
            case measure => simp [intOf]; omega
          · obtain rfl : c = i := by omega
            have hYQ := hYV2.out Q hbel
            have hYQs := hYQ.size
            clear hB5 hC5 hbel
            have n0 : ∀ w', Below Y.heap.size Y w' → w'.cell? ⟨w3.heap.size, 0, none⟩ = some (.string f.name) := m0
            have cA := cA1.out Q hYQ
            unfold AhPost at cA
            by_cases h0 : 0 ≤ ans
            · skip
              have hge : ans ≥ 0 := h0
              have hmx : max ans 0 = ans := by omega
              rw [if_pos h0, decide_eq_true h0] at cA
              go_wp2_with (fail)
              refine cA.mono ?_
              rintro e Q2 ⟨rfl, hb2⟩
              have hYQ2 := hYQ.trans (hb2.mono hYQs)
              go_wp2_with (fail)
              refine (cA2.out Q2 hYQ2).mono ?_
              rintro e Q3 ⟨rfl, hb3⟩
              have hYQ3 := hYQ2.trans (hb3.mono hYQ2.size)
              have hw := hide (hwYw.out.trans (hYQ3.mono hwYs.out))
              go_wp2
              go_ret
              exact ⟨rfl, hw.out⟩
            · skip
              have hge : ¬ ans ≥ 0 := h0
              have hmx : max ans 0 = 0 := by omega
              rw [if_neg h0, decide_eq_false h0] at cA
              go_wp2_with (fail)
              refine cA.mono ?_
              rintro e Q2 ⟨rfl, hb2⟩
              have hYQ2 := hYQ.trans (hb2.mono hYQs)
              go_wp2_with (fail)
              refine (cA2.out Q2 hYQ2).mono ?_
              rintro e Q3 ⟨rfl, hb3⟩
              have hYQ3 := hYQ2.trans (hb3.mono hYQ2.size)
              have hw := hide (hwYw.out.trans (hYQ3.mono hwYs.out))
              go_wp2
              go_ret
              exact ⟨by show Ending.returned (.bool (!decide (0 ≤ ans))) = _; rw [decide_eq_false (by omega)]; rfl, hw.out⟩
end Go.Proofs.Ytidjaohlaljmpaa
