/- loops.Find. No condition but sizes. -/
import Derived.Test.YtidjaohlaljmpaaLoP
import Derived.Test.YtidjaohlaljmpaaIcA
namespace Go.Proofs.Ytidjaohlaljmpaa
open Go.RowKit
set_option linter.unusedSimpArgs false
set_option linter.unusedVariables false

theorem row_base {w : World} {b b' : Nat} {e : TypeId} {s : Nat} {v : Value} {n : Nat} {xs : List Value} (h : w.ownsRow b e s v n xs) (hb : ∀ k, v.ownBlock = some k → b' ≤ k) : w.ownsRow b' e s v n xs := by
  refine ⟨h.1, ?_⟩
  rcases h.2 with h1 | ⟨g, cap, cur, e, h1, rest⟩
  · exact .inl h1
  · exact .inr ⟨g, cap, cur, e, hb g (by rw [e]; rfl), rest⟩
set_option maxRecDepth 100000 in
set_option maxHeartbeats 12800000 in
theorem lfind_any (f : Fun) (c1 c2 : Value) (w : World) (B : Nat) (hB : B ≤ w.heap.size) (hf : RFun.rep w B [.string f.name, c1, .int .i64 f.ret, c2] f) (hs : Small f) :
    Calls Try.prog 14 #[f.v c1 c2] w (LoopPost (loopsS (succsF f.blocks) (orderF f.blocks) (predsL (succsF f.blocks) f.blocks.length) f.blocks.length) w) := by
  obtain ⟨hp, hb⟩ := fun_open (RFun.later hf (Below.refl _ _) hB)
  obtain ⟨A1, k1, h1, -, -⟩ := Rp.slice1_open hp
  obtain ⟨A2, k2, h2, hm2, -⟩ := Rp.slice1_open hb
  cases h1; cases h2
  clear hp hb
  obtain ⟨n, hn⟩ : ∃ n, Hid (n = f.blocks.length) := ⟨_, hide rfl⟩
  have hnle : n ≤ 2000000 := by rw [hn.out]; exact hs.blocks
  obtain ⟨O, hO⟩ : ∃ O, Hid (O = orderF f.blocks) := ⟨_, hide rfl⟩
  obtain ⟨sc, hsc⟩ : ∃ sc, Hid (sc = succsF f.blocks) := ⟨_, hide rfl⟩
  obtain ⟨R, hR⟩ : ∃ R, Hid (R = reachF f.blocks) := ⟨_, hide rfl⟩
  obtain ⟨P, hP⟩ : ∃ P, Hid (P = predsL sc n) := ⟨_, hide rfl⟩
  have hPl : P.length = n := by rw [hP.out, predsL_len]
  have hRl : R.length = n := by rw [hR.out, hn.out, reach_len]
  have hsok : Hid (∀ b, SuccOk n (sc b)) := hide (fun b => by rw [hsc.out, hn.out]; exact succsF_ok _ _)
  have hok : Hid (OrderOk n sc O) := hide (by rw [hO.out, hn.out, hsc.out]; exact order_ok _)
  have hol : O.length ≤ n := by rw [hO.out, hn.out]; exact order_len _
  have hRat : Hid (∀ k : Nat, k < n → R[k]? = some (decide ((k : Int) ∈ O))) := hide (fun k hk => by rw [hR.out, hO.out]; exact reach_at _ _ (by rw [← hn.out]; exact hk))
  rw [← hn.out, ← hO.out, ← hsc.out]
  rw [← hn.out] at hf hm2
  obtain ⟨W, hW, hwW, hWs, hx⟩ := boxes1 w #[.string f.name, .slice A1 f.params.length k1, .int .i64 f.ret, .slice A2 n k2] 25
  have q0 : ∀ w', Below W.heap.size W w' → w'.cell? ⟨w.heap.size, 0, none⟩ = some (.string f.name) := hx 0 _ rfl
  have q1 : ∀ w', Below W.heap.size W w' → w'.cell? ⟨w.heap.size, 1, none⟩ = some (.slice A1 f.params.length k1) := hx 1 _ rfl
  have q2 : ∀ w', Below W.heap.size W w' → w'.cell? ⟨w.heap.size, 2, none⟩ = some (.int .i64 f.ret) := hx 2 _ rfl
  have q3 : ∀ w', Below W.heap.size W w' → w'.cell? ⟨w.heap.size, 3, none⟩ = some (.slice A2 n k2) := hx 3 _ rfl
  clear hx
  have hws : w.heap.size ≤ W.heap.size := by omega
  replace hWs := hide hWs
  have hself := Below.refl W.heap.size W
  have hF : Hid (∀ w', Below W.heap.size W w' → RFun.rep w' w'.heap.size [.string f.name, .slice A1 f.params.length k1, .int .i64 f.ret, .slice A2 n k2] f) := hide (fun w' h => RFun.later hf ((hwW.trans (h.mono hws)).mono hB) (Nat.le_trans hB (hwW.trans (h.mono hws)).size))
  have cP : Hid (∀ w', Below W.heap.size W w' → Calls Try.prog 25 #[f.v (.slice A1 f.params.length k1) (.slice A2 n k2)] w' (PredPost n P w')) := hide (fun w' h => by
    have := preds_any f (.slice A1 f.params.length k1) (.slice A2 n k2) w' w'.heap.size (Nat.le_refl _) (hF.out w' h) hs
    rwa [← hn.out, ← hsc.out, ← hP.out] at this)
  have cR : Hid (∀ w', Below W.heap.size W w' → Calls Try.prog 24 #[f.v (.slice A1 f.params.length k1) (.slice A2 n k2)] w' (ReachPost n R w')) := hide (fun w' h => by
    have := reach_any f (.slice A1 f.params.length k1) (.slice A2 n k2) w' w'.heap.size (Nat.le_refl _) (hF.out w' h) hs
    rwa [← hn.out, ← hR.out] at this)
  have cLa : Hid (∀ (gp Bp : Nat) (csp : List Value) w', Below W.heap.size W w' → OwnL w' Bp none (.slice (some ⟨gp, 0, none⟩) n n) P csp → Calls Try.prog 38 #[f.v (.slice A1 f.params.length k1) (.slice A2 n k2), .slice (some ⟨gp, 0, none⟩) n n] w' (LatPost sc O P n w')) := hide (fun gp Bp csp w' hb hl => by
    have := latches_any f (.slice A1 f.params.length k1) (.slice A2 n k2) w' w'.heap.size (Nat.le_refl _) (hF.out w' hb) hs gp Bp csp (by rw [← hn.out, ← hsc.out, ← hP.out]; exact hl)
    rwa [← hn.out, ← hO.out, ← hsc.out, ← hP.out] at this)
  have cSu : Hid (∀ (b : Int) w', Below W.heap.size W w' → Calls Try.prog 27 #[f.v (.slice A1 f.params.length k1) (.slice A2 n k2), .int .i64 b] w' (SuccPost (sc b) w')) := hide (fun b w' hb => by
    have := succs_any f b (.slice A1 f.params.length k1) (.slice A2 n k2) w' w'.heap.size (Nat.le_refl _) (hF.out w' hb) hs
    rwa [← hsc.out] at this)
  rw [← hP.out]
  replace hs := hide hs
  replace hf := hide hf
  replace hwW := hide hwW
  obtain ⟨i0, hi0, hz0, hz1, hz2⟩ := cinfo_parts cinfo_int
  replace hi0 := hide hi0
  replace hz0 := hide hz0
  replace hz1 := hide hz1
  replace hz2 := hide hz2
  obtain ⟨m0, hm0, hm1', hm2', hm3'⟩ := cinfo_parts cinfo_Loop
  replace hm0 := hide hm0
  replace hm1' := hide hm1'
  replace hm2' := hide hm2'
  replace hm3' := hide hm3'
  have hlo : Hid (∀ a x, x ∈ latF sc O P a → x ∈ O) := hide (fun a x hx => by
    unfold latF at hx
    exact (domB_iff.1 (List.mem_filter.1 hx).2).2.1)
  have hll : Hid (∀ a, a < n → (latF sc O P a).length ≤ n) := hide (fun a ha => by
    obtain ⟨p, hp⟩ := get_ex (l := P) (k := a) (by omega)
    rw [← latP_end hp.out]
    refine Nat.le_trans latP_len ?_
    have hp2 := hp.out
    rw [hP.out] at hp2
    exact range_len n p ((predsL_sorted hp2).imp fun h => by omega) (fun x hx => ⟨((predsL_mem hp2 x).1 hx).1, ((predsL_mem hp2 x).1 hx).2.1⟩))
  have hPm : Hid (∀ (k : Nat) p, P[k]? = some p → p.length ≤ n ∧ ∀ x, x ∈ p ↔ (0 ≤ x ∧ x < n ∧ (k : Int) ∈ sc x)) := hide (fun k p hk => by
    rw [hP.out] at hk
    have hm := fun x => predsL_mem hk x
    refine ⟨?_, hm⟩
    exact range_len n p ((predsL_sorted hk).imp fun h => by omega) (fun x hx => ⟨((hm x).1 hx).1, ((hm x).1 hx).2.1⟩))
  replace hW := hide hW
  have hmm := @run_makeMap Try.prog
  go_enter Try.func14, Try.ntmps14
  go_upto_region 1 with (fail)
  rw [hW.out]
  clear hW
  go_wp2_with (fail)
  refine (cP.out _ hself).mono ?_
  rintro e X1 ⟨gp, csp, rfl, hL1, hb1⟩
  go_wp2_with (fail)
  refine (cR.out _ hb1).mono ?_
  rintro e X2 ⟨gr, rfl, hR2, hb2⟩
  have hk2 := hb1.trans (hb2.mono hb1.size)
  have hL2 := hide (hL1.below hb2)
  have rre := hide (bool_reads hR2).2
  have rpr := hide (rows_reads hL2.out hPl)
  have hwX2 : Hid (∀ w', Below X2.heap.size X2 w' → Below w.heap.size w w') := hide (fun w' h => hwW.out.trans ((hk2.trans (h.mono hk2.size)).mono hws))
  have hWX2 : Hid (∀ w', Below X2.heap.size X2 w' → Below W.heap.size W w') := hide (fun w' h => hk2.trans (h.mono hk2.size))
  have hwX2s : Hid (w.heap.size ≤ X2.heap.size) := hide (Nat.le_trans hws hk2.size)
  have p0 : ∀ w', Below X2.heap.size X2 w' → w'.cell? ⟨w.heap.size, 0, none⟩ = some (.string f.name) := fun w' h => q0 w' (hWX2.out w' h)
  have p1 : ∀ w', Below X2.heap.size X2 w' → w'.cell? ⟨w.heap.size, 1, none⟩ = some (.slice A1 f.params.length k1) := fun w' h => q1 w' (hWX2.out w' h)
  have p2 : ∀ w', Below X2.heap.size X2 w' → w'.cell? ⟨w.heap.size, 2, none⟩ = some (.int .i64 f.ret) := fun w' h => q2 w' (hWX2.out w' h)
  have p3 : ∀ w', Below X2.heap.size X2 w' → w'.cell? ⟨w.heap.size, 3, none⟩ = some (.slice A2 n k2) := fun w' h => q3 w' (hWX2.out w' h)
  have hself2 := Below.refl X2.heap.size X2
  replace hR2 := hide hR2
  clear hL1 hb1 hb2 hk2 cP cR q0 q1 q2 q3 hself
  go_wp2_with (at_make; refine wpList_make_full _ rfl (.tmp 25) (.tmp 25) _ rfl X2.heap.size 3 i0 _ 1 Try.underlying22 hi0.out hz0.out hz1.out .i64 .i64 n n n rfl rfl rfl rfl ?c1 ?c2 (Nat.le_refl _) ?_)
  case c1 => rw [hz2.out]; omega
  case c2 => unfold maxLen; omega
  intro w3 hown3 hg3
  have hbel3 := below_grown0 hg3
  have hN3 : Hid (OwnN w3 X2.heap.size X2.heap.size n (inL sc O P n 0 0)) := hide (by rw [inL_start]; exact made_zeros hown3)
  have hG3 : X2.heap.size < w3.heap.size := hN3.out.lt.2
  have cL3 := hide (cLa.out gp W.heap.size csp w3 (hWX2.out _ hbel3) (hL2.out.below hbel3))
  replace hL2 := hide hL2
  clear hown3 hg3 hself2
  go_wp2_with (fail)
  refine cL3.out.mono ?_
  rintro e X ⟨gl, csl, rfl, hLr, hbX⟩
  obtain ⟨GI, hGI⟩ : ∃ GI, Hid (GI = X2.heap.size) := ⟨_, hide rfl⟩
  obtain ⟨S1, hS1⟩ : ∃ S1, Hid (S1 = w3.heap.size) := ⟨_, hide rfl⟩
  have hX23 : Below X2.heap.size X2 X := hbel3.trans (hbX.mono (Nat.le_of_lt hG3))
  have hbXs := hbX.size
  rw [← hS1.out] at hLr hG3 hbXs
  have hN : Hid (OwnN X X2.heap.size X2.heap.size n (inL sc O P n 0 0)) := hide (hN3.out.below hbX)
  have hgl := hide (row_lt hLr.row (k := gl) rfl)
  rw [← hGI.out] at hN hG3 ⊢
  have hX2 : Hid (∀ w', Only (Is GI) X.heap.size X w' → Below X2.heap.size X2 w') := hide (fun w' h => hX23.trans (h.to_below (fun k hk => by have e : k = GI := hk; rw [e, hGI.out]; exact Nat.le_refl _) hX23.size))
  have hw : Hid (∀ w', Only (Is GI) X.heap.size X w' → Below w.heap.size w w') := hide (fun w' h => hwX2.out _ (hX2.out w' h))
  have hLrow : Hid (X.ownsRow S1 22 1 (.slice (some ⟨gl, 0, none⟩) n n) n csl) := hide (by
    have h := hLr.row
    have e : (latL sc O P n).length = n := by simp [latL]
    rwa [e] at h)
  have rla : Hid (∀ a : Nat, a < n → ∃ A C, csl[a]? = some (.slice A (latF sc O P a).length C) ∧ OwnI X S1 (.slice A (latF sc O P a).length C) (latF sc O P a) ∧ ∀ w', Only (Is GI) X.heap.size X w' → w'.cell? ⟨gl, a, none⟩ = some (.slice A (latF sc O P a).length C)) := hide (fun a ha => by
    have hat : (latL sc O P n)[a]? = some (latF sc O P a) := by simp [latL, ha]
    obtain ⟨c, hc, hci⟩ := hLr.at_ hat
    obtain ⟨A, C, rfl⟩ := row_form hci.row
    refine ⟨A, C, hc, hci, fun w' ho => ?_⟩
    rw [ho.cell (p := ⟨gl, a, none⟩) hgl.out.2.1 (fun e => by have e' : gl = GI := e; have := hgl.out.1; omega), World.ownsRow.cellAt hLrow.out a (by omega)]
    exact hc)
  have hap : Hid (∀ (i j : Nat) ci cj g, csl[i]? = some ci → csl[j]? = some cj → i ≠ j → ci.ownBlock = some g → cj.ownBlock ≠ some g) := hide hLr.apart
  have hlu : Hid (∀ (i : Nat) ci g, csl[i]? = some ci → ci.ownBlock = some g → g < X.heap.size) := hide (fun i ci g h1 h2 => (hLr.below_at h1 h2).2.1)
  have hwS : Hid (w.heap.size ≤ S1) := hide (by have := hwX2s.out; have := hGI.out; omega)
  have hself := Only.refl (Is GI) X.heap.size X
  replace hLr := hide hLr
  clear hN3 hbel3 hbX hX23 cL3 cLa hwX2
  go_wp2
  go_loopw [5, 31] (fun s5 j wr => ∃ (a : Nat) (A : Option Addr) (C : Nat) (ls : List Lp) (es : List LpV), j = .int .i64 a ∧ s5 = .slice A ls.length C ∧ a ≤ n ∧ Hid (ls = lps0 sc O P n a) ∧ Hid (OwnLp wr S1 (.slice A ls.length C) ls es) ∧ Hid (∀ (k : Nat) e, es[k]? = some e → (∃ t < a, csl[t]? = some e.l) ∧ ∀ g, (e.b.ownBlock = some g ∨ e.e.ownBlock = some g) → X.heap.size ≤ g) ∧ Hid (OwnN wr GI GI n (inL sc O P n a 0)) ∧ Hid (∀ k, (Value.slice A ls.length C).ownBlock = some k → X.heap.size ≤ k) ∧ Only (Is GI) X.heap.size X wr) (fun _ j _ => n - (intOf j).toNat)
  case atStart => exact ⟨0, none, 0, [], [], rfl, rfl, Nat.zero_le _, hide rfl, hide OwnLp.nil_, hide (fun k e h => by simp at h), hide (hN.out.mono (by rw [hGI.out]; exact Nat.le_refl _)), hide (fun k hk => by cases hk), hself⟩
  case round =>
    clear hself hN
    rename World => V
    obtain ⟨a, A5, C5, ls, es, rfl, rfl, ha, hls, hrow, hesl, hN, hup, hon⟩ := hrel
    have hVs := hon.size
    by_cases hlta : a < n
    · have hai : (a : Int) < (n : Int) := by omega
      have hlst := lps0_step (sc := sc) (o := O) (P := P) (n := n) (a := a)
      rw [← hls.out] at hlst
      replace hlst := hide hlst
      have hb2 := hX2.out V hon
      obtain ⟨AL, CL, hcl, hLX, rl⟩ := rla.out a hlta
      have rl0 := rl V hon
      obtain ⟨LT, hLT⟩ : ∃ LT, Hid (LT = latF sc O P a) := ⟨_, hide rfl⟩
      rw [← hLT.out] at rl0 hcl hLX
      replace hcl := hide hcl
      have hLV : Hid (OwnI V S1 (.slice AL LT.length CL) LT) := hide (hLX.kept fun k h1 h2 => hon.block k h2 (fun e => by have e' : k = GI := e; omega))
      replace hLX := hide hLX
      clear rl
      by_cases hnil : LT = []
      · subst hnil
        have hnh := isH_false hLT.out.symm
        have hnx : Hid (ls = lps0 sc O P n (a + 1)) := hide (by rw [hlst.out, hnh]; simp)
        have hnn : Hid (OwnN V GI GI n (inL sc O P n (a + 1) 0)) := hide (by rw [← inL_none hnh]; exact hN.out)
        have hesl2 : Hid (∀ (k : Nat) e, es[k]? = some e → (∃ t < a + 1, csl[t]? = some e.l) ∧ ∀ g, (e.b.ownBlock = some g ∨ e.e.ownBlock = some g) → X.heap.size ≤ g) := hide (fun k e he => by
          obtain ⟨⟨t, h1, h2⟩, h3⟩ := hesl.out k e he
          exact ⟨⟨t, by omega, h2⟩, h3⟩)
        have hz : (((([] : List Int).length : Nat) : Int) == 0) = true := rfl
        replace hnh := hide hnh
        go_wp2
        go_roundw
        case rel => exact ⟨a + 1, A5, C5, ls, es, by go_num, rfl, hlta, hnx, hrow, hesl2, hnn, hup, hon⟩
        case measure => simp [intOf]; omega
      · have hisH : isH sc O P a = true := isH_true (by rw [← hLT.out]; exact hnil)
        have hnx : Hid (ls ++ [lp0 sc O P n a] = lps0 sc O P n (a + 1)) := hide (by rw [hlst.out, if_pos hisH])
        have hLl : LT.length ≤ n := by rw [hLT.out]; exact hll.out a hlta
        have hz : ((LT.length : Int) == 0) = false := by
          have := List.length_pos_iff.2 hnil
          rw [beq_eq_false_iff_ne]
          omega
        have hLTo : Hid (∀ x, x ∈ LT → x ∈ O) := hide (by rw [hLT.out]; exact hlo.out a)
        obtain ⟨V1, hrun1, hM1, hon1⟩ := (MKeys.made V).store (r := (a : Int)) (by simp [maxLen]) (i64_mk (by omega) (by omega))
        have hM1' : Hid (MKeys V1 V.heap.size [(a : Int)]) := hide (by simpa using hM1)
        have hbV1 : Below V.heap.size V V1 := ((Below.refl V.heap.size V).alloc (Nat.le_refl _) _).trans (hon1.to_below (fun k hk => by have e : k = V.heap.size := hk; omega) (by simp))
        have cC := hide (clone_nums (.slice AL LT.length CL) LT V1 (OwnI.rep (hLV.out.kept (w' := V1) fun k _ hk => hbV1.block k hk)) (by omega))
        have hV1s := hbV1.size
        replace hnil := hide hnil
        replace hisH := hide hisH
        clear hM1 hon1
        go_wp2_with (fail)
        refine cC.out.mono ?_
        rintro e U ⟨vK, rfl, hK, hbU⟩
        obtain ⟨AK, CK, rfl⟩ := row_form hK.row
        have hbVU := hbV1.trans (hbU.mono hV1s)
        have hMU := hide (hM1'.out.of_heap (hbU.block _ hM1'.out.lt))
        have hK0 := hide (hK.mono (B' := V.heap.size + 1) (by have := hM1'.out.lt; omega))
        have hwk := hide (WkN.start (sc := sc) (h := (a : Int)) hLTo.out hok.out.bound ⟨by omega, by omega⟩ hLl)
        clear hK hbU hM1' cC rl0 hbV1 hrun1
        go_wp2
        go_loopg [10] (wkM n [(a : Int)] LT) (fun k u10 wr => ∃ (H K : List Int) (A : Option Addr) (C : Nat), wkM n H K = k ∧ u10 = .slice A K.length C ∧ Hid (WkN sc O LT a n H K) ∧ Hid (MKeys wr V.heap.size H) ∧ Hid (OwnI wr (V.heap.size + 1) (.slice A K.length C) K) ∧ Below V.heap.size V wr)
        case atStart => exact ⟨_, _, AK, CK, rfl, rfl, hwk, hMU, hK0, hbVU⟩
        case round =>
          clear hwk hMU hK0 hbVU U hV1s V1
          rename World => U
          obtain ⟨H, K, A10, C10, hmu, rfl, hwk, hMU, hK, hbU⟩ := hrel
          replace hmu := hide hmu
          have honU : Only (Is GI) X.heap.size X U := hon.then_below (Nat.le_refl _) hbU
          have hb2 := hX2.out U honU
          rcases List.eq_nil_or_concat K with hKe | ⟨K0, b, hKe⟩
          · subst hKe
            have hz9 : ¬ ((([] : List Int).length : Int) > 0) := by simp
            obtain ⟨lp, hlp⟩ : ∃ lp, Hid (lp = lpL sc O LT a n) := ⟨_, hide rfl⟩
            have hlpb : Hid (∀ t : Nat, t < n → decide ((t : Int) ∈ lp) = lpB sc O LT a t) := hide (fun t ht => by
              rw [hlp.out, Bool.eq_iff_iff, decide_eq_true_iff, lpB_iff, lpL_mem]
              exact ⟨fun h => h.2.2, fun h => ⟨by omega, by omega, h⟩⟩)
            have hbY := ((Below.refl U.heap.size U).alloc (Nat.le_refl _) (.cells #[.int .i64 a, .slice none 0 0, .slice AL LT.length CL, .slice none 0 0, .int .i64 0] 34)).alloc (by simp) (.map #[] 0)
            have hb2Y := hb2.trans (hbY.mono hb2.size)
            have hNU : OwnN U GI GI n (inL sc O P n a 0) := hN.out.keep (hbU.block GI hN.out.lt.2)
            have hF0' : FSt GI U.heap.size a n (.slice AL LT.length CL) ((U.alloc (.cells #[.int .i64 a, .slice none 0 0, .slice AL LT.length CL, .slice none 0 0, .int .i64 0] 34)).alloc (.map #[] 0)) (.slice none 0 0) [] [] (inL sc O P n a 0) := FSt.start hNU
            have hMY' := hMU.out.of_heap (hbY.block _ hMU.out.lt)
            have hMlt := hMU.out.lt
            obtain ⟨Y, hY⟩ : ∃ Y, Hid (Y = (U.alloc (.cells #[.int .i64 a, .slice none 0 0, .slice AL LT.length CL, .slice none 0 0, .int .i64 0] 34)).alloc (.map #[] 0)) := ⟨_, hide rfl⟩
            have hYs : Y.heap.size = U.heap.size + 2 := by rw [hY.out]; simp
            have hF0 := hide hF0'
            have hMY := hide hMY'
            have hbVY : Hid (Below V.heap.size V ((U.alloc (.cells #[.int .i64 a, .slice none 0 0, .slice AL LT.length CL, .slice none 0 0, .int .i64 0] 34)).alloc (.map #[] 0))) := hide (hbU.trans (hbY.mono hbU.size))
            have hUs := hbU.size
            have hGX : GI < V.heap.size := by omega
            clear hF0' hMY' hbY hNU hMU hK hbU honU
            go_wp2
            rw [← hY.out] at hb2Y hF0 hMY hbVY ⊢
            replace hY := hide hY
            obtain ⟨gx, hgx⟩ : ∃ gx, Hid (gx = U.heap.size) := ⟨_, hide rfl⟩
            rw [← hgx.out] at hYs hF0 hMlt hUs ⊢
            have hlook : Hid (∀ t : Nat, t < n → ∀ w', Only (QL GI gx) Y.heap.size Y w' → (Instr.lookup 59 (.map (some V.heap.size)) (.int .i64 (t : Int)) false).run Try.prog w' = .ok (.int .i64 (if lpB sc O LT a t = true then 1 else 0)) w') := hide (fun t ht w' ho => by
              have h1 := (hMY.out.of_heap (ho.block _ hMY.out.lt (fun e => by rcases e with e | e | e <;> omega))).look (r := (t : Int)) (i64_mk (by omega) (by omega))
              rw [hwk.out.done t ⟨by omega, by omega⟩, ← hlp.out, hlpb.out t ht] at h1
              exact h1)
            have honY := Only.refl (QL GI gx) Y.heap.size Y
            have hE0 : Hid (ExK sc lp [] [] []) := hide ExK.start
            have hGg : GI < gx := by omega
            have hX2s : Hid (X2.heap.size ≤ GI) := hide (by rw [hGI.out]; exact Nat.le_refl _)
            have hgxX : Hid (X2.heap.size ≤ gx) := hide (by have := hX2s.out; omega)
            clear hwk hb2 hmu
            go_loopw [83] (fun s wr => ∃ (i : Nat) (Ab : Option Addr) (Cb : Nat) (q E : List Int), s = .int .i64 i ∧ i ≤ n ∧ Hid (q = lpL sc O LT a i) ∧ Hid (FSt GI gx a n (.slice AL LT.length CL) wr (.slice Ab q.length Cb) q E (inL sc O P n a i)) ∧ Hid (ExK sc lp q [] E) ∧ Only (QL GI gx) Y.heap.size Y wr) (fun s _ => n - (intOf s).toNat)
            case atStart => exact ⟨0, none, 0, [], [], rfl, Nat.zero_le _, hide rfl, hF0, hE0, honY⟩
            case round =>
              clear hF0 hE0 honY
              rename World => Z
              obtain ⟨i, Ab, Cb, q, E, rfl, hi, hq, hF, hE, honZ⟩ := hrel
              have hZs := honZ.size
              have hb2Z : Below X2.heap.size X2 Z := hb2Y.trans (honZ.to_below (fun k hk => by have := hX2s.out; have := hgxX.out; rcases hk with e | e | e <;> omega) hb2Y.size)
              by_cases hlti : i < n
              · have hii : (i : Int) < (n : Int) := by omega
                have hlk := hlook.out i hlti Z honZ
                have hstep := lpL_step (sc := sc) (o := O) (lat := LT) (h := (a : Int)) (i := i)
                rw [← hq.out] at hstep
                obtain ⟨d, hd⟩ : ∃ d, Hid (lpB sc O LT a i = d) := ⟨_, hide rfl⟩
                rw [hd.out] at hstep hlk
                cases d with
                | false =>
                  rw [if_neg (by simp)] at hlk hstep
                  rw [List.append_nil] at hstep
                  have hnx : Hid (q = lpL sc O LT a (i + 1)) := hide hstep.symm
                  have hF1 : Hid (FSt GI gx a n (.slice AL LT.length CL) Z (.slice Ab q.length Cb) q E (inL sc O P n a (i + 1))) := hide (by rw [← inL_skip (by rw [← hLT.out]; exact hd.out)]; exact hF.out)
                  replace hstep := hide hstep
                  go_wp2
                  go_roundw
                  case rel => exact ⟨i + 1, Ab, Cb, q, E, by go_num, hlti, hnx, hF1, hE, honZ⟩
                  case measure => simp [intOf]; omega
                | true =>
                  rw [if_pos rfl] at hlk hstep
                  have hnx : Hid (q ++ [(i : Int)] = lpL sc O LT a (i + 1)) := hide hstep.symm
                  have hilp : Hid ((i : Int) ∈ lp) := hide (by have := hlpb.out i hlti; rw [hd.out] at this; exact of_decide_eq_true this)
                  replace hstep := hide hstep
                  have hql : q.length ≤ n := by have := lpL_len (sc := sc) (o := O) (lat := LT) (h := (a : Int)) (n := i); rw [hq.out]; omega
                  obtain ⟨c0, hc0⟩ : ∃ c0, Hid (c0 = inF sc O P a i) := ⟨_, hide rfl⟩
                  have hc0n : c0 ≤ n := by have := inF_le (sc := sc) (o := O) (P := P) (a := a) (b := (i : Int)); rw [hc0.out]; omega
                  have rc0 : Z.cell? ⟨GI, i, none⟩ = some (.int .i64 (c0 : Int)) := by rw [hc0.out]; exact hF.out.cnt.cell (inL_here hlti)
                  have fc0 : Z.frozen? ⟨GI, i, none⟩ = false := hF.out.cnt.free i
                  have hwr : IntKind.i64.wrap ((c0 : Int) + 1) = (c0 : Int) + 1 := by rw [IntKind.wrap_i64]; omega
                  obtain ⟨Z1, hZ1⟩ : ∃ Z1, Hid (Z1 = Z.setCell ⟨GI, i, none⟩ (.int .i64 ((c0 : Int) + 1))) := ⟨_, hide rfl⟩
                  have hF1 : Hid (FSt GI gx a n (.slice AL LT.length CL) Z1 (.slice Ab q.length Cb) q E (inL sc O P n a (i + 1))) := hide (by
                    have := hF.out.inc hGg i ((c0 + 1 : Nat) : Int)
                    have e : ((c0 : Int) + 1) = ((c0 + 1 : Nat) : Int) := by omega
                    rw [hZ1.out, e, ← inL_take hlti (by rw [← hLT.out]; exact hd.out), ← hc0.out]
                    exact this)
                  have honZ1 : Only (QL GI gx) Y.heap.size Y Z1 := by rw [hZ1.out]; exact honZ.setCell (p := ⟨GI, i, none⟩) (.inl (.inl rfl)) _
                  have hZ1s := honZ1.size
                  have rx1 := hF1.out.cell
                  have hbI : Hid (I64 i) := hide (i64_mk (by omega) (by omega))
                  clear hF honZ
                  go_upto_region 24 with (fail)
                  rw [← hZ1.out]
                  replace hZ1 := hide hZ1
                  go_wp2_with (first
                    | (go_at_call 27
                       refine (cSu.out i _ (hWX2.out _ hbZ2)).mono ?_
                       rintro e Z3 ⟨vS, rfl, hS, hbS⟩
                       obtain ⟨AS, CS, hvS, hSr⟩ := int_only (S := Is (gx + 1)) hS (fun k hk => by have e : k = gx + 1 := hk; have h1 := hon2.out.size; omega)
                       subst hvS
                       replace hSr := hide hSr
                       have hF3 := hide (hF2.out.below hbS)
                       have hon3 := hon2.out.then_below (Nat.le_refl _) hbS
                       have hY3s := hon3.size
                       have hE3 : Hid (ExK sc lp q ((sc i).take 0) E) := hide hE.out.same
                       have hself3 := Only.refl (Is (gx + 1)) Z3.heap.size Z3
                       obtain ⟨ns, hns⟩ : ∃ ns, Hid ((sc i).length = ns) := ⟨_, hide rfl⟩
                       have hnsn : ns ≤ n := by rw [← hns.out]; exact succ_len (hsok.out i)
                       rw [hns.out])
                    | (at_builtin
                       refine wpList_append_own _ rfl (.tmp 97) (.tmp 99) _ rfl (gx + 2) 3 i0 _ 1 8 Try.underlying22 hi0.out hz0.out hz1.out hz2.out rfl (by omega) (.slice Ab q.length Cb) _ _ rfl (hF1.out.own.row.alloc _) ⟨Z1.heap.size, 0, none⟩ 1 1 [.int .i64 i] rfl rfl ?c1 ?c2 ?c3 ?c4 ?c5 ?_
                       case c1 => exact World.news_of_block (cs := #[.int .i64 i]) (t := 3) (fr := (0, 0)) (heap_alloc_new Z1 _)
                       case c2 => simp [Value.oneCell']
                       case c3 => unfold maxLen; omega
                       case c4 => omega
                       case c5 => first | (simp; omega) | simp | omega
                       intro v2 w2 hown2 hg2 _
                       obtain ⟨A8, C8, hv8⟩ := row_form hown2
                       subst hv8
                       obtain ⟨⟨rz2, fz2⟩, hF2⟩ := hF1.out.app hGg hbI.out hown2 hg2
                       have hon2 : Only (QL GI gx) Y.heap.size Y (w2.setCell ⟨gx, 1, none⟩ (.slice A8 (q.length + 1) C8)) := (only_grown2 honZ1 hZ1s hg2 (fun k hk => by have := (row_lt hF1.out.own.row hk).1; omega)).setCell (p := ⟨gx, 1, none⟩) (.inl (.inr (.inl rfl))) _
                       have hbZ2 : Below X2.heap.size X2 (w2.setCell ⟨gx, 1, none⟩ (.slice A8 (q.length + 1) C8)) := hb2Y.trans (hon2.to_below (fun k hk => by have := hX2s.out; have := hgxX.out; rcases hk with e | e | e <;> omega) hb2Y.size)
                       replace hF2 := hide hF2
                       replace hon2 := hide hon2
                       replace hown2 := hide hown2
                       replace hg2 := hide hg2))
                  clear hS hbS hF2 hon2 hbZ2 hF1 honZ1 rx1 hlk rc0 fc0 rz2 fz2 hE hb2Z
                  go_loopw [106] (fun s wr => ∃ (j : Nat) (E : List Int), s = .int .i64 j ∧ j ≤ ns ∧ Hid (FSt GI gx a n (.slice AL LT.length CL) wr (.slice A8 (q.length + 1) C8) (q ++ [(i : Int)]) E (inL sc O P n a (i + 1))) ∧ Hid (ExK sc lp q ((sc i).take j) E) ∧ Only (Is (gx + 1)) Z3.heap.size Z3 wr) (fun s _ => ns - (intOf s).toNat)
                  case atStart => exact ⟨0, E, rfl, Nat.zero_le _, hF3, hE3, hself3⟩
                  case round =>
                    clear hF3 hE3 hself3
                    rename World => Q
                    obtain ⟨j, E', rfl, hj, hF, hE, honQ⟩ := hrel
                    have honYQ : Only (QL GI gx) Y.heap.size Y Q := hon3.trans ((honQ.mono hY3s).more (fun k _ hk => .inr (.inr hk)))
                    by_cases hltj : j < ns
                    · have hji : (j : Int) < (ns : Int) := by omega
                      obtain ⟨t, ht⟩ := get_ex (l := sc i) (k := j) (by rw [hns.out]; exact hltj)
                      have htb := (hsok.out i).bound t (List.mem_of_getElem? ht.out)
                      obtain ⟨tn, rfl⟩ := Int.eq_ofNat_of_zero_le htb.1
                      have htn : tn < n := by have := htb.2; omega
                      clear htb
                      obtain ⟨g5, hg5, hgr⟩ := hSr.out (by rw [hns.out]; omega)
                      subst hg5
                      have r0 := hgr j _ ht.out Q honQ
                      clear hgr
                      have hlk := hlook.out tn htn Q honYQ
                      have hlpt := hlpb.out tn htn
                      cases hd9 : lpB sc O LT a tn with
                      | true =>
                        rw [hd9, if_pos rfl] at hlk
                        rw [hd9] at hlpt
                        have hE2 := hide (hE.out.pass ht.out (of_decide_eq_true hlpt))
                        replace hd9 := hide hd9
                        replace hlpt := hide hlpt
                        go_wp2
                        go_roundw
                        case rel => exact ⟨j + 1, E', by go_num, hltj, hF, hE2, honQ⟩
                        case measure => simp [intOf]; omega
                      | false =>
                        rw [hd9, if_neg (by simp)] at hlk
                        rw [hd9] at hlpt
                        have hE2 := hide (hE.out.put ht.out (of_decide_eq_false hlpt))
                        have hEl : E'.length ≤ n := hE.out.bound hsok.out (fun t ht => (hsok.out i).bound t (List.mem_of_mem_take ht))
                        obtain ⟨Q2, hrun2, hM2, ho2⟩ := hF.out.exi.store (r := (tn : Int)) (by unfold maxLen; omega) (i64_mk (by omega) (by omega))
                        have hF2 := hide (hF.out.exit hGg hM2 ho2)
                        have honQ2 := honQ.trans ((show Only (Is (gx + 1)) Q.heap.size Q Q2 from ho2).mono honQ.size)
                        replace hd9 := hide hd9
                        replace hlpt := hide hlpt
                        clear hM2 ho2
                        go_wp2
                        go_roundw
                        case rel => exact ⟨j + 1, _, by go_num, hltj, hF2, hE2, honQ2⟩
                        case measure => simp [intOf]; omega
                    · obtain rfl : j = ns := by omega
                      have hE2 : Hid (ExK sc lp (q ++ [(i : Int)]) [] E') := hide (by
                        have h := hE.out
                        rw [← hns.out] at h
                        exact h.next)
                      have hF2 : Hid (FSt GI gx a n (.slice AL LT.length CL) Q (.slice A8 (q ++ [(i : Int)]).length C8) (q ++ [(i : Int)]) E' (inL sc O P n a (i + 1))) := hide (by
                        rw [List.length_append, List.length_singleton]
                        exact hF.out)
                      go_wp2
                      go_roundw
                      case rel => exact ⟨i + 1, A8, C8, q ++ [(i : Int)], E', by go_num, hlti, hnx, hF2, hE2, honYQ⟩
                      case measure => simp [intOf]; omega
              · obtain rfl : i = n := by omega
                have hqlp : q = lp := by rw [hq.out, hlp.out]
                subst hqlp
                obtain ⟨D, hD, -, hhas, -⟩ := hF.out.exi
                replace hhas := hide hhas
                have hEd : Hid (∀ x : Int, x ∈ E ↔ x ∈ exL sc q i) := hide (fun x => hE.out.done hsok.out)
                have hG0 := GSt.start hF.out
                have honV0 : Only (Is GI) V.heap.size V Z := (Only.of_below hbVY.out).trans ((honZ.mono (by omega)).more (fun k hk hq => hq.elim id (fun h => by rcases h with e | e <;> omega)))
                obtain ⟨R9, hR9⟩ : ∃ R9, Hid (R9 = Z.heap.size) := ⟨_, hide rfl⟩
                rw [← hR9.out] at hG0
                have hRx : gx + 2 ≤ R9 := by rw [hR9.out]; omega
                have hcnt : Hid (inL sc O P i a i = inL sc O P i (a + 1) 0) := hide (inL_end hisH.out)
                rw [hcnt.out] at hG0
                clear hlook hMY hb2Y
                go_wp2_with (at_range; refine wpList_range_own _ rfl _ 59 rfl 3 3 (Maps.int_keyed Try.underlying3) Try.underlying59 _ (gx + 1) E.length D rfl hD ?_; intro w0 hrg0 hg0 hs0)
                go_frame
                have hG1 : Hid (GSt GI gx a i R9 (.slice AL LT.length CL) (.slice Ab q.length Cb) w0 (.slice none 0 0) q [] (inL sc O P i (a + 1) 0)) := hide (hG0.keep (fun k hk _ => hg0.block k hk (by simp)) hRx hGg)
                have hon0 : Only (Is GI) V.heap.size V w0 := honV0.then_below (by have := honV0.size; omega) ⟨hg0.os, hg0.tape, hg0.output, hg0.size, fun k hk => hg0.block k hk (by simp)⟩
                rw [← hR9.out] at hrg0 ⊢
                have hgot0 := hide (got_start D)
                clear hG0 honV0 hg0 hD hF honZ
                go_loopw [17] (fun _ wr => ∃ (left : Lit → Bool) (cnt : Nat) (qe : List Int) (Ax : Option Addr) (Cx : Nat), wr.ranges Try.prog 3 (plainElem Try.prog 3) (gx + 1) R9 E.length D left cnt ∧ Hid (Got D left qe) ∧ Hid (GSt GI gx a i R9 (.slice AL LT.length CL) (.slice Ab q.length Cb) wr (.slice Ax qe.length Cx) q qe (inL sc O P i (a + 1) 0)) ∧ Only (Is GI) V.heap.size V wr) (fun _ wr => wr.rangeLeft (gx + 1) R9)
                case atStart => exact ⟨_, _, [], none, 0, hrg0, hgot0, hG1, hon0⟩
                case round =>
                  clear hrg0 hgot0 hG1 hon0 hs0 w0
                  rename World => Q
                  obtain ⟨left, cnt, qe, Ax, Cx, hrg, hgot, hG, hon5⟩ := hrel
                  have hqel : qe.length ≤ i := range_len i qe hgot.out.1 (fun t ht => by
                    have h1 := got_in hgot.out ht
                    rw [hhas.out t, decide_eq_true_iff, hEd.out t, exL_mem] at h1
                    exact ⟨h1.1, h1.2.1⟩)
                  have hQs := hon5.size
                  go_wp2_with (first
                    | (at_next; refine wpList_next_ranges_ii _ rfl _ rfl 3 3 .i64 .i64 (Maps.int_keyed Try.underlying3) Try.underlying3 Try.underlying3 (gx + 1) R9 E.length _ _ _ rfl hrg ?_ ?_))
                  · intro hc0 hl0
                    have hsort : (qe.mergeSort fun x y => decide (x ≤ y)) = exL sc q i := sort_rising hgot.out.1 exL_sorted (fun x => by
                      have h1 := got_end hgot.out hl0 x
                      rw [hhas.out x] at h1
                      have h2 : x ∈ E ↔ x ∈ qe := by simpa using h1
                      rw [← h2]
                      exact hEd.out x)
                    have cSo := sort_any (.slice Ax qe.length Cx) qe Q (R9 + 1) hG.out.ex (by omega)
                    rw [hsort] at cSo
                    replace cSo := hide cSo
                    replace hsort := hide hsort
                    replace hc0 := hide hc0
                    replace hl0 := hide hl0
                    have rx3 := hG.out.cell
                    have hlsl : ls.length ≤ i := by have := lps0_len (sc := sc) (o := O) (P := P) (n := i) (a := a); rw [hls.out]; omega
                    have hrgh := hide hrg
                    have hgxR : V.heap.size ≤ R9 := by omega
                    clear hrg
                    go_wp2_with (fail)
                    refine cSo.out.mono ?_
                    rintro e Y2 ⟨rfl, hS2, hgS⟩
                    have hG2 := hG.out.sorted hGg hRx hS2 hgS
                    have hlow9 : ∀ k, (Value.slice Ax qe.length Cx).ownBlock = some k → R9 + 1 ≤ k := fun k hk => (row_lt hG.out.ex.row hk).1
                    have hon6 : Only (Is GI) V.heap.size V Y2 := hon5.trans ⟨hgS.os, hgS.tape, hgS.output, hgS.size, fun k hk _ => hgS.block k (by omega) (fun e => by have := hlow9 _ e.symm; omega)⟩
                    obtain ⟨z0, z1, z2, z3, z4⟩ := hG2.cells
                    have hrow2 := hide (hrow.out.kept (w' := Y2) fun k h1 h2 => hon6.block k h2 (fun e => by have e' : k = GI := e; omega))
                    have hL2' := hide (hLV.out.kept (w' := Y2) fun k h1 h2 => hon6.block k h2 (fun e => by have e' : k = GI := e; omega))
                    have hG2h := hide hG2
                    have hY2s := hon6.size
                    replace hlow9 := hide hlow9
                    clear hG2 hS2 hgS
                    go_wp2_with (first
                      | (at_builtin
                         refine wpList_append_own _ rfl (.tmp 133) (.tmp 135) _ rfl X.heap.size 34 m0 _ 5 88 Try.underlying29 hm0.out hm1'.out hm2'.out hm3'.out rfl (by omega) (.slice A5 ls.length C5) _ _ rfl ((row_base hrow2.out.row hup.out).alloc _) ⟨Y2.heap.size, 0, none⟩ 1 1 [.int .i64 a, .slice Ab q.length Cb, .slice AL LT.length CL, .slice Ax qe.length Cx, .int .i64 0] rfl rfl ?c1 ?c2 ?c3 ?c4 ?c5 ?_
                         case c1 => exact World.news_of_block (cs := #[.int .i64 a, .slice Ab q.length Cb, .slice AL LT.length CL, .slice Ax qe.length Cx, .int .i64 0]) (t := 34) (fr := (0, 0)) (heap_alloc_new Y2 _)
                         case c2 => simp [Value.oneCell']
                         case c3 => unfold maxLen; omega
                         case c4 => omega
                         case c5 => first | (simp; omega) | simp | omega
                         intro v9 w9 hown9 hg9 _
                         obtain ⟨A8, C8, hv8⟩ := row_form hown9
                         subst hv8
                         have hb9 := But.grown hrow2.out.row hg9
                         have hO9 : Hid (OwnLp w9 S1 (.slice A8 (ls.length + 1) C8) (ls ++ [⟨a, q, LT, exL sc q i, 0⟩]) (es ++ [⟨.slice Ab q.length Cb, .slice AL LT.length CL, .slice Ax qe.length Cx⟩])) := hide (OwnLp.snoc (x := ⟨a, q, LT, exL sc q i, 0⟩) (e := ⟨.slice Ab q.length Cb, .slice AL LT.length CL, .slice Ax qe.length Cx⟩) hrow2.out (hG2h.out.own.mono (by omega)) hL2'.out (hG2h.out.ex.mono (by omega)) (fun k e' g he hg hn => by
                           have h1 := (hrow.out.in_lt he hg).2.1
                           rcases hn with hn | hn | hn
                           · have := (row_lt hG2h.out.own.row hn).1; omega
                           · have hn' : (Value.slice AL LT.length CL).ownBlock = some g := hn
                             obtain ⟨⟨t, ht, hct⟩, hbe⟩ := hesl.out k e' he
                             have hgX := hlu.out a _ g hcl.out hn'
                             rcases hg with hg | hg | hg
                             · have := hbe g (.inl hg); omega
                             · exact hap.out t a _ _ g hct hcl.out (by omega) hg hn'
                             · have := hbe g (.inr hg); omega
                           · have := hlow9.out g hn; omega) (fun g => ⟨fun h1 => ⟨fun h2 => by have h3 := (row_lt hG2h.out.own.row h1).1; have h4 := hlu.out a _ g hcl.out h2; omega, fun h2 => by have h3 := hG2h.out.low g h1; have h4 := hlow9.out g h2; omega⟩, fun h1 h2 => by have h3 := hlu.out a _ g hcl.out h1; have h4 := hlow9.out g h2; omega⟩) (row_mono hown9 hbXs) hg9)
                         have hN9 : Hid (OwnN w9 GI GI i (inL sc O P i (a + 1) 0)) := hide (hb9.row (by decide) hG2h.out.cnt)
                         have hup9 : Hid (∀ k, (Value.slice A8 (ls.length + 1) C8).ownBlock = some k → X.heap.size ≤ k) := hide (fun k hk => (row_lt hown9 hk).1)
                         have hon9 : Only (Is GI) X.heap.size X w9 := only_grown2 (hon.trans (hon6.mono hVs)) (by omega) hg9 hup.out
                         replace hown9 := hide hown9
                         replace hg9 := hide hg9
                         replace hb9 := hide hb9))
                    have hl0' : Hid (lp0 sc O P i a = ⟨a, q, LT, exL sc q i, 0⟩) := hide (by unfold lp0 bodyS; rw [← hLT.out, ← hlp.out])
                    have hesl9 : Hid (∀ (k : Nat) e, (es ++ [⟨.slice Ab q.length Cb, .slice AL LT.length CL, .slice Ax qe.length Cx⟩])[k]? = some e → (∃ t < a + 1, csl[t]? = some e.l) ∧ ∀ g, (e.b.ownBlock = some g ∨ e.e.ownBlock = some g) → X.heap.size ≤ g) := hide (fun k e he => by
                      rcases Nat.lt_or_ge k es.length with hk | hk
                      · rw [List.getElem?_append_left hk] at he
                        obtain ⟨⟨t, h1, h2⟩, h3⟩ := hesl.out k e he
                        exact ⟨⟨t, by omega, h2⟩, h3⟩
                      · rw [List.getElem?_append_right hk] at he
                        have e0 : k - es.length = 0 := by have := (List.getElem?_eq_some_iff.1 he).1; simp at this; omega
                        rw [e0] at he
                        cases he
                        refine ⟨⟨a, by omega, hcl.out⟩, fun g hg => ?_⟩
                        rcases hg with hg | hg
                        · have := (row_lt hG2h.out.own.row hg).1; omega
                        · have := hlow9.out g hg; omega)
                    go_roundw
                    case rel => exact ⟨a + 1, A8, C8, ls ++ [⟨a, q, LT, exL sc q i, 0⟩], es ++ [⟨.slice Ab q.length Cb, .slice AL LT.length CL, .slice Ax qe.length Cx⟩], by go_num, by simp, hlta, hide (by rw [← hl0'.out]; exact hnx.out), by simpa using hO9, hesl9, hN9, by simpa using hup9, hon9⟩
                    case measure => simp [intOf]; omega
                  · intro x c w1 cnt1 hwx hwc hlx hat hrg1 hlt hg1 hs1 hen
                    have hG1 := hG.out.keep (w' := w1) (fun k hk hne => hg1.block k hk (fun e => hne (Option.some.inj e))) hRx hGg
                    have rx3 := hG1.cell
                    have hgot1 := hide (got_step hgot.out hlx hwx)
                    have hon1 : Only (Is GI) V.heap.size V w1 := hon5.trans ⟨hg1.os, hg1.tape, hg1.output, by omega, fun k hk _ => hg1.block k (by omega) (fun e => by have e' := Option.some.inj e; omega)⟩
                    have hxI : Hid (I64 x) := hide hwx
                    replace hs1 := hide hs1
                    have hG1h := hide hG1
                    have hw1s := hon1.size
                    replace hwx := hide hwx
                    replace hwc := hide hwc
                    replace hlx := hide hlx
                    replace hat := hide hat
                    have hrgl := hide hrg.left_eq
                    have hRw := hrg1.lt
                    have hRg := hide hrg1
                    clear hG1 hg1 hrg hG hon5
                    go_wp2_with (first
                      | (at_builtin
                         refine wpList_append_own _ rfl (.tmp 125) (.tmp 127) _ rfl (R9 + 1) 3 i0 _ 1 8 Try.underlying22 hi0.out hz0.out hz1.out hz2.out rfl (by omega) (.slice Ax qe.length Cx) _ _ rfl (hG1h.out.ex.row.alloc _) ⟨w1.heap.size, 0, none⟩ 1 1 [.int .i64 x] rfl rfl ?c1 ?c2 ?c3 ?c4 ?c5 ?_
                         case c1 => exact World.news_of_block (cs := #[.int .i64 x]) (t := 3) (fr := (0, 0)) (heap_alloc_new w1 _)
                         case c2 => simp [Value.oneCell']
                         case c3 => unfold maxLen; omega
                         case c4 => omega
                         case c5 => first | (simp; omega) | simp | omega
                         intro v2 w2 hown2 hg2 _
                         obtain ⟨A8, C8, hv8⟩ := row_form hown2
                         subst hv8
                         obtain ⟨⟨rz2, fz2⟩, hG2⟩ := hG1h.out.app hRx hGg hxI.out hown2 hg2
                         have hlow9 : ∀ k, (Value.slice Ax qe.length Cx).ownBlock = some k → R9 + 1 ≤ k := fun k hk => (row_lt hG1h.out.ex.row hk).1
                         have hon2 := hide ((only_grown2 hon1 hw1s hg2 (fun k hk => by have := hlow9 k hk; omega)).setCell (p := ⟨gx, 3, none⟩) (.inr (by show V.heap.size ≤ gx; omega)) (.slice A8 (qe.length + 1) C8))
                         have hrg3 := hide (((hRg.out.alloc (.cells #[.int .i64 x] 3)).kept hg2 (fun e => by have := hlow9 _ e.symm; omega) (fun e => by have := hlow9 _ e.symm; omega)).kept (grown_set w2 gx 3 (.slice A8 (qe.length + 1) C8)) (fun e => by have := Option.some.inj e; omega) (fun e => by have := Option.some.inj e; omega))
                         replace hG2 := hide hG2
                         replace hown2 := hide hown2
                         replace hg2 := hide hg2
                         replace hlow9 := hide hlow9))
                    go_roundw
                    case rel => exact ⟨_, cnt1, qe ++ [x], A8, C8, hrg3.out, hgot1, by rw [List.length_append, List.length_singleton]; exact hG2, hon2.out⟩
                    case measure => rw [hrg3.out.left_eq, hrgl.out]; exact hlt
          · rw [List.concat_eq_append] at hKe
            subst hKe
            obtain ⟨m, hm⟩ : ∃ m, Hid (m = K0.length) := ⟨_, hide rfl⟩
            have hlen1 : (K0 ++ [b]).length = m + 1 := by rw [List.length_append, hm.out]; rfl
            have hroom : m + 1 ≤ 4000000000000 := by rw [← hlen1]; exact hwk.out.room hnle
            have hKK : OwnI U (V.heap.size + 1) (.slice A10 (m + 1) C10) (K0 ++ [b]) := by rw [← hlen1]; exact hK.out
            obtain ⟨g, rfl⟩ : ∃ g, A10 = some ⟨g, 0, none⟩ := by
              have hr := hK.out.row
              obtain ⟨g, cap, hv, -, -⟩ := hr.form (by rw [hlen1]; omega)
              cases hv
              exact ⟨g, rfl⟩
            rw [hm.out] at hKK
            obtain ⟨r0, hcap1, hcap2⟩ := hKK.last
            have hKp := hide hKK.pop
            rw [← hm.out] at r0 hcap1 hKp
            have hbb := hwk.out.bound b (by simp)
            obtain ⟨y, rfl⟩ := Int.eq_ofNat_of_zero_le hbb.1
            have hyn : y < n := by omega
            have hlook := hMU.out.look (r := (y : Int)) (i64_mk (by omega) (by omega))
            have rre0 := rre.out y _ (hRat.out y hyn) U hb2
            have e1 : ((m + 1 : Nat) : Int) > 0 := by omega
            have e2 : ((m + 1 : Nat) : Int) - 1 = (m : Int) := by omega
            rw [hlen1]
            replace hlen1 := hide hlen1
            clear hK hKK hbb
            by_cases hyH : (y : Int) ∈ H
            · rw [decide_eq_true hyH, if_pos rfl] at hlook
              obtain ⟨hnx, hlt⟩ := hwk.out.skip hLTo.out (.inl hyH)
              replace hnx := hide hnx
              replace hlt := hide hlt
              replace hyH := hide hyH
              go_wp2
              go_roundg (wkM n H K0)
              case measure => rw [← hmu.out]; exact hlt.out
              case rel => exact ⟨H, K0, some ⟨g, 0, none⟩, C10, rfl, by rw [hm.out], hnx, hMU, by rw [← hm.out]; exact hKp, hbU⟩
            · rw [decide_eq_false hyH, if_neg (by simp)] at hlook
              by_cases hyO : (y : Int) ∈ O
              · rw [decide_eq_true hyO] at rre0
                obtain ⟨p, hp⟩ := get_ex (l := P) (k := y) (by omega)
                obtain ⟨Ap, Cp, rp, rpx⟩ := rpr.out y p hp.out
                obtain ⟨hpl, hpm⟩ := hPm.out y p hp.out
                obtain ⟨hnx, hlt⟩ := hwk.out.take (p := p) hyH hyO (fun x hx => ⟨⟨((hpm x).1 hx).1, ((hpm x).1 hx).2.1⟩, ((hpm x).1 hx).2.2⟩) (fun x hxo hb => (hpm x).2 ⟨(hok.out.bound x hxo).1, (hok.out.bound x hxo).2, hb⟩) hpl
                have hHl := hwk.out.hlen
                obtain ⟨U1, hrun1, hM1, hon1⟩ := hMU.out.store (r := (y : Int)) (by unfold maxLen; omega) (i64_mk (by omega) (by omega))
                rw [if_neg hyH] at hM1
                have hbU1 : Below V.heap.size V U1 := hbU.trans (hon1.to_below (fun k hk => by have e : k = V.heap.size := hk; omega) hbU.size)
                have hb21 := hX2.out U1 (hon.then_below (Nat.le_refl _) hbU1)
                have hK1 : Hid (OwnI U1 (V.heap.size + 1) (.slice (some ⟨g, 0, none⟩) m C10) K0) := hide (hKp.out.kept fun k h1 h2 => hon1.block k h2 (fun e => by have e' : k = V.heap.size := e; omega))
                have rp0 := rp U1 hb21
                have hsrc : Hid (∀ ad, Ap = some ad → ∀ j u, (p.map fun z => Value.int .i64 z)[j]? = some u → U1.cell? (ad.add j) = some u) := hide (fun ad had j u hu => by
                  rw [List.getElem?_map] at hu
                  obtain ⟨x, hx, rfl⟩ := Option.map_eq_some_iff.1 hu
                  obtain ⟨g, hg, hgx⟩ := rpx (by have := (List.getElem?_eq_some_iff.1 hx).1; omega)
                  rw [hg] at had
                  cases had
                  have := hgx j x hx U1 hb21
                  cases j <;> simpa [Addr.add] using this)
                obtain ⟨np, hnp⟩ : ∃ np, Hid (np = p.length) := ⟨_, hide rfl⟩
                have hnone : Hid (Ap = none → np = 0) := hide (fun e => by
                  rcases Nat.eq_zero_or_pos p.length with h | h
                  · rw [hnp.out, h]
                  · obtain ⟨g, hg, -⟩ := rpx h
                    rw [hg] at e
                    cases e)
                rw [← hnp.out] at rp0 hpl
                have hok9 : Hid (∀ x, x ∈ K0 ++ p → I64 x) := hide (fun x hx => by have := hnx.bound x hx; exact i64_mk (by omega) (by omega))
                have hM1b := hide hM1
                have hVM := hide hMU.out.lt
                replace hnx := hide hnx
                replace hlt := hide hlt
                replace hyH := hide hyH
                replace hyO := hide hyO
                replace hpm := hide hpm
                have hbU1s := hbU1.size
                clear rp rpx hM1 hon1
                go_wp2_with (first
                  | (at_builtin
                     refine wpList_append_any _ rfl (.tmp 70) (.tmp 74) _ rfl (V.heap.size + 1) 3 i0 _ 1 8 Try.underlying22 hi0.out hz0.out hz1.out hz2.out rfl (by omega) (.slice (some ⟨g, 0, none⟩) m C10) m (K0.map fun z => Value.int .i64 z) rfl (by rw [hm.out] at hK1 ⊢; exact hK1.out.row) Ap np Cp (p.map fun z => Value.int .i64 z) rfl (by rw [List.length_map, ← hnp.out]; omega) hnone.out hsrc.out (ints_one _) (by unfold maxLen; omega) (by omega) (by have := hM1b.out.lt; omega) ?_
                     intro v9 w9 hown9 hg9
                     obtain ⟨A9, C9, hv9⟩ := row_form hown9
                     subst hv9
                     have hlow : ∀ k, (Value.slice (some ⟨g, 0, none⟩) m C10).ownBlock = some k → V.heap.size + 1 ≤ k := fun k hk => (row_lt hK1.out.row hk).1
                     have hb9 : Below V.heap.size V w9 := hbU1.grown hg9 hbU1s (fun k hk => by have := hlow k hk; omega)
                     have hM9 := hide (hM1b.out.of_heap (hg9.block _ hM1b.out.lt (fun e => by have := hlow _ e.symm; omega)))
                     have hK9 : Hid (OwnI w9 (V.heap.size + 1) (.slice A9 (m + np) C9) (K0 ++ p)) := hide ⟨by
                       rw [List.length_append, ← hm.out, ← hnp.out, List.map_append]
                       exact hown9, hok9.out⟩
                     replace hown9 := hide hown9
                     replace hg9 := hide hg9
                     clear hlow))
                go_roundg (wkM n (H ++ [(y : Int)]) (K0 ++ p))
                case measure => rw [← hmu.out]; exact hlt.out
                case rel => exact ⟨H ++ [(y : Int)], K0 ++ p, A9, C9, rfl, by rw [List.length_append, ← hm.out, ← hnp.out], hnx, hM9, by rw [List.length_append, ← hm.out, ← hnp.out]; exact hK9, hb9⟩
              · rw [decide_eq_false hyO] at rre0
                obtain ⟨hnx, hlt⟩ := hwk.out.skip hLTo.out (.inr hyO)
                replace hnx := hide hnx
                replace hlt := hide hlt
                replace hyH := hide hyH
                replace hyO := hide hyO
                go_wp2
                go_roundg (wkM n H K0)
                case measure => rw [← hmu.out]; exact hlt.out
                case rel => exact ⟨H, K0, some ⟨g, 0, none⟩, C10, rfl, by rw [hm.out], hnx, hMU, by rw [← hm.out]; exact hKp, hbU⟩
    · obtain rfl : a = n := by omega
      obtain ⟨N, hNe⟩ : ∃ N, Hid (N = (headsS sc O P a).length) := ⟨_, hide rfl⟩
      have hNn : N ≤ a := by rw [hNe.out]; exact headsS_len
      have hlN : ls.length = N := by rw [hls.out, hNe.out]; simp [lps0]
      have hst : Hid (OwnLp V S1 (.slice A5 N C5) (dS sc O P a 0 0) es) := hide (by rw [← dS_start, ← hls.out, ← hlN]; exact hrow.out)
      have hwV := hw.out V hon
      rw [hlN]
      replace hlN := hide hlN
      have hheads : Hid (∀ (k h : Nat), (headsS sc O P a)[k]? = some h → h < a) := hide (fun k h hk => (headsS_mem.1 (List.mem_of_getElem? hk)).1)
      clear hrow hls hesl hup
      go_wp2
      go_loopw [140] (fun j wr => ∃ i : Nat, j = .int .i64 i ∧ i ≤ N ∧ Hid (OwnLp wr S1 (.slice A5 N C5) (dS sc O P a i 0) es) ∧ Hid (OwnN wr GI GI a (inL sc O P a a 0)) ∧ Below w.heap.size w wr) (fun j _ => N - (intOf j).toNat)
      case atStart => exact ⟨0, rfl, Nat.zero_le _, hst, hN, hwV⟩
      case round =>
        clear hst hN hwV hon hVs V
        rename World => V
        obtain ⟨i, rfl, hi, hrow, hN, hbel⟩ := hrel
        by_cases hlti : i < N
        · have hii : (i : Int) < (N : Int) := by omega
          obtain ⟨h, hh⟩ := get_ex (l := headsS sc O P a) (k := i) (by rw [← hNe.out]; exact hlti)
          have hha := hheads.out i h hh.out
          have x2 := dS_here (d := 0) hh.out
          obtain ⟨e2, he2⟩ := hrow.out.at_ x2
          have hlen : (dS sc O P a i 0).length = N := by rw [dS_len, hNe.out]
          obtain ⟨gA, hgA⟩ : ∃ gA, A5 = some ⟨gA, 0, none⟩ := by
            have hr := hrow.out.row
            rw [hlen] at hr
            obtain ⟨g, cap, hv, -, -⟩ := hr.form (by omega)
            cases hv
            exact ⟨g, rfl⟩
          subst hgA
          obtain ⟨r2, -, -, -, r4⟩ := hrow.out.cells x2 he2
          have r2' : V.cell? ⟨gA, i * 5, none⟩ = some (.int .i64 (h : Int)) := r2
          have r4' : V.cell? ⟨gA, i * 5 + 4, none⟩ = some (.int .i64 ((0 : Nat) : Int)) := r4
          have f4 : V.frozen? ⟨gA, i * 5 + 4, none⟩ = false := by
            have h := hrow.out.row
            rw [hlen] at h
            exact World.ownsRow.frozenAt h _
          have hSg := (row_lt hrow.out.row (k := gA) rfl).1
          obtain ⟨c0, hc0⟩ : ∃ c0, Hid (c0 = inF sc O P a h) := ⟨_, hide rfl⟩
          have rin : V.cell? ⟨GI, h, none⟩ = some (.int .i64 (c0 : Int)) := by
            rw [hc0.out]
            exact hN.out.cell (by rw [inL_at hha]; simp)
          have hst9 : Hid (OwnLp (V.setCell ⟨gA, i * 5 + 4, none⟩ (.int .i64 (c0 : Int))) S1 (.slice (some ⟨gA, 0, none⟩) N C5) (dS sc O P a (i + 1) 0) es) := hide (by
            have := hrow.out
            rw [← hlen] at this
            have := this.put x2 c0
            rw [dS_set hh.out, hlen, hc0.out, dS_next hh.out] at this
            rw [hc0.out]
            exact this)
          have hN9 := hide (hN.out.keep (w' := V.setCell ⟨gA, i * 5 + 4, none⟩ (.int .i64 (c0 : Int))) (heap_setCell_other V ⟨gA, i * 5 + 4, none⟩ GI _ (fun e => by have e' : GI = gA := e; omega)))
          have hbw := hide (hbel.setCell (p := ⟨gA, i * 5 + 4, none⟩) (by show w.heap.size ≤ gA; have := hwS.out; omega) (.int .i64 (c0 : Int)))
          replace x2 := hide x2
          replace he2 := hide he2
          replace hlen := hide hlen
          clear r2 r4
          go_wp2
          go_roundw
          case rel => exact ⟨i + 1, by go_num, hlti, hst9, hN9, hbw.out⟩
          case measure => simp [intOf]; omega
        · obtain rfl : i = N := by omega
          have hfin : Hid (OwnLp V w.heap.size (.slice A5 i C5) (loopsS sc O P a) es) := hide (by rw [← dS_end, ← hNe.out]; exact hrow.out.mono hwS.out)
          go_wp2
          go_ret
          exact ⟨_, es, rfl, hfin.out, hbel⟩
end Go.Proofs.Ytidjaohlaljmpaa
