/- memssa.Build. No condition but sizes. -/
import Derived.Test.YteeclobpajalmaaMsJ
namespace Go.Proofs.Yteeclobpajalmaa
open Go.RowKit
set_option linter.unusedSimpArgs false
set_option linter.unusedVariables false

def MBuildPost (f : Fun) (H : Nat → Bool) (O : List Int) (sc : Int → List Int) (P : List (List Int)) (n : Nat) (w : World) (e : Ending) (w' : World) : Prop :=
  ∃ v l es, e = .returned v ∧ (0 < n → IdomOk sc O n l) ∧ OwnAc w' w.heap.size w.heap.size v (if n = 0 then [] else builtA (laidA f.blocks H O n) l O P) es ∧ Below w.heap.size w w'
set_option maxRecDepth 100000 in
set_option maxHeartbeats 12800000 in
theorem mbuild_any (f : Fun) (c1 c2 : Value) (w : World) (B : Nat) (hB : B ≤ w.heap.size) (hf : RFun.rep w B [.string f.name, c1, .int .i64 f.ret, c2] f) (hsz : funSz f ≤ 2000000) :
    Calls Try.prog 11 #[f.v c1 c2] w (MBuildPost f (phF f) (orderF f.blocks) (succsF f.blocks) (predsL (succsF f.blocks) f.blocks.length) f.blocks.length w) := by
  have hs : Small f := small_of hsz
  unfold phF
  obtain ⟨hp, hb⟩ := fun_open (RFun.later hf (Below.refl _ _) hB)
  obtain ⟨A1, k1, h1, -, -⟩ := Rp.slice1_open hp
  obtain ⟨A2, k2, h2, hm2, -⟩ := Rp.slice1_open hb
  cases h1; cases h2
  clear hp hb
  obtain ⟨n, hn⟩ : ∃ n, Hid (n = f.blocks.length) := ⟨_, hide rfl⟩
  have hnle : n ≤ 2000000 := by rw [hn.out]; exact hs.blocks
  obtain ⟨O, hO⟩ : ∃ O, Hid (O = orderF f.blocks) := ⟨_, hide rfl⟩
  obtain ⟨sc, hsc⟩ : ∃ sc, Hid (sc = succsF f.blocks) := ⟨_, hide rfl⟩
  obtain ⟨R, hR⟩ : ∃ R, Hid (R = reachF f.blocks) := ⟨_, hide rfl⟩
  obtain ⟨P, hP⟩ : ∃ P, Hid (P = predsL sc n) := ⟨_, hide rfl⟩
  have hPl : P.length = n := by rw [hP.out, predsL_len]
  have hRl : R.length = n := by rw [hR.out, hn.out, reach_len]
  have hsok : Hid (∀ b, SuccOk n (sc b)) := hide (fun b => by rw [hsc.out, hn.out]; exact succsF_ok _ _)
  have hok : Hid (OrderOk n sc O) := hide (by rw [hO.out, hn.out, hsc.out]; exact order_ok _)
  have hol : O.length ≤ n := by rw [hO.out, hn.out]; exact order_len _
  have hRat : Hid (∀ k : Nat, k < n → R[k]? = some (decide ((k : Int) ∈ O))) := hide (fun k hk => by rw [hR.out, hO.out]; exact reach_at _ _ (by rw [← hn.out]; exact hk))
  rw [← hn.out, ← hO.out, ← hsc.out, ← hP.out]
  rw [← hn.out] at hf hm2
  obtain ⟨W, hW, hwW, hWs, hx⟩ := boxes1 w #[.string f.name, .slice A1 f.params.length k1, .int .i64 f.ret, .slice A2 n k2] 25
  have q0 : ∀ w', Below W.heap.size W w' → w'.cell? ⟨w.heap.size, 0, none⟩ = some (.string f.name) := hx 0 _ rfl
  have q1 : ∀ w', Below W.heap.size W w' → w'.cell? ⟨w.heap.size, 1, none⟩ = some (.slice A1 f.params.length k1) := hx 1 _ rfl
  have q2 : ∀ w', Below W.heap.size W w' → w'.cell? ⟨w.heap.size, 2, none⟩ = some (.int .i64 f.ret) := hx 2 _ rfl
  have q3 : ∀ w', Below W.heap.size W w' → w'.cell? ⟨w.heap.size, 3, none⟩ = some (.slice A2 n k2) := hx 3 _ rfl
  clear hx
  have hws : w.heap.size ≤ W.heap.size := by omega
  replace hWs := hide hWs
  have hself := Below.refl W.heap.size W
  have hF : Hid (∀ w', Below W.heap.size W w' → RFun.rep w' w'.heap.size [.string f.name, .slice A1 f.params.length k1, .int .i64 f.ret, .slice A2 n k2] f) := hide (fun w' h => RFun.later hf ((hwW.trans (h.mono hws)).mono hB) (Nat.le_trans hB (hwW.trans (h.mono hws)).size))
  have cP : Hid (∀ w', Below W.heap.size W w' → Calls Try.prog 36 #[f.v (.slice A1 f.params.length k1) (.slice A2 n k2)] w' (PredPost n P w')) := hide (fun w' h => by
    have := preds_any f (.slice A1 f.params.length k1) (.slice A2 n k2) w' w'.heap.size (Nat.le_refl _) (hF.out w' h) hs
    rwa [← hn.out, ← hsc.out, ← hP.out] at this)
  have cLy : Hid (∀ w', Below W.heap.size W w' → Calls Try.prog 34 #[f.v (.slice A1 f.params.length k1) (.slice A2 n k2)] w' (LayPost f (.slice A1 f.params.length k1) (.slice A2 n k2) f.blocks (phiB (startB f.blocks O) (frB sc O)) O n w')) := hide (fun w' h => by
    have := lay_any f (.slice A1 f.params.length k1) (.slice A2 n k2) w' w'.heap.size (Nat.le_refl _) (hF.out w' h) hsz
    rwa [← hn.out, ← hO.out, ← hsc.out] at this)
  have hfB : Hid (∀ w', Below W.heap.size W w' → RFun.rep w' W.heap.size [.string f.name, .slice A1 f.params.length k1, .int .i64 f.ret, .slice A2 n k2] f) := hide (fun w' h => RFun.later hf ((hwW.trans (h.mono hws)).mono hB) (Nat.le_trans hB hws))
  replace hs := hide hs
  replace hf := hide hf
  replace hwW := hide hwW
  obtain ⟨H, hH⟩ : ∃ H, Hid (H = phiB (startB f.blocks O) (frB sc O)) := ⟨_, hide rfl⟩
  rw [← hH.out] at cLy ⊢
  replace hW := hide hW
  obtain ⟨i0, hi0, hz0, hz1, hz2⟩ := cinfo_parts cinfo_int
  replace hi0 := hide hi0
  replace hz0 := hide hz0
  replace hz1 := hide hz1
  replace hz2 := hide hz2
  have hLm : Hid ((laidA f.blocks H O n).length ≤ 4000001) := hide (laidA_small hsz (by rw [hn.out]; exact Nat.le_refl _))
  go_enter Try.func11, Try.ntmps11
  go_upto_region 1 with (fail)
  rw [hW.out]
  clear hW
  go_wp2_with (fail)
  refine (cLy.out _ hself).mono ?_
  rintro e X1 ⟨Bo, gB, gp, gf, ge, vO, Lp, Lf, Le, rfl, hb, hlk, hb1⟩
  have p3 := q3 X1 hb1
  by_cases hn0 : n = 0
  · have hni : ((n : Int) == 0) = true := by rw [hn0]; rfl
    have hno : Hid (0 < n → IdomOk sc O n []) := hide (fun h => by omega)
    have hfin := hide (hwW.out.trans (hb1.mono hws))
    have hres : Hid (OwnAc X1 w.heap.size w.heap.size (.slice none 0 0) (if n = 0 then [] else builtA (laidA f.blocks H O n) [] O P) []) := hide (by rw [if_pos hn0]; exact OwnAc.nil_)
    replace hb := hide hb
    replace hn0 := hide hn0
    clear hlk
    go_wp2
    go_ret
    exact ⟨_, [], [], rfl, hno.out, hres.out, hfin.out⟩
  · have hni : ((n : Int) == 0) = false := by rw [beq_eq_false_iff_ne]; omega
    rw [if_neg hn0] at hb
    have hlk := hide (hlk (by omega))
    have cS := hide (stand_any f H O sc P n hn hO hsc A1 A2 k1 k2 X1 W.heap.size Bo gB gp gf ge vO Lp Lf Le hb1.size (hfB.out X1 hb1) hsz (by omega) hb hlk.out)
    replace hb := hide hb
    go_wp2_with (fail)
    refine cS.out.mono ?_
    rintro e X2 ⟨l, es, rfl, hI, hb2, hbw2⟩
    have hbW2 := hb1.trans hbw2
    have r0 := q0 X2 hbW2
    have r1 := q1 X2 hbW2
    have r2 := q2 X2 hbW2
    have r3 := q3 X2 hbW2
    replace hb2 := hide hb2
    replace hI := hide hI
    clear p3 hb cS hbw2 cLy
    go_wp2_with (fail)
    refine (cP.out _ hbW2).mono ?_
    rintro e X3 ⟨gP, csP, rfl, hLP, hb3⟩
    have hs3 := hb3.size
    have hsX2 := hbW2.size
    clear r0 r1 r2 r3 q0 q1 q2 q3 hself hF cP
    have hrw := hide (rows_only (S := fun q => W.heap.size ≤ q ∧ q < X2.heap.size) hLP hPl (fun q hq => hq.2))
    have hB3 := hide (hb2.out.below hb3)
    have hgl : gB < X2.heap.size ∧ gp < X2.heap.size ∧ ge < X2.heap.size := ⟨hb2.out.lt, hb2.out.p.lt.2, hb2.out.e.lt.2⟩
    have hgw : W.heap.size ≤ gB ∧ W.heap.size ≤ gp ∧ W.heap.size ≤ ge := ⟨hb2.out.low, hb2.out.p.lt.1, hb2.out.e.lt.1⟩
    have hbo := hb2.out.bo
    obtain ⟨Ao, Co, rfl⟩ := hb2.out.form
    have hsl : (stoodA (laidA f.blocks H O n) l O P).length = (laidA f.blocks H O n).length := stood_len
    obtain ⟨go, rfl⟩ : ∃ go, Ao = some ⟨go, 0, none⟩ := by
      obtain ⟨g, cap, hv, -, -⟩ := hb2.out.out.row.form (by rw [hsl]; exact laidA_pos n)
      simp only [Value.slice.injEq] at hv
      exact ⟨g, hv.1⟩
    obtain ⟨N, hN⟩ : ∃ N, Hid (N = (laidA f.blocks H O n).length) := ⟨_, hide rfl⟩
    have hNle : N ≤ 4000001 := by rw [hN.out]; exact hLm.out
    rw [hsl, ← hN.out] at hB3 hb2
    have hgo := row_lt hb2.out.out.row (k := go) rfl
    have hgoB : W.heap.size ≤ go ∧ go < X2.heap.size := ⟨Nat.le_trans hbo hgo.1, hgo.2.1⟩
    replace hgo := hide hgo
    have hPk := hide (phk_start (bs := f.blocks) (H := H) (o := O) (l := l) (P := P) (n := n))
    have hfar : Hid (∀ (i : Nat) (e : AcV) (q : Nat), es[i]? = some e → e.has q → q < X2.heap.size ∨ X3.heap.size ≤ q) := hide (fun i e q he hq => .inl (hb2.out.out.in_lt he hq).2.1)
    have hbfin : Hid (∀ w', Only (fun q => W.heap.size ≤ q ∧ q < X2.heap.size) X3.heap.size X3 w' → Below w.heap.size w w') := hide (fun w' h => hwW.out.trans (((hbW2.trans (hb3.mono hbW2.size)).mono hws).trans (h.to_below (fun q hq => by omega) (by omega))))
    have hon0 : Only (fun q => W.heap.size ≤ q ∧ q < X2.heap.size) X3.heap.size X3 X3 := Only.refl _ _ _
    have hendE : Hid (∀ b : Nat, b < n → (endsL (laidA f.blocks H O n) l O n)[b]? = some (if (b : Int) ∈ O then endF (laidA f.blocks H O n) l O b else -1)) := hide (fun b hb => ends_at hb)
    have hendb : Hid (∀ b : Nat, (b : Int) ∈ O → 0 ≤ endF (laidA f.blocks H O n) l O b ∧ endF (laidA f.blocks H O n) l O b < (laidA f.blocks H O n).length) := hide (fun b hb => endF_bound hI.out hok.out (laidA_pos n) hb)
    obtain ⟨E, hE⟩ : ∃ E, Hid (E = endsL (laidA f.blocks H O n) l O n) := ⟨_, hide rfl⟩
    rw [← hE.out] at hB3 hendE
    have hPm : Hid (∀ (k : Nat) p, P[k]? = some p → p.length ≤ 2000000 ∧ ∀ x, x ∈ p → 0 ≤ x ∧ x < n) := hide (fun k p hk => by
      rw [hP.out] at hk
      have hin : ∀ x, x ∈ p → 0 ≤ x ∧ x < n := fun x hx => by
        obtain ⟨h1, h2, -⟩ := (predsL_mem hk x).1 hx
        exact ⟨h1, h2⟩
      have := range_len n p ((predsL_sorted hk).imp fun h => by omega) hin
      exact ⟨by omega, hin⟩)
    clear hLP hb2 hb3 hb1
    go_wp2
    go_loopg [20] n (fun g s wr => ∃ (k : Nat) (ls : List Ac) (es : List AcV), s = .int .i64 k ∧ Hid (g + k = n) ∧ Hid (Bld wr W.heap.size Bo gB gp gf ge (.string f.name) (.slice A1 f.params.length k1) (.int .i64 f.ret) (.slice A2 n k2) (.slice (some ⟨go, 0, none⟩) N Co) n ls es Lp Lf E) ∧ Hid (PhK f.blocks H O l P n k ls) ∧ Hid (∀ (i : Nat) (e : AcV) (q : Nat), es[i]? = some e → e.has q → q < X2.heap.size ∨ X3.heap.size ≤ q) ∧ Only (fun q => W.heap.size ≤ q ∧ q < X2.heap.size) X3.heap.size X3 wr)
    case atStart => exact ⟨0, _, es, rfl, hide rfl, hB3, hPk, hfar, hon0⟩
    case round =>
      clear hB3 hPk hfar hon0
      rename World => V0
      obtain ⟨k, ls, es, rfl, hg, hBv, hPk, hfar, hon⟩ := hrel
      have hk : k ≤ n := by have := hg.out; omega
      by_cases hlt : k < n
      · have hki : (k : Int) < (n : Int) := by omega
        obtain ⟨g', hg'⟩ : ∃ g', Hid (g' + (k + 1) = n) := ⟨n - (k + 1), hide (by omega)⟩
        have hgg : Hid (g' < gk) := hide (by have := hg'.out; have := hg.out; omega)
        have hpv := hlk.out.p k hlt
        obtain ⟨p, hp⟩ := get_ex (l := P) (k := k) (by omega)
        obtain ⟨hpl, hpm⟩ := hPm.out k p hp.out
        obtain ⟨Ap, Cp, ht1, ht2⟩ := hrw.out k p hp.out
        have ht1' := ht1 V0 hon
        obtain ⟨-, -, -, -, y4, y5, -, y7⟩ := hBv.out.cells
        by_cases hph : (k : Int) ∈ O ∧ H k = true
        · rw [if_pos hph] at hpv
          obtain ⟨F, hF⟩ : ∃ F, Hid (F = offA f.blocks H O k) := ⟨_, hide rfl⟩
          have hFv : Lp[k]? = some (F : Int) := by rw [hF.out]; exact hpv
          have s1 := hBv.out.p.cell hFv
          have hFN : F < N := by
            rw [hF.out, hN.out]
            exact (List.getElem?_eq_some_iff.1 (seg_phi (bs := f.blocks) hlt hph.1 hph.2)).1
          have hFi : (F : Int) < (N : Int) := by omega
          have hFn : ¬ ((F : Int) < 0) := by omega
          have hph' := hide hph
          have hlsF : Hid (ls[F]? = some ⟨3, k, -1, (fromP O p 0).map fun q => endF (laidA f.blocks H O n) l O q.toNat, fromP O p 0⟩) := hide (by rw [hF.out]; exact phk_at hPk.out hlt hph.1 hph.2)
          replace hpv := hide hpv
          replace hFv := hide hFv
          replace hpm := hide hpm
          replace ht2 := hide ht2
          replace ht1 := hide ht1
          clear hph
          go_upto_region 9 with (fail)
          go_cut [6] (fun s wx => s = .pointer (some ⟨go, F * 5, none⟩) ∧ SameW V0 wx)
          case first =>
            go_quiet (fail)
            go_wp2
            go_meet
            exact ⟨by first | rfl | simp, rfl, rfl, rfl, rfl⟩
          case rest =>
            obtain ⟨rfl, hsw⟩ := hcut
            rename World => V1
            have ho1 : Only (fun q => W.heap.size ≤ q ∧ q < X2.heap.size) X3.heap.size X3 V1 := hsw.only hon
            have hB1 : Hid (Bld V1 W.heap.size Bo gB gp gf ge (.string f.name) (.slice A1 f.params.length k1) (.int .i64 f.ret) (.slice A2 n k2) (.slice (some ⟨go, 0, none⟩) N Co) n ls es Lp Lf E) := hide (hBv.out.of_heap fun q _ _ => by rw [hsw.1])
            clear y4 y5 y7 s1 hBv hon hsw ht1'
            have hls0 : Hid (∀ j, j ≠ F → ls[j]? = ls[j]?) := hide (fun j _ => rfl)
            obtain ⟨ls0, hls9⟩ : ∃ ls0, Hid (ls0 = ls) := ⟨_, hide rfl⟩
            have hrel0 : Hid (ls = ls0.set F ⟨3, k, -1, (fromP O p 0).map fun q => endF (laidA f.blocks H O n) l O q.toNat, fromP O p 0⟩) := hide (by
              rw [hls9.out]
              refine List.ext_getElem? fun j => ?_
              by_cases e : F = j
              · subst e
                rw [List.getElem?_set_self (List.getElem?_eq_some_iff.1 hlsF.out).1]
                exact hlsF.out
              · rw [List.getElem?_set_ne e])
            go_wp2
            go_loopg [47] p.length (fun g s wr => ∃ (i : Nat) (ls : List Ac) (es : List AcV), s = .int .i64 i ∧ Hid (g + i = p.length) ∧ Hid (Bld wr W.heap.size Bo gB gp gf ge (.string f.name) (.slice A1 f.params.length k1) (.int .i64 f.ret) (.slice A2 n k2) (.slice (some ⟨go, 0, none⟩) N Co) n ls es Lp Lf E) ∧ Hid (ls = ls0.set F ⟨3, k, -1, (fromP O p i).map fun q => endF (laidA f.blocks H O n) l O q.toNat, fromP O p i⟩) ∧ Hid (∀ (i : Nat) (e : AcV) (q : Nat), es[i]? = some e → e.has q → q < X2.heap.size ∨ X3.heap.size ≤ q) ∧ Only (fun q => W.heap.size ≤ q ∧ q < X2.heap.size) X3.heap.size X3 wr)
            case atStart => exact ⟨0, ls, es, rfl, hide rfl, hB1, hrel0, hfar, ho1⟩
            case round =>
              obtain ⟨gk0, hgk0⟩ : ∃ gk0, Hid (gk0 = gk) := ⟨_, hide rfl⟩
              have hls0l : F < ls0.length := by rw [hls9.out]; exact (List.getElem?_eq_some_iff.1 hlsF.out).1
              clear hB1 hrel0 hfar ho1 hls0 hlsF
              rename World => V2
              obtain ⟨i, ls, es, rfl, hgi, hBv, hrl, hfar, hon⟩ := hrel
              have hir : i ≤ p.length := by have := hgi.out; omega
              by_cases hlti : i < p.length
              · have hii : (i : Int) < (p.length : Int) := by omega
                obtain ⟨g2, hg2⟩ : ∃ g2, Hid (g2 + (i + 1) = p.length) := ⟨p.length - (i + 1), hide (by omega)⟩
                have hgg2 : Hid (g2 < gk) := hide (by have := hg2.out; have := hgi.out; omega)
                obtain ⟨px, hpx⟩ := get_ex (l := p) (k := i) hlti
                obtain ⟨hp0, hp1⟩ := hpm.out px (List.mem_of_getElem? hpx.out)
                obtain ⟨p0, rfl⟩ := Int.eq_ofNat_of_zero_le hp0
                have hp0n : p0 < n := by omega
                obtain ⟨g5, hg5, rx⟩ := ht2.out (by omega)
                subst hg5
                have rx0 := rx i _ hpx.out V2 hon
                clear rx
                have hstep := fromP_step (o := O) hpx.out
                obtain ⟨-, -, -, -, -, -, -, y7⟩ := hBv.out.cells
                have hev := hendE.out p0 hp0n
                by_cases hpo : (p0 : Int) ∈ O
                · rw [if_pos hpo] at hev hstep
                  obtain ⟨z0, hz9⟩ : ∃ z0, Hid (z0 = endF (laidA f.blocks H O n) l O p0) := ⟨_, hide rfl⟩
                  rw [← hz9.out] at hev
                  obtain ⟨hzb1, hzb2⟩ := hendb.out p0 hpo
                  rw [← hz9.out] at hzb1 hzb2
                  have hzge : z0 ≥ 0 := hzb1
                  have s1 := hBv.out.e.cell hev
                  obtain ⟨lf, hlf⟩ : ∃ lf, Hid (lf = fromP O p i) := ⟨_, hide rfl⟩
                  obtain ⟨ld, hld⟩ : ∃ ld, Hid (ld = (fromP O p i).map fun q => endF (laidA f.blocks H O n) l O q.toNat) := ⟨_, hide rfl⟩
                  have hlfl : lf.length ≤ 2000000 := by rw [hlf.out]; exact Nat.le_trans fromP_len hpl
                  have hldl : ld.length ≤ 2000000 := by rw [hld.out, List.length_map]; exact Nat.le_trans fromP_len hpl
                  have hnf : Hid (fromP O p (i + 1) = lf ++ [(p0 : Int)]) := hide (by rw [hstep, hlf.out])
                  have hnd : Hid ((fromP O p (i + 1)).map (fun q => endF (laidA f.blocks H O n) l O q.toNat) = ld ++ [z0]) := hide (by rw [hstep, List.map_append, hld.out, hz9.out]; rfl)
                  rw [← hlf.out] at hrl
                  rw [show (lf.map fun q => endF (laidA f.blocks H O n) l O q.toNat) = ld by rw [hlf.out, hld.out]] at hrl
                  have hlsF : ls[F]? = some ⟨3, k, -1, ld, lf⟩ := by rw [hrl.out]; exact List.getElem?_set_self hls0l
                  obtain ⟨⟨ed, ef⟩, he⟩ := hBv.out.out.at_ hlsF
                  obtain ⟨-, -, -, w3, w4⟩ := hBv.out.out.cells hlsF he
                  obtain ⟨hdI, hfI⟩ := hBv.out.out.inn F _ _ hlsF he
                  obtain ⟨Ad, Cd, hed⟩ := row_form hdI.row
                  obtain ⟨Af, Cf, hef⟩ := row_form hfI.row
                  have hed : ed = _ := hed
                  have hef : ef = _ := hef
                  subst hed
                  subst hef
                  obtain ⟨e, hee⟩ : ∃ e : AcV, e = ⟨.slice Ad ld.length Cd, .slice Af lf.length Cf⟩ := ⟨_, rfl⟩
                  have hM00 := Mid.start hBv.out.out hlsF he
                  rw [← hee] at he hM00
                  have hgoL := row_lt hBv.out.out.row (k := go) rfl
                  obtain ⟨-, hgo2, cg, hgo3⟩ := hgoL
                  have hne1 : ¬ e.has go := fun hh => by
                    obtain ⟨-, -, c, hc⟩ := hBv.out.out.in_lt he hh
                    exact blk_ne hc hgo3 (by decide) rfl
                  have hne2 : ¬ e.has gB := fun hh => by
                    obtain ⟨-, -, c, hc⟩ := hBv.out.out.in_lt he hh
                    exact blk_ne hc hBv.out.box (by decide) rfl
                  have hne3 : ¬ e.has ge := fun hh => (hBv.out.sep F e ge he hh).2.2 rfl
                  have c3 : ∀ u, Only (fun q => e.has q) V2.heap.size V2 u → u.cell? ⟨go, F * 5 + 3, none⟩ = some (.slice Ad ld.length Cd) := Only.fact w3 hgo2 hne1
                  have c4 : ∀ u, Only (fun q => e.has q) V2.heap.size V2 u → u.cell? ⟨go, F * 5 + 4, none⟩ = some (.slice Af lf.length Cf) := Only.fact w4 hgo2 hne1
                  have k3 : ∀ u, Only (fun q => e.has q) V2.heap.size V2 u → u.frozen? ⟨go, F * 5 + 3, none⟩ = false := Only.free (hBv.out.out.frozen _) hgo2 hne1
                  have k4 : ∀ u, Only (fun q => e.has q) V2.heap.size V2 u → u.frozen? ⟨go, F * 5 + 4, none⟩ = false := Only.free (hBv.out.out.frozen _) hgo2 hne1
                  have c7 : ∀ u, Only (fun q => e.has q) V2.heap.size V2 u → u.cell? ⟨gB, 7, none⟩ = some (.slice (some ⟨ge, 0, none⟩) n n) := Only.fact y7 hBv.out.lt hne2
                  have ce : ∀ u, Only (fun q => e.has q) V2.heap.size V2 u → u.cell? ⟨ge, p0, none⟩ = some (.int .i64 z0) := Only.fact s1 hBv.out.e.lt.2 hne3
                  have hpI : Hid (I64 (p0 : Int)) := hide (i64_mk (by omega) (by omega))
                  have hzI : Hid (I64 z0) := hide (by have := hN.out; exact i64_mk (by omega) (by omega))
                  have hBoV : Bo ≤ V2.heap.size := by have h1 := hBv.out.out.row; have := (row_lt h1 (k := go) rfl).1; omega
                  have hfin2 : Hid (∀ (u : World) (vf vd : Value), Mid V2 u e Bo vf vd (lf ++ [(p0 : Int)]) (ld ++ [z0]) → ∃ es', Bld ((u.setCell ⟨go, F * 5 + 4, none⟩ vf).setCell ⟨go, F * 5 + 3, none⟩ vd) W.heap.size Bo gB gp gf ge (.string f.name) (.slice A1 f.params.length k1) (.int .i64 f.ret) (.slice A2 n k2) (.slice (some ⟨go, 0, none⟩) N Co) n (ls.set F ⟨3, k, -1, ld ++ [z0], lf ++ [(p0 : Int)]⟩) es' Lp Lf E ∧ (∀ (i : Nat) (e : AcV) (q : Nat), es'[i]? = some e → e.has q → q < X2.heap.size ∨ X3.heap.size ≤ q) ∧ Only (fun q => W.heap.size ≤ q ∧ q < X2.heap.size) X3.heap.size X3 ((u.setCell ⟨go, F * 5 + 4, none⟩ vf).setCell ⟨go, F * 5 + 3, none⟩ vd)) := hide (fun u vf vd hm => by
                    have hV3 := hon.size
                    refine ⟨_, hBv.out.both hlsF he hm, fun j e' q hj hq => ?_, ?_⟩
                    · by_cases e2 : F = j
                      · subst e2
                        rw [List.getElem?_set_self (List.getElem?_eq_some_iff.1 he).1] at hj
                        cases hj
                        have h6 : e.has q ∨ V2.heap.size ≤ q := by
                          rcases hq with hq | hq
                          · exact hm.frd q hq
                          · exact hm.frf q hq
                        rcases h6 with h6 | h6
                        · exact hfar.out F e q he h6
                        · exact .inr (by omega)
                      · rw [List.getElem?_set_ne e2] at hj
                        exact hfar.out j e' q hj hq
                    · have h9 : Only (fun q => W.heap.size ≤ q ∧ q < X2.heap.size) X3.heap.size X3 u := hon.trans ((hm.on.more (S' := fun q => W.heap.size ≤ q ∧ q < X2.heap.size ∨ X3.heap.size ≤ q) fun q hq1 hq2 => by
                        have h1 := hBv.out.out.in_lt he hq2
                        rcases hfar.out F e q he hq2 with h2 | h2
                        · exact .inl ⟨by omega, h2⟩
                        · exact .inr h2).cut_ hV3)
                      exact (h9.setCell (.inl hgoB) _).setCell (.inl hgoB) _)
                  rw [hee] at hM00
                  have hM00 : Mid V2 V2 e Bo (.slice Af lf.length Cf) (.slice Ad ld.length Cd) lf ld := by rw [hee]; exact hM00
                  replace he := hide he
                  replace hee := hide hee
                  replace hlsF := hide hlsF
                  replace hM00 := hide hM00
                  replace hBv := hide hBv
                  replace hrl := hide hrl
                  replace hdI := hide hdI
                  replace hfI := hide hfI
                  replace hev := hide hev
                  replace hstep := hide hstep
                  go_upto_region 14 with (fail)
                  clear y7 s1 w3 w4 rx0
                  refine wp_region_U (S := fun u => Only (fun q => e.has q) V2.heap.size V2 u) (T := fun j => !(j == 1 || decide (22 ≤ j))) (by kernel_rfl) ?_
                  obtain ⟨U0, hU0⟩ : ∃ U0, Hid (V2.drew = U0) := ⟨_, hide rfl⟩
                  have hM0 : Hid (Mid V2 U0 e Bo (.slice Af lf.length Cf) (.slice Ad ld.length Cd) lf ld) := hide (by rw [← hU0.out]; exact hM00.out.drew)
                  rw [hU0.out]
                  refine wpAnyU_takeY (i := 1) (v := ?_) (by simp only [List.getElem?_toArray, List.getElem?_cons_succ, List.getElem?_cons_zero]; rfl) (by kernel_rfl) (by kernel_rfl) (by kernel_rfl) (by rfl) (by exact fun _ _ _ h => h) (Or.inl ⟨by rfl, ?_⟩) ?_
                  rotate_left
                  · intro w9 hSw
                    go_simp
                    all_goals with_reducible rfl
                  try simp only [Act.put, List.setIfInBounds_toArray, List.set_cons_zero, List.set_cons_succ]
                  refine wpAnyU_take (i := 0) (v := ?_) (by simp only [List.getElem?_toArray, List.getElem?_cons_succ, List.getElem?_cons_zero]; rfl) (by kernel_rfl) (by kernel_rfl) (by kernel_rfl) (by kernel_rfl) (by exact fun _ _ _ h => h) (Or.inl ⟨by rfl, ?_⟩) (by exact hM0.out.on) ?_
                  rotate_left
                  · intro w9 hSw
                    go_simp
                    all_goals with_reducible rfl
                  try simp only [Act.put, List.setIfInBounds_toArray, List.set_cons_zero, List.set_cons_succ]
                  refine wpAnyU_take (i := 2) (v := ?_) (by simp only [List.getElem?_toArray, List.getElem?_cons_succ, List.getElem?_cons_zero]; rfl) (by kernel_rfl) (by kernel_rfl) (by kernel_rfl) (by kernel_rfl) (by exact fun _ _ _ h => h) (Or.inl ⟨by rfl, ?_⟩) (by exact hM0.out.on) ?_
                  rotate_left
                  · intro w9 hSw
                    go_simp
                    all_goals with_reducible rfl
                  try simp only [Act.put, List.setIfInBounds_toArray, List.set_cons_zero, List.set_cons_succ]
                  refine wpAnyU_take (i := 3) (v := ?_) (by simp only [List.getElem?_toArray, List.getElem?_cons_succ, List.getElem?_cons_zero]; rfl) (by kernel_rfl) (by kernel_rfl) (by kernel_rfl) (by kernel_rfl) (by exact fun _ _ _ h => h) (Or.inl ⟨by rfl, ?_⟩) (by exact hM0.out.on) ?_
                  rotate_left
                  · intro w9 hSw
                    go_simp
                    all_goals with_reducible rfl
                  try simp only [Act.put, List.setIfInBounds_toArray, List.set_cons_zero, List.set_cons_succ]
                  refine wpAnyU_take (i := 4) (v := ?_) (by simp only [List.getElem?_toArray, List.getElem?_cons_succ, List.getElem?_cons_zero]; rfl) (by kernel_rfl) (by kernel_rfl) (by kernel_rfl) (by kernel_rfl) (by exact fun _ _ _ h => h) (Or.inl ⟨by rfl, ?_⟩) (by exact hM0.out.on) ?_
                  rotate_left
                  · intro w9 hSw
                    go_simp
                    all_goals with_reducible rfl
                  try simp only [Act.put, List.setIfInBounds_toArray, List.set_cons_zero, List.set_cons_succ]
                  refine wpAnyU_take (i := 5) (v := ?_) (by simp only [List.getElem?_toArray, List.getElem?_cons_succ, List.getElem?_cons_zero]; rfl) (by kernel_rfl) (by kernel_rfl) (by kernel_rfl) (by kernel_rfl) (by exact fun _ _ _ h => h) (Or.inl ⟨by rfl, ?_⟩) (by exact hM0.out.on) ?_
                  rotate_left
                  · intro w9 hSw
                    go_simp
                    all_goals with_reducible rfl
                  try simp only [Act.put, List.setIfInBounds_toArray, List.set_cons_zero, List.set_cons_succ]
                  refine wpAnyU_take (i := 6) (v := ?_) (by simp only [List.getElem?_toArray, List.getElem?_cons_succ, List.getElem?_cons_zero]; rfl) (by kernel_rfl) (by kernel_rfl) (by kernel_rfl) (by kernel_rfl) (by exact fun _ _ _ h => h) (Or.inl ⟨by rfl, ?_⟩) (by exact hM0.out.on) ?_
                  rotate_left
                  · intro w9 hSw
                    go_simp
                    all_goals with_reducible rfl
                  try simp only [Act.put, List.setIfInBounds_toArray, List.set_cons_zero, List.set_cons_succ]
                  refine wpAnyU_take (i := 9) (v := ?_) (by simp only [List.getElem?_toArray, List.getElem?_cons_succ, List.getElem?_cons_zero]; rfl) (by kernel_rfl) (by kernel_rfl) (by kernel_rfl) (by kernel_rfl) (by exact fun _ _ _ h => h) (Or.inl ⟨by rfl, ?_⟩) (by exact hM0.out.on) ?_
                  rotate_left
                  · intro w9 hSw
                    go_simp
                    all_goals with_reducible rfl
                  try simp only [Act.put, List.setIfInBounds_toArray, List.set_cons_zero, List.set_cons_succ]
                  refine wpAnyU_take (i := 10) (v := ?_) (by simp only [List.getElem?_toArray, List.getElem?_cons_succ, List.getElem?_cons_zero]; rfl) (by kernel_rfl) (by kernel_rfl) (by kernel_rfl) (by kernel_rfl) (by exact fun _ _ _ h => h) (Or.inl ⟨by rfl, ?_⟩) (by exact hM0.out.on) ?_
                  rotate_left
                  · intro w9 hSw
                    go_simp
                    all_goals with_reducible rfl
                  try simp only [Act.put, List.setIfInBounds_toArray, List.set_cons_zero, List.set_cons_succ]
                  refine wpAnyU_take (i := 11) (v := ?_) (by simp only [List.getElem?_toArray, List.getElem?_cons_succ, List.getElem?_cons_zero]; rfl) (by kernel_rfl) (by kernel_rfl) (by kernel_rfl) (by kernel_rfl) (by exact fun _ _ _ h => h) (Or.inl ⟨by rfl, ?_⟩) (by exact hM0.out.on) ?_
                  rotate_left
                  · intro w9 hSw
                    go_simp
                    all_goals with_reducible rfl
                  try simp only [Act.put, List.setIfInBounds_toArray, List.set_cons_zero, List.set_cons_succ]
                  refine wpAnyU_take (i := 12) (v := ?_) (by simp only [List.getElem?_toArray, List.getElem?_cons_succ, List.getElem?_cons_zero]; rfl) (by kernel_rfl) (by kernel_rfl) (by kernel_rfl) (by kernel_rfl) (by exact fun _ _ _ h => h) (Or.inl ⟨by rfl, ?_⟩) (by exact hM0.out.on) ?_
                  rotate_left
                  · intro w9 hSw
                    go_simp
                    all_goals with_reducible rfl
                  try simp only [Act.put, List.setIfInBounds_toArray, List.set_cons_zero, List.set_cons_succ]
                  refine wpAnyU_take (i := 13) (v := ?_) (by simp only [List.getElem?_toArray, List.getElem?_cons_succ, List.getElem?_cons_zero]; rfl) (by kernel_rfl) (by kernel_rfl) (by kernel_rfl) (by kernel_rfl) (by exact fun _ _ _ h => h) (Or.inl ⟨by rfl, ?_⟩) (by exact hM0.out.on) ?_
                  rotate_left
                  · intro w9 hSw
                    go_simp
                    all_goals with_reducible rfl
                  try simp only [Act.put, List.setIfInBounds_toArray, List.set_cons_zero, List.set_cons_succ]
                  refine wpAnyU_take (i := 14) (v := ?_) (by simp only [List.getElem?_toArray, List.getElem?_cons_succ, List.getElem?_cons_zero]; rfl) (by kernel_rfl) (by kernel_rfl) (by kernel_rfl) (by kernel_rfl) (by exact fun _ _ _ h => h) (Or.inl ⟨by rfl, ?_⟩) (by exact hM0.out.on) ?_
                  rotate_left
                  · intro w9 hSw
                    go_simp
                    all_goals with_reducible rfl
                  try simp only [Act.put, List.setIfInBounds_toArray, List.set_cons_zero, List.set_cons_succ]
                  refine wpAnyU_take (i := 15) (v := ?_) (by simp only [List.getElem?_toArray, List.getElem?_cons_succ, List.getElem?_cons_zero]; rfl) (by kernel_rfl) (by kernel_rfl) (by kernel_rfl) (by kernel_rfl) (by exact fun _ _ _ h => h) (Or.inl ⟨by rfl, ?_⟩) (by exact hM0.out.on) ?_
                  rotate_left
                  · intro w9 hSw
                    go_simp
                    all_goals with_reducible rfl
                  try simp only [Act.put, List.setIfInBounds_toArray, List.set_cons_zero, List.set_cons_succ]
                  refine wpAnyU_take (i := 16) (v := ?_) (by simp only [List.getElem?_toArray, List.getElem?_cons_succ, List.getElem?_cons_zero]; rfl) (by kernel_rfl) (by kernel_rfl) (by kernel_rfl) (by kernel_rfl) (by exact fun _ _ _ h => h) (Or.inl ⟨by rfl, ?_⟩) (by exact hM0.out.on) ?_
                  rotate_left
                  · intro w9 hSw
                    go_simp
                    all_goals with_reducible rfl
                  try simp only [Act.put, List.setIfInBounds_toArray, List.set_cons_zero, List.set_cons_succ]
                  refine wpAnyU_take (i := 17) (v := ?_) (by simp only [List.getElem?_toArray, List.getElem?_cons_succ, List.getElem?_cons_zero]; rfl) (by kernel_rfl) (by kernel_rfl) (by kernel_rfl) (by kernel_rfl) (by exact fun _ _ _ h => h) (Or.inl ⟨by rfl, ?_⟩) (by exact hM0.out.on) ?_
                  rotate_left
                  · intro w9 hSw
                    go_simp
                    all_goals with_reducible rfl
                  try simp only [Act.put, List.setIfInBounds_toArray, List.set_cons_zero, List.set_cons_succ]
                  refine wpAnyU_take (i := 18) (v := ?_) (by simp only [List.getElem?_toArray, List.getElem?_cons_succ, List.getElem?_cons_zero]; rfl) (by kernel_rfl) (by kernel_rfl) (by kernel_rfl) (by kernel_rfl) (by exact fun _ _ _ h => h) (Or.inl ⟨by rfl, ?_⟩) (by exact hM0.out.on) ?_
                  rotate_left
                  · intro w9 hSw
                    go_simp
                    all_goals with_reducible rfl
                  try simp only [Act.put, List.setIfInBounds_toArray, List.set_cons_zero, List.set_cons_succ]
                  refine wpAnyU_take (i := 19) (v := ?_) (by simp only [List.getElem?_toArray, List.getElem?_cons_succ, List.getElem?_cons_zero]; rfl) (by kernel_rfl) (by kernel_rfl) (by kernel_rfl) (by kernel_rfl) (by exact fun _ _ _ h => h) (Or.inl ⟨by rfl, ?_⟩) (by exact hM0.out.on) ?_
                  rotate_left
                  · intro w9 hSw
                    go_simp
                    all_goals with_reducible rfl
                  try simp only [Act.put, List.setIfInBounds_toArray, List.set_cons_zero, List.set_cons_succ]
                  refine wpAnyU_ready (rs := [7, 20]) (by kernel_rfl) (by simp) ?_
                  refine AllReadyU.cons (by simp only [List.getElem?_toArray, List.getElem?_cons_succ, List.getElem?_cons_zero]; rfl) (fun K hK => ?_) ?_
                  · go_simp
                    obtain ⟨hM1, hNf1⟩ := hM0.out.alloc (p0 : Int)
                    obtain ⟨gn1, hgn1⟩ : ∃ gn1, Hid (U0.heap.size = gn1) := ⟨_, hide rfl⟩
                    rw [hgn1.out] at hNf1 ⊢
                    obtain ⟨U1, hU1⟩ : ∃ U1, Hid (U0.alloc (.cells #[.int .i64 (p0 : Int)] 3) = U1) := ⟨_, hide rfl⟩
                    rw [hU1.out] at hM1 hNf1 ⊢
                    have hNf := hide hNf1
                    replace hM1 := hide hM1
                    clear hNf1
                    refine hK.out _ _ (fun _ => hM1.out.on) ?_
                    clear hK K
                    try simp only [Act.put, List.setIfInBounds_toArray, List.set_cons_zero, List.set_cons_succ]
                    refine wpAnyU_ready (rs := [8, 20]) (by kernel_rfl) (by simp) ?_
                    refine AllReadyU.cons (by simp only [List.getElem?_toArray, List.getElem?_cons_succ, List.getElem?_cons_zero]; rfl) (fun K hK => ?_) ?_
                    · skip
                      refine step_append_lies U1 rfl (.tmp 64) (.tmp 66) _ rfl Bo 3 i0 _ 1 8 Try.underlying22 hi0.out hz0.out hz1.out hz2.out rfl (by omega) (.slice Af lf.length Cf) _ _ rfl hM1.out.f.row ⟨gn1, 0, none⟩ 1 1 [.int .i64 (p0 : Int)] rfl rfl ?c1 ?c2 (by omega) ?c3 ?c4 ?c5 U1.heap.size rfl ?_
                      case c1 => exact World.news_of_block (cs := #[.int .i64 (p0 : Int)]) (t := 3) (fr := (0, 0)) hNf.out.blk
                      case c2 => simp [Value.oneCell']
                      case c3 => unfold maxLen; omega
                      case c4 => omega
                      case c5 => have := hM1.out.on.size; omega
                      intro qf cqf U2 hown hgr hq hlt9
                      have hM2 := hide (hM1.out.appf hpI.out hown hgr hq)
                      clear hown hgr hq hlt9
                      refine hK.out _ _ (fun _ => hM2.out.on) ?_
                      clear hK K
                      try simp only [Act.put, List.setIfInBounds_toArray, List.set_cons_zero, List.set_cons_succ]
                      refine wpAnyU_ready (rs := [20]) (by kernel_rfl) (by simp) ?_
                      refine AllReadyU.cons (by simp only [List.getElem?_toArray, List.getElem?_cons_succ, List.getElem?_cons_zero]; rfl) (fun K hK => ?_) ?_
                      · go_simp
                        obtain ⟨hM3, hNd3⟩ := hM2.out.alloc z0
                        obtain ⟨gn2, hgn2⟩ : ∃ gn2, Hid (U2.heap.size = gn2) := ⟨_, hide rfl⟩
                        rw [hgn2.out] at hNd3 ⊢
                        obtain ⟨U3, hU3⟩ : ∃ U3, Hid (U2.alloc (.cells #[.int .i64 z0] 3) = U3) := ⟨_, hide rfl⟩
                        rw [hU3.out] at hM3 hNd3 ⊢
                        have hNd := hide hNd3
                        replace hM3 := hide hM3
                        clear hNd3
                        refine hK.out _ _ (fun _ => hM3.out.on) ?_
                        clear hK K
                        try simp only [Act.put, List.setIfInBounds_toArray, List.set_cons_zero, List.set_cons_succ]
                        refine wpAnyU_ready (rs := [21]) (by kernel_rfl) (by simp) ?_
                        refine AllReadyU.cons (by simp only [List.getElem?_toArray, List.getElem?_cons_succ, List.getElem?_cons_zero]; rfl) (fun K hK => ?_) ?_
                        · skip
                          refine step_append_lies U3 rfl (.tmp 71) (.tmp 79) _ rfl Bo 3 i0 _ 1 8 Try.underlying22 hi0.out hz0.out hz1.out hz2.out rfl (by omega) (.slice Ad ld.length Cd) _ _ rfl hM3.out.d.row ⟨gn2, 0, none⟩ 1 1 [.int .i64 z0] rfl rfl ?c1 ?c2 (by omega) ?c3 ?c4 ?c5 U3.heap.size rfl ?_
                          case c1 => exact World.news_of_block (cs := #[.int .i64 z0]) (t := 3) (fr := (0, 0)) hNd.out.blk
                          case c2 => simp [Value.oneCell']
                          case c3 => unfold maxLen; omega
                          case c4 => omega
                          case c5 => have := hM3.out.on.size; omega
                          intro qd cqd U4 hown hgr hq hlt9
                          have hM4 := hide (hM3.out.appd hzI.out hown hgr hq)
                          clear hown hgr hq hlt9
                          refine hK.out _ _ (fun _ => hM4.out.on) ?_
                          clear hK K
                          try simp only [Act.put, List.setIfInBounds_toArray, List.set_cons_zero, List.set_cons_succ]
                          refine wpAnyU_takeY (i := 22) (v := ?_) (by simp only [List.getElem?_toArray, List.getElem?_cons_succ, List.getElem?_cons_zero]; rfl) (by kernel_rfl) (by kernel_rfl) (by kernel_rfl) (by rfl) (by exact fun _ _ _ h => h) (Or.inl ⟨by rfl, ?_⟩) ?_
                          rotate_left
                          · intro w9 hSw
                            go_simp
                            all_goals with_reducible rfl
                          try simp only [Act.put, List.setIfInBounds_toArray, List.set_cons_zero, List.set_cons_succ]
                          refine wpAnyU_takeY (i := 23) (v := ?_) (by simp only [List.getElem?_toArray, List.getElem?_cons_succ, List.getElem?_cons_zero]; rfl) (by kernel_rfl) (by kernel_rfl) (by kernel_rfl) (by rfl) (by exact fun _ _ _ h => h) (Or.inl ⟨by rfl, ?_⟩) ?_
                          rotate_left
                          · intro w9 hSw
                            go_simp
                            all_goals with_reducible rfl
                          try simp only [Act.put, List.setIfInBounds_toArray, List.set_cons_zero, List.set_cons_succ]
                          have d3 := c3 U4 hM4.out.on
                          have d4 := c4 U4 hM4.out.on
                          have l3 := k3 U4 hM4.out.on
                          have l4 := k4 U4 hM4.out.on
                          obtain ⟨es', hBn, hfn, hon4⟩ := hfin2.out U4 _ _ hM4.out
                          refine wpAnyU_ready (rs := [24]) (by kernel_rfl) (by simp) ?_
                          refine AllReadyU.cons (by simp only [List.getElem?_toArray, List.getElem?_cons_succ, List.getElem?_cons_zero]; rfl) (fun K hK => ?_) ?_
                          · go_simp
                            refine hK.out _ _ (fun h => absurd h (by decide)) ?_
                            clear hK K
                            try simp only [Act.put, List.setIfInBounds_toArray, List.set_cons_zero, List.set_cons_succ]
                            refine wpAnyU_takeY (i := 25) (v := ?_) (by simp only [List.getElem?_toArray, List.getElem?_cons_succ, List.getElem?_cons_zero]; rfl) (by kernel_rfl) (by kernel_rfl) (by kernel_rfl) (by rfl) (by exact fun _ _ _ h => h) (Or.inl ⟨by rfl, ?_⟩) ?_
                            rotate_left
                            · intro w9 hSw
                              go_simp
                              all_goals with_reducible rfl
                            try simp only [Act.put, List.setIfInBounds_toArray, List.set_cons_zero, List.set_cons_succ]
                            refine wpAnyU_takeY (i := 26) (v := ?_) (by simp only [List.getElem?_toArray, List.getElem?_cons_succ, List.getElem?_cons_zero]; rfl) (by kernel_rfl) (by kernel_rfl) (by kernel_rfl) (by rfl) (by exact fun _ _ _ h => h) (Or.inl ⟨by rfl, ?_⟩) ?_
                            rotate_left
                            · intro w9 hSw
                              go_simp
                              all_goals with_reducible rfl
                            try simp only [Act.put, List.setIfInBounds_toArray, List.set_cons_zero, List.set_cons_succ]
                            refine wpAnyU_ready (rs := [27]) (by kernel_rfl) (by simp) ?_
                            refine AllReadyU.cons (by simp only [List.getElem?_toArray, List.getElem?_cons_succ, List.getElem?_cons_zero]; rfl) (fun K hK => ?_) ?_
                            · go_simp
                              refine hK.out _ _ (fun h => absurd h (by decide)) ?_
                              clear hK K
                              try simp only [Act.put, List.setIfInBounds_toArray, List.set_cons_zero, List.set_cons_succ]
                              refine wpAnyU_done (by kernel_rfl) ?_ _
                              clear c3 c4 k3 k4 c7 ce d3 d4 l3 l4
                              replace hBn := hide hBn
                              replace hfn := hide hfn
                              replace hon4 := hide hon4
                              go_wp2
                              go_roundg g2
                              case measure => exact hgg2.out
                              case rel => exact ⟨i + 1, _, es', by go_num, hg2, hBn, hide (by rw [hrl.out, List.set_set, hnd.out, hnf.out]), hfn, hon4.out⟩
                            exact AllReadyU.nil
                          exact AllReadyU.nil
                        exact AllReadyU.nil
                      exact AllReadyU.nil
                    refine AllReadyU.cons (by simp only [List.getElem?_toArray, List.getElem?_cons_succ, List.getElem?_cons_zero]; rfl) (fun K hK => ?_) ?_
                    · go_simp
                      obtain ⟨hM2, hNd2⟩ := hM1.out.alloc z0
                      have hNf2 := hNf.out.alloc (.cells #[.int .i64 z0] 3)
                      obtain ⟨gn2, hgn2⟩ : ∃ gn2, Hid (U1.heap.size = gn2) := ⟨_, hide rfl⟩
                      rw [hgn2.out] at hNd2 ⊢
                      obtain ⟨U2, hU2⟩ : ∃ U2, Hid (U1.alloc (.cells #[.int .i64 z0] 3) = U2) := ⟨_, hide rfl⟩
                      rw [hU2.out] at hM2 hNf2 hNd2 ⊢
                      have hNf := hide hNf2
                      have hNd := hide hNd2
                      replace hM2 := hide hM2
                      clear hNf2 hNd2
                      refine hK.out _ _ (fun _ => hM2.out.on) ?_
                      clear hK K
                      try simp only [Act.put, List.setIfInBounds_toArray, List.set_cons_zero, List.set_cons_succ]
                      refine wpAnyU_ready (rs := [8]) (by kernel_rfl) (by simp) ?_
                      refine AllReadyU.cons (by simp only [List.getElem?_toArray, List.getElem?_cons_succ, List.getElem?_cons_zero]; rfl) (fun K hK => ?_) ?_
                      · skip
                        refine step_append_lies U2 rfl (.tmp 64) (.tmp 66) _ rfl Bo 3 i0 _ 1 8 Try.underlying22 hi0.out hz0.out hz1.out hz2.out rfl (by omega) (.slice Af lf.length Cf) _ _ rfl hM2.out.f.row ⟨gn1, 0, none⟩ 1 1 [.int .i64 (p0 : Int)] rfl rfl ?c1 ?c2 (by omega) ?c3 ?c4 ?c5 U2.heap.size rfl ?_
                        case c1 => exact World.news_of_block (cs := #[.int .i64 (p0 : Int)]) (t := 3) (fr := (0, 0)) hNf.out.blk
                        case c2 => simp [Value.oneCell']
                        case c3 => unfold maxLen; omega
                        case c4 => omega
                        case c5 => have := hM2.out.on.size; omega
                        intro qf cqf U3 hown hgr hq hlt9
                        have hM3 := hide (hM2.out.appf hpI.out hown hgr hq)
                        have hNd := hide (hNd.out.appf (v' := .slice (some ⟨qf, 0, none⟩) (lf.length + 1) cqf) hgr rfl hq)
                        clear hown hgr hq hlt9
                        refine hK.out _ _ (fun _ => hM3.out.on) ?_
                        clear hK K
                        try simp only [Act.put, List.setIfInBounds_toArray, List.set_cons_zero, List.set_cons_succ]
                        refine wpAnyU_ready (rs := [21]) (by kernel_rfl) (by simp) ?_
                        refine AllReadyU.cons (by simp only [List.getElem?_toArray, List.getElem?_cons_succ, List.getElem?_cons_zero]; rfl) (fun K hK => ?_) ?_
                        · skip
                          refine step_append_lies U3 rfl (.tmp 71) (.tmp 79) _ rfl Bo 3 i0 _ 1 8 Try.underlying22 hi0.out hz0.out hz1.out hz2.out rfl (by omega) (.slice Ad ld.length Cd) _ _ rfl hM3.out.d.row ⟨gn2, 0, none⟩ 1 1 [.int .i64 z0] rfl rfl ?c1 ?c2 (by omega) ?c3 ?c4 ?c5 U3.heap.size rfl ?_
                          case c1 => exact World.news_of_block (cs := #[.int .i64 z0]) (t := 3) (fr := (0, 0)) hNd.out.blk
                          case c2 => simp [Value.oneCell']
                          case c3 => unfold maxLen; omega
                          case c4 => omega
                          case c5 => have := hM3.out.on.size; omega
                          intro qd cqd U4 hown hgr hq hlt9
                          have hM4 := hide (hM3.out.appd hzI.out hown hgr hq)
                          clear hown hgr hq hlt9
                          refine hK.out _ _ (fun _ => hM4.out.on) ?_
                          clear hK K
                          try simp only [Act.put, List.setIfInBounds_toArray, List.set_cons_zero, List.set_cons_succ]
                          refine wpAnyU_takeY (i := 22) (v := ?_) (by simp only [List.getElem?_toArray, List.getElem?_cons_succ, List.getElem?_cons_zero]; rfl) (by kernel_rfl) (by kernel_rfl) (by kernel_rfl) (by rfl) (by exact fun _ _ _ h => h) (Or.inl ⟨by rfl, ?_⟩) ?_
                          rotate_left
                          · intro w9 hSw
                            go_simp
                            all_goals with_reducible rfl
                          try simp only [Act.put, List.setIfInBounds_toArray, List.set_cons_zero, List.set_cons_succ]
                          refine wpAnyU_takeY (i := 23) (v := ?_) (by simp only [List.getElem?_toArray, List.getElem?_cons_succ, List.getElem?_cons_zero]; rfl) (by kernel_rfl) (by kernel_rfl) (by kernel_rfl) (by rfl) (by exact fun _ _ _ h => h) (Or.inl ⟨by rfl, ?_⟩) ?_
                          rotate_left
                          · intro w9 hSw
                            go_simp
                            all_goals with_reducible rfl
                          try simp only [Act.put, List.setIfInBounds_toArray, List.set_cons_zero, List.set_cons_succ]
                          have d3 := c3 U4 hM4.out.on
                          have d4 := c4 U4 hM4.out.on
                          have l3 := k3 U4 hM4.out.on
                          have l4 := k4 U4 hM4.out.on
                          obtain ⟨es', hBn, hfn, hon4⟩ := hfin2.out U4 _ _ hM4.out
                          refine wpAnyU_ready (rs := [24]) (by kernel_rfl) (by simp) ?_
                          refine AllReadyU.cons (by simp only [List.getElem?_toArray, List.getElem?_cons_succ, List.getElem?_cons_zero]; rfl) (fun K hK => ?_) ?_
                          · go_simp
                            refine hK.out _ _ (fun h => absurd h (by decide)) ?_
                            clear hK K
                            try simp only [Act.put, List.setIfInBounds_toArray, List.set_cons_zero, List.set_cons_succ]
                            refine wpAnyU_takeY (i := 25) (v := ?_) (by simp only [List.getElem?_toArray, List.getElem?_cons_succ, List.getElem?_cons_zero]; rfl) (by kernel_rfl) (by kernel_rfl) (by kernel_rfl) (by rfl) (by exact fun _ _ _ h => h) (Or.inl ⟨by rfl, ?_⟩) ?_
                            rotate_left
                            · intro w9 hSw
                              go_simp
                              all_goals with_reducible rfl
                            try simp only [Act.put, List.setIfInBounds_toArray, List.set_cons_zero, List.set_cons_succ]
                            refine wpAnyU_takeY (i := 26) (v := ?_) (by simp only [List.getElem?_toArray, List.getElem?_cons_succ, List.getElem?_cons_zero]; rfl) (by kernel_rfl) (by kernel_rfl) (by kernel_rfl) (by rfl) (by exact fun _ _ _ h => h) (Or.inl ⟨by rfl, ?_⟩) ?_
                            rotate_left
                            · intro w9 hSw
                              go_simp
                              all_goals with_reducible rfl
                            try simp only [Act.put, List.setIfInBounds_toArray, List.set_cons_zero, List.set_cons_succ]
                            refine wpAnyU_ready (rs := [27]) (by kernel_rfl) (by simp) ?_
                            refine AllReadyU.cons (by simp only [List.getElem?_toArray, List.getElem?_cons_succ, List.getElem?_cons_zero]; rfl) (fun K hK => ?_) ?_
                            · go_simp
                              refine hK.out _ _ (fun h => absurd h (by decide)) ?_
                              clear hK K
                              try simp only [Act.put, List.setIfInBounds_toArray, List.set_cons_zero, List.set_cons_succ]
                              refine wpAnyU_done (by kernel_rfl) ?_ _
                              clear c3 c4 k3 k4 c7 ce d3 d4 l3 l4
                              replace hBn := hide hBn
                              replace hfn := hide hfn
                              replace hon4 := hide hon4
                              go_wp2
                              go_roundg g2
                              case measure => exact hgg2.out
                              case rel => exact ⟨i + 1, _, es', by go_num, hg2, hBn, hide (by rw [hrl.out, List.set_set, hnd.out, hnf.out]), hfn, hon4.out⟩
                            exact AllReadyU.nil
                          exact AllReadyU.nil
                        exact AllReadyU.nil
                      exact AllReadyU.nil
                    exact AllReadyU.nil
                  refine AllReadyU.cons (by simp only [List.getElem?_toArray, List.getElem?_cons_succ, List.getElem?_cons_zero]; rfl) (fun K hK => ?_) ?_
                  · go_simp
                    obtain ⟨hM1, hNd1⟩ := hM0.out.alloc z0
                    obtain ⟨gn2, hgn2⟩ : ∃ gn2, Hid (U0.heap.size = gn2) := ⟨_, hide rfl⟩
                    rw [hgn2.out] at hNd1 ⊢
                    obtain ⟨U1, hU1⟩ : ∃ U1, Hid (U0.alloc (.cells #[.int .i64 z0] 3) = U1) := ⟨_, hide rfl⟩
                    rw [hU1.out] at hM1 hNd1 ⊢
                    have hNd := hide hNd1
                    replace hM1 := hide hM1
                    clear hNd1
                    refine hK.out _ _ (fun _ => hM1.out.on) ?_
                    clear hK K
                    try simp only [Act.put, List.setIfInBounds_toArray, List.set_cons_zero, List.set_cons_succ]
                    refine wpAnyU_ready (rs := [7]) (by kernel_rfl) (by simp) ?_
                    refine AllReadyU.cons (by simp only [List.getElem?_toArray, List.getElem?_cons_succ, List.getElem?_cons_zero]; rfl) (fun K hK => ?_) ?_
                    · go_simp
                      obtain ⟨hM2, hNf2⟩ := hM1.out.alloc (p0 : Int)
                      have hNd2 := hNd.out.alloc (.cells #[.int .i64 (p0 : Int)] 3)
                      obtain ⟨gn1, hgn1⟩ : ∃ gn1, Hid (U1.heap.size = gn1) := ⟨_, hide rfl⟩
                      rw [hgn1.out] at hNf2 ⊢
                      obtain ⟨U2, hU2⟩ : ∃ U2, Hid (U1.alloc (.cells #[.int .i64 (p0 : Int)] 3) = U2) := ⟨_, hide rfl⟩
                      rw [hU2.out] at hM2 hNf2 hNd2 ⊢
                      have hNf := hide hNf2
                      have hNd := hide hNd2
                      replace hM2 := hide hM2
                      clear hNf2 hNd2
                      refine hK.out _ _ (fun _ => hM2.out.on) ?_
                      clear hK K
                      try simp only [Act.put, List.setIfInBounds_toArray, List.set_cons_zero, List.set_cons_succ]
                      refine wpAnyU_ready (rs := [8]) (by kernel_rfl) (by simp) ?_
                      refine AllReadyU.cons (by simp only [List.getElem?_toArray, List.getElem?_cons_succ, List.getElem?_cons_zero]; rfl) (fun K hK => ?_) ?_
                      · skip
                        refine step_append_lies U2 rfl (.tmp 64) (.tmp 66) _ rfl Bo 3 i0 _ 1 8 Try.underlying22 hi0.out hz0.out hz1.out hz2.out rfl (by omega) (.slice Af lf.length Cf) _ _ rfl hM2.out.f.row ⟨gn1, 0, none⟩ 1 1 [.int .i64 (p0 : Int)] rfl rfl ?c1 ?c2 (by omega) ?c3 ?c4 ?c5 U2.heap.size rfl ?_
                        case c1 => exact World.news_of_block (cs := #[.int .i64 (p0 : Int)]) (t := 3) (fr := (0, 0)) hNf.out.blk
                        case c2 => simp [Value.oneCell']
                        case c3 => unfold maxLen; omega
                        case c4 => omega
                        case c5 => have := hM2.out.on.size; omega
                        intro qf cqf U3 hown hgr hq hlt9
                        have hM3 := hide (hM2.out.appf hpI.out hown hgr hq)
                        have hNd := hide (hNd.out.appf (v' := .slice (some ⟨qf, 0, none⟩) (lf.length + 1) cqf) hgr rfl hq)
                        clear hown hgr hq hlt9
                        refine hK.out _ _ (fun _ => hM3.out.on) ?_
                        clear hK K
                        try simp only [Act.put, List.setIfInBounds_toArray, List.set_cons_zero, List.set_cons_succ]
                        refine wpAnyU_ready (rs := [21]) (by kernel_rfl) (by simp) ?_
                        refine AllReadyU.cons (by simp only [List.getElem?_toArray, List.getElem?_cons_succ, List.getElem?_cons_zero]; rfl) (fun K hK => ?_) ?_
                        · skip
                          refine step_append_lies U3 rfl (.tmp 71) (.tmp 79) _ rfl Bo 3 i0 _ 1 8 Try.underlying22 hi0.out hz0.out hz1.out hz2.out rfl (by omega) (.slice Ad ld.length Cd) _ _ rfl hM3.out.d.row ⟨gn2, 0, none⟩ 1 1 [.int .i64 z0] rfl rfl ?c1 ?c2 (by omega) ?c3 ?c4 ?c5 U3.heap.size rfl ?_
                          case c1 => exact World.news_of_block (cs := #[.int .i64 z0]) (t := 3) (fr := (0, 0)) hNd.out.blk
                          case c2 => simp [Value.oneCell']
                          case c3 => unfold maxLen; omega
                          case c4 => omega
                          case c5 => have := hM3.out.on.size; omega
                          intro qd cqd U4 hown hgr hq hlt9
                          have hM4 := hide (hM3.out.appd hzI.out hown hgr hq)
                          clear hown hgr hq hlt9
                          refine hK.out _ _ (fun _ => hM4.out.on) ?_
                          clear hK K
                          try simp only [Act.put, List.setIfInBounds_toArray, List.set_cons_zero, List.set_cons_succ]
                          refine wpAnyU_takeY (i := 22) (v := ?_) (by simp only [List.getElem?_toArray, List.getElem?_cons_succ, List.getElem?_cons_zero]; rfl) (by kernel_rfl) (by kernel_rfl) (by kernel_rfl) (by rfl) (by exact fun _ _ _ h => h) (Or.inl ⟨by rfl, ?_⟩) ?_
                          rotate_left
                          · intro w9 hSw
                            go_simp
                            all_goals with_reducible rfl
                          try simp only [Act.put, List.setIfInBounds_toArray, List.set_cons_zero, List.set_cons_succ]
                          refine wpAnyU_takeY (i := 23) (v := ?_) (by simp only [List.getElem?_toArray, List.getElem?_cons_succ, List.getElem?_cons_zero]; rfl) (by kernel_rfl) (by kernel_rfl) (by kernel_rfl) (by rfl) (by exact fun _ _ _ h => h) (Or.inl ⟨by rfl, ?_⟩) ?_
                          rotate_left
                          · intro w9 hSw
                            go_simp
                            all_goals with_reducible rfl
                          try simp only [Act.put, List.setIfInBounds_toArray, List.set_cons_zero, List.set_cons_succ]
                          have d3 := c3 U4 hM4.out.on
                          have d4 := c4 U4 hM4.out.on
                          have l3 := k3 U4 hM4.out.on
                          have l4 := k4 U4 hM4.out.on
                          obtain ⟨es', hBn, hfn, hon4⟩ := hfin2.out U4 _ _ hM4.out
                          refine wpAnyU_ready (rs := [24]) (by kernel_rfl) (by simp) ?_
                          refine AllReadyU.cons (by simp only [List.getElem?_toArray, List.getElem?_cons_succ, List.getElem?_cons_zero]; rfl) (fun K hK => ?_) ?_
                          · go_simp
                            refine hK.out _ _ (fun h => absurd h (by decide)) ?_
                            clear hK K
                            try simp only [Act.put, List.setIfInBounds_toArray, List.set_cons_zero, List.set_cons_succ]
                            refine wpAnyU_takeY (i := 25) (v := ?_) (by simp only [List.getElem?_toArray, List.getElem?_cons_succ, List.getElem?_cons_zero]; rfl) (by kernel_rfl) (by kernel_rfl) (by kernel_rfl) (by rfl) (by exact fun _ _ _ h => h) (Or.inl ⟨by rfl, ?_⟩) ?_
                            rotate_left
                            · intro w9 hSw
                              go_simp
                              all_goals with_reducible rfl
                            try simp only [Act.put, List.setIfInBounds_toArray, List.set_cons_zero, List.set_cons_succ]
                            refine wpAnyU_takeY (i := 26) (v := ?_) (by simp only [List.getElem?_toArray, List.getElem?_cons_succ, List.getElem?_cons_zero]; rfl) (by kernel_rfl) (by kernel_rfl) (by kernel_rfl) (by rfl) (by exact fun _ _ _ h => h) (Or.inl ⟨by rfl, ?_⟩) ?_
                            rotate_left
                            · intro w9 hSw
                              go_simp
                              all_goals with_reducible rfl
                            try simp only [Act.put, List.setIfInBounds_toArray, List.set_cons_zero, List.set_cons_succ]
                            refine wpAnyU_ready (rs := [27]) (by kernel_rfl) (by simp) ?_
                            refine AllReadyU.cons (by simp only [List.getElem?_toArray, List.getElem?_cons_succ, List.getElem?_cons_zero]; rfl) (fun K hK => ?_) ?_
                            · go_simp
                              refine hK.out _ _ (fun h => absurd h (by decide)) ?_
                              clear hK K
                              try simp only [Act.put, List.setIfInBounds_toArray, List.set_cons_zero, List.set_cons_succ]
                              refine wpAnyU_done (by kernel_rfl) ?_ _
                              clear c3 c4 k3 k4 c7 ce d3 d4 l3 l4
                              replace hBn := hide hBn
                              replace hfn := hide hfn
                              replace hon4 := hide hon4
                              go_wp2
                              go_roundg g2
                              case measure => exact hgg2.out
                              case rel => exact ⟨i + 1, _, es', by go_num, hg2, hBn, hide (by rw [hrl.out, List.set_set, hnd.out, hnf.out]), hfn, hon4.out⟩
                            exact AllReadyU.nil
                          exact AllReadyU.nil
                        exact AllReadyU.nil
                      exact AllReadyU.nil
                    exact AllReadyU.nil
                  exact AllReadyU.nil
                · rw [if_neg hpo] at hev hstep
                  rw [List.append_nil] at hstep
                  have s1 := hBv.out.e.cell hev
                  have hneg : ¬ ((-1 : Int) ≥ 0) := by omega
                  replace hstep := hide hstep
                  replace hev := hide hev
                  replace hpo := hide hpo
                  go_wp2
                  go_roundg g2
                  case measure => exact hgg2.out
                  case rel => exact ⟨i + 1, ls, es, by go_num, hg2, hBv, hide (by rw [hstep.out]; exact hrl.out), hfar, hon⟩
              · obtain rfl : i = p.length := by omega
                have hPn : Hid (PhK f.blocks H O l P n (k + 1) ls) := hide (by
                  rw [hrl.out, hls9.out, hF.out]
                  exact phk_put hPk.out hlt hph'.out.1 hph'.out.2 hp.out)
                have hon' := hide hon
                go_wp2
                go_roundg g'
                case measure => have h1 := hgg.out; have h2 := hgk0.out; clear hgl hgw hgoB; omega
                case rel => exact ⟨k + 1, ls, es, by go_num, hg', hBv, hPn, hfar, hon'.out⟩
        · rw [if_neg hph] at hpv
          have s1 := hBv.out.p.cell hpv
          have hneg : ((-1 : Int) < 0) := by omega
          have hPn := hide (phk_none hPk.out hph)
          replace hph := hide hph
          replace hpv := hide hpv
          replace hpm := hide hpm
          replace ht2 := hide ht2
          replace ht1 := hide ht1
          go_wp2
          go_roundg g'
          case measure => exact hgg.out
          case rel => exact ⟨k + 1, ls, es, by go_num, hg', hBv, hPn, hfar, hon⟩
      · obtain rfl : k = n := by omega
        obtain ⟨-, -, -, -, y4, -, -, -⟩ := hBv.out.cells
        have hres : Hid (OwnAc V0 w.heap.size w.heap.size (.slice (some ⟨go, 0, none⟩) N Co) (if k = 0 then [] else builtA (laidA f.blocks H O k) l O P) es) := hide (by
          rw [if_neg hn0, ← phk_end hPk.out]
          exact (hBv.out.out.mono (by omega)).monoi (by omega))
        have hfin := hide (hbfin.out V0 hon)
        have hI' : Hid (0 < k → IdomOk sc O k l) := hide (fun _ => hI.out)
        replace hn0 := hide hn0
        go_wp2
        go_ret
        exact ⟨_, l, es, rfl, hI'.out, hres.out, hfin.out⟩
end Go.Proofs.Yteeclobpajalmaa
