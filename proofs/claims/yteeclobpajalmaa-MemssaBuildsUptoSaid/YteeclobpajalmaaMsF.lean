/- memssa.lay. No condition but sizes. -/
import Derived.Test.YteeclobpajalmaaMsE
namespace Go.Proofs.Yteeclobpajalmaa
open Go.RowKit
set_option linter.unusedSimpArgs false
set_option linter.unusedVariables false

set_option maxRecDepth 100000 in
set_option maxHeartbeats 12800000 in
theorem lay_any (f : Fun) (c1 c2 : Value) (w : World) (B : Nat) (hB : B ≤ w.heap.size) (hf : RFun.rep w B [.string f.name, c1, .int .i64 f.ret, c2] f) (hsz : funSz f ≤ 2000000) :
    Calls Try.prog 34 #[f.v c1 c2] w (LayPost f c1 c2 f.blocks (phiB (startB f.blocks (orderF f.blocks)) (frB (succsF f.blocks) (orderF f.blocks))) (orderF f.blocks) f.blocks.length w) := by
  have hs : Small f := small_of hsz
  have hLm : Hid (∀ H O k, k ≤ f.blocks.length → (laidA f.blocks H O k).length ≤ 4000001) := hide (fun H O k hk => laidA_small hsz hk)
  replace hsz := hide hsz
  obtain ⟨hp, hb⟩ := fun_open (RFun.later hf (Below.refl _ _) hB)
  obtain ⟨A1, k1, h1, -, -⟩ := Rp.slice1_open hp
  obtain ⟨A2, k2, h2, hm2, -⟩ := Rp.slice1_open hb
  cases h1; cases h2
  clear hp hb
  obtain ⟨-, hb⟩ := fun_open (RFun.later hf (Below.refl _ _) hB)
  obtain ⟨A2', k2', h2', -, gb⟩ := Rp.slice1_open hb
  cases h2'
  clear hb
  replace gb := hide gb
  obtain ⟨n, hn⟩ : ∃ n, Hid (n = f.blocks.length) := ⟨_, hide rfl⟩
  have hnle : n ≤ 2000000 := by rw [hn.out]; exact hs.blocks
  obtain ⟨O, hO⟩ : ∃ O, Hid (O = orderF f.blocks) := ⟨_, hide rfl⟩
  obtain ⟨sc, hsc⟩ : ∃ sc, Hid (sc = succsF f.blocks) := ⟨_, hide rfl⟩
  obtain ⟨R, hR⟩ : ∃ R, Hid (R = reachF f.blocks) := ⟨_, hide rfl⟩
  obtain ⟨P, hP⟩ : ∃ P, Hid (P = predsL sc n) := ⟨_, hide rfl⟩
  have hPl : P.length = n := by rw [hP.out, predsL_len]
  have hRl : R.length = n := by rw [hR.out, hn.out, reach_len]
  have hsok : Hid (∀ b, SuccOk n (sc b)) := hide (fun b => by rw [hsc.out, hn.out]; exact succsF_ok _ _)
  have hok : Hid (OrderOk n sc O) := hide (by rw [hO.out, hn.out, hsc.out]; exact order_ok _)
  have hol : O.length ≤ n := by rw [hO.out, hn.out]; exact order_len _
  have hRat : Hid (∀ k : Nat, k < n → R[k]? = some (decide ((k : Int) ∈ O))) := hide (fun k hk => by rw [hR.out, hO.out]; exact reach_at _ _ (by rw [← hn.out]; exact hk))
  rw [← hn.out, ← hO.out, ← hsc.out]
  rw [← hn.out] at hf hm2
  obtain ⟨W, hW, hwW, hWs, hx⟩ := boxes1 w #[.string f.name, .slice A1 f.params.length k1, .int .i64 f.ret, .slice A2 n k2] 25
  have q0 : ∀ w', Below W.heap.size W w' → w'.cell? ⟨w.heap.size, 0, none⟩ = some (.string f.name) := hx 0 _ rfl
  have q1 : ∀ w', Below W.heap.size W w' → w'.cell? ⟨w.heap.size, 1, none⟩ = some (.slice A1 f.params.length k1) := hx 1 _ rfl
  have q2 : ∀ w', Below W.heap.size W w' → w'.cell? ⟨w.heap.size, 2, none⟩ = some (.int .i64 f.ret) := hx 2 _ rfl
  have q3 : ∀ w', Below W.heap.size W w' → w'.cell? ⟨w.heap.size, 3, none⟩ = some (.slice A2 n k2) := hx 3 _ rfl
  clear hx
  have hws : w.heap.size ≤ W.heap.size := by omega
  replace hWs := hide hWs
  have hself := Below.refl W.heap.size W
  have hF : Hid (∀ w', Below W.heap.size W w' → RFun.rep w' w'.heap.size [.string f.name, .slice A1 f.params.length k1, .int .i64 f.ret, .slice A2 n k2] f) := hide (fun w' h => RFun.later hf ((hwW.trans (h.mono hws)).mono hB) (Nat.le_trans hB (hwW.trans (h.mono hws)).size))
  have cR : Hid (∀ w', Below W.heap.size W w' → Calls Try.prog 32 #[f.v (.slice A1 f.params.length k1) (.slice A2 n k2)] w' (ReachPost n R w')) := hide (fun w' h => by
    have := reach_any f (.slice A1 f.params.length k1) (.slice A2 n k2) w' w'.heap.size (Nat.le_refl _) (hF.out w' h) hs
    rwa [← hn.out, ← hR.out] at this)
  have cPh : Hid (0 < n → ∀ gr w', Below W.heap.size W w' → (∀ k : Nat, k < n → ∀ w'', Below w'.heap.size w' w'' → w''.cell? ⟨gr, k, none⟩ = some (.bool (decide ((k : Int) ∈ O)))) → Calls Try.prog 62 #[f.v (.slice A1 f.params.length k1) (.slice A2 n k2), .slice (some ⟨gr, 0, none⟩) n n] w' (PhisPost n (phiL f.blocks sc O n) w')) := hide (fun hn0 gr w' h hrd => by
    have := phis_any f gr (.slice A1 f.params.length k1) (.slice A2 n k2) w' w'.heap.size (Nat.le_refl _) (hF.out w' h) hs (by rw [← hn.out]; omega) (by rw [← hn.out, ← hO.out]; exact hrd)
    rwa [← hn.out, ← hO.out, ← hsc.out] at this)
  have hzb : Hid (∀ x, x ∈ f.blocks → x.length ≤ 2000000) := hide (fun x hx => (hs.code x hx).1)
  replace hs := hide hs
  replace hf := hide hf
  replace hwW := hide hwW
  obtain ⟨m0, hm0, hm1, hm2', hm3⟩ := cinfo_parts cinfo_Access
  replace hm0 := hide hm0
  replace hm1 := hide hm1
  replace hm2' := hide hm2'
  replace hm3 := hide hm3
  obtain ⟨H, hH⟩ : ∃ H, Hid (H = phiB (startB f.blocks O) (frB sc O)) := ⟨_, hide rfl⟩
  have hPhL : Hid (∀ k : Nat, k < n → (phiL f.blocks sc O n)[k]? = some (H k)) := hide (fun k hk => by rw [hH.out]; unfold phiL; rw [List.getElem?_map, List.getElem?_range hk]; rfl)
  rw [← hH.out]
  have hmk : ∀ w', (Instr.makeSlice 22 (.int .i64 (n : Int)) (.int .i64 (n : Int))).run Try.prog w' = .ok (.slice (some ⟨w'.heap.size, 0, none⟩) n n) (w'.alloc (.cells (madeCells #[.int .i64 0] n) 3)) := fun w' =>
    run_make_row' 22 3 (.int .i64 0) 8 Try.underlying22 cinfo_int rfl .i64 .i64 n (by omega) (by omega) w'
  replace hW := hide hW
  go_enter Try.func34, Try.ntmps34
  go_upto_region 1 with (fail)
  rw [hW.out]
  clear hW
  go_upto_region 2 with (fail)
  go_cut [4] (fun s4 wx => ∃ gB gp gf ge : Nat, s4 = .pointer (some ⟨gB, 0, none⟩) ∧ Hid (Bld wx W.heap.size W.heap.size gB gp gf ge (.string f.name) (.slice A1 f.params.length k1) (.int .i64 f.ret) (.slice A2 n k2) (.slice none 0 0) n [] [] (List.replicate n 0) (List.replicate n 0) (List.replicate n 0)) ∧ Below W.heap.size W wx)
  case first =>
    go_region_held3 (fun w' => Below W.heap.size W w') (first | (with_reducible assumption) | ((repeat' with_reducible (first | assumption | refine Below.drew ?_ | refine below_al ?_)); done)) (fail)
    all_goals go_wp2_with fail
    all_goals go_meet
    all_goals exact ⟨_, _, _, _, rfl, hide (bld_made W n _ _ _ _ _ _ _ hnle (by omega) (by omega) (by omega) (by omega) (by omega) (by omega)), by repeat' with_reducible (first | assumption | refine Below.drew ?_ | refine below_al ?_)⟩
  case rest =>
    clear hmk
    obtain ⟨gB, gp, gf, ge, rfl, hB0, hbc⟩ := hcut
    obtain ⟨Y, rfl⟩ : ∃ Y : World, Y = wc := ⟨_, rfl⟩
    have hsY := hbc.size
    by_cases hn0 : n = 0
    · have e0 : ((n : Int) == 0) = true := by rw [hn0]; rfl
      have hres : Hid (Bld Y w.heap.size W.heap.size gB gp gf ge (.string f.name) (.slice A1 f.params.length k1) (.int .i64 f.ret) (.slice A2 n k2) (.slice none 0 0) n (if n = 0 then [] else laidA f.blocks H O n) (neA (if n = 0 then [] else laidA f.blocks H O n)) (List.replicate n 0) (List.replicate n 0) (List.replicate n 0)) := hide (by
        rw [if_pos hn0]
        exact hB0.out.mono hws)
      have hno : Hid (0 < n → LayK f.blocks H O n (List.replicate n 0) (List.replicate n 0) (List.replicate n 0)) := hide (fun h => by omega)
      have hbw : Hid (Below w.heap.size w Y) := hide (hwW.out.trans (hbc.mono hws))
      replace hn0 := hide hn0
      go_wp2
      go_ret
      exact ⟨_, gB, gp, gf, ge, _, _, _, _, rfl, hres.out, hno.out, hbw.out⟩
    · have e0 : ((n : Int) == 0) = false := by rw [beq_eq_false_iff_ne]; omega
      go_wp2_with (fail)
      refine (cR.out _ hbc).mono ?_
      rintro e X1 ⟨gr, rfl, hrr, hb1⟩
      have hs1 := hb1.size
      have hbX1 := hbc.trans (hb1.mono hsY)
      have hrd : ∀ k : Nat, k < n → ∀ w'', Below X1.heap.size X1 w'' → w''.cell? ⟨gr, k, none⟩ = some (.bool (decide ((k : Int) ∈ O))) := fun k hk w'' h => OwnB.cell (row_kept hrr fun q hq => h.block q (row_lt hrr hq).2.1) (hRat.out k hk) hk
      have hgr := row_lt hrr (k := gr) rfl
      have c2 := hide (cPh.out (by omega) gr X1 hbX1 hrd)
      replace hrd := hide hrd
      go_wp2_with (fail)
      refine c2.out.mono ?_
      rintro e X2 ⟨gh, rfl, hhr, hb2⟩
      have hgh := row_lt hhr (k := gh) rfl
      have hs2 := hb2.size
      have hbX2 := hbX1.trans (hb2.mono hbX1.size)
      have hB2 : Hid (Bld X2 W.heap.size W.heap.size gB gp gf ge (.string f.name) (.slice A1 f.params.length k1) (.int .i64 f.ret) (.slice A2 n k2) (.slice none 0 0) n [] [] (List.replicate n 0) (List.replicate n 0) (List.replicate n 0)) := hide ((hB0.out.below hb1).below hb2)
      have hgY : gB < Y.heap.size ∧ gp < Y.heap.size ∧ gf < Y.heap.size ∧ ge < Y.heap.size := ⟨hB0.out.lt, hB0.out.p.lt.2, hB0.out.f.lt.2, hB0.out.e.lt.2⟩
      have hgW : W.heap.size ≤ gB ∧ W.heap.size ≤ gp ∧ W.heap.size ≤ gf ∧ W.heap.size ≤ ge := ⟨hB0.out.low, hB0.out.p.lt.1, hB0.out.f.lt.1, hB0.out.e.lt.1⟩
      have hw1 : w.heap.size < W.heap.size := by have := hWs.out; omega
      have hrdX : ∀ k : Nat, k < n → ∀ w', Only (fun q => W.heap.size ≤ q ∧ q < Y.heap.size) X2.heap.size X2 w' → w'.cell? ⟨gr, k, none⟩ = some (.bool (decide ((k : Int) ∈ O))) := fun k hk => Only.fact (hrd.out k hk X2 hb2) (by omega) (by show ¬ (W.heap.size ≤ gr ∧ gr < Y.heap.size); omega)
      have hhdX : ∀ k : Nat, k < n → ∀ w', Only (fun q => W.heap.size ≤ q ∧ q < Y.heap.size) X2.heap.size X2 w' → w'.cell? ⟨gh, k, none⟩ = some (.bool (H k)) := fun k hk => Only.fact (OwnB.cell hhr (hPhL.out k hk) hk) (by omega) (by show ¬ (W.heap.size ≤ gh ∧ gh < Y.heap.size); omega)
      have hbO : Hid (∀ w', Only (fun q => W.heap.size ≤ q ∧ q < Y.heap.size) X2.heap.size X2 w' → Below w.heap.size w w') := hide (fun w' h => hwW.out.trans ((hbX2.mono hws).trans (h.to_below (fun q hq => by omega) (by omega))))
      have p3 : ∀ w', Only (fun q => W.heap.size ≤ q ∧ q < Y.heap.size) X2.heap.size X2 w' → w'.cell? ⟨w.heap.size, 3, none⟩ = some (.slice A2 n k2) := Only.fact (q3 X2 hbX2) (by omega) (by show ¬ (W.heap.size ≤ w.heap.size ∧ w.heap.size < Y.heap.size); omega)
      replace hrdX := hide hrdX
      replace hhdX := hide hhdX
      clear hrd hrr hhr c2 cPh cR q0 q1 q2 q3 hself hF hB0
      have hB3 := hB2.out.below (bk X2 (.cells #[.int .i64 0, .int .i64 0, .int .i64 (-1), .slice none 0 0, .slice none 0 0] 37))
      have z4 := hB3.cells.2.2.2.2.1
      have fz4 := hB3.free 4
      have hBf := hide (hB2.out.first (k := 0) (b := 0) (q := -1) rfl)
      have hbf : Only (fun q => W.heap.size ≤ q ∧ q < Y.heap.size) X2.heap.size X2 ((X2.alloc (.cells #[.int .i64 0, .int .i64 0, .int .i64 (-1), .slice none 0 0, .slice none 0 0] 37)).setCell ⟨gB, 4, none⟩ (.slice (some ⟨X2.heap.size, 0, none⟩) 1 1)) := ((Only.refl _ _ X2).alloc (Nat.le_refl _) _).setCell (.inl ⟨hgW.1, hgY.1⟩) _
      replace hB3 := hide hB3
      go_upto_region 8 with (fail)
      clear z4 fz4
      obtain ⟨Z, hZ⟩ : ∃ Z, Hid ((X2.alloc (.cells #[.int .i64 0, .int .i64 0, .int .i64 (-1), .slice none 0 0, .slice none 0 0] 37)).setCell ⟨gB, 4, none⟩ (.slice (some ⟨X2.heap.size, 0, none⟩) 1 1) = Z) := ⟨_, hide rfl⟩
      rw [hZ.out] at hBf hbf ⊢
      have hK0 : Hid (LayK f.blocks H O 0 (List.replicate n 0) (List.replicate n 0) (List.replicate n 0)) := hide ⟨fun b h => by omega, fun b h => by omega, fun b h => by omega⟩
      clear hZ hB3 hB2
      go_wp2
      go_loopg [36] n (fun g j wr => ∃ (k : Nat) (A : Option Addr) (C : Nat) (Lp Lf Le : List Int), j = .int .i64 k ∧ Hid (g + k = n) ∧ Hid (Bld wr W.heap.size X2.heap.size gB gp gf ge (.string f.name) (.slice A1 f.params.length k1) (.int .i64 f.ret) (.slice A2 n k2) (.slice A (laidA f.blocks H O k).length C) n (laidA f.blocks H O k) (neA (laidA f.blocks H O k)) Lp Lf Le) ∧ Hid (LayK f.blocks H O k Lp Lf Le) ∧ Only (fun q => W.heap.size ≤ q ∧ q < Y.heap.size) X2.heap.size X2 wr)
      case atStart => exact ⟨0, some ⟨X2.heap.size, 0, none⟩, 1, _, _, _, rfl, hide rfl, hBf, hK0, hbf⟩
      case round =>
        clear hBf hK0 hbf
        rename World => V
        obtain ⟨k, A, C, Lp, Lf, Le, rfl, hgk, hBv, hKv, hon⟩ := hrel
        have hk : k ≤ n := by have := hgk.out; omega
        have hVs := hon.size
        have hLl : (laidA f.blocks H O k).length ≤ 4000001 := hLm.out H O k (by rw [← hn.out]; exact hk)
        by_cases hlt : k < n
        · have hki : (k : Int) < (n : Int) := by omega
          obtain ⟨g', hg'⟩ : ∃ g', Hid (g' + (k + 1) = n) := ⟨n - (k + 1), hide (by omega)⟩
          have hgg : Hid (g' < gk) := hide (by have := hg'.out; have := hgk.out; omega)
          have hg1 : gB ≠ gp := hBv.out.ne hBv.out.p
          have hg2 : gB ≠ ge := hBv.out.ne hBv.out.e
          have hg7 : gB ≠ gf := hBv.out.ne hBv.out.f
          have hg3 := hBv.out.pe
          have hg4 : gp ≠ gB := fun h => hg1 h.symm
          have hg5 : ge ≠ gB := fun h => hg2 h.symm
          have hg6 : ge ≠ gp := fun h => hg3 h.symm
          have hg8 : gf ≠ gB := fun h => hg7 h.symm
          obtain ⟨-, -, -, -, -, v5, -, v7⟩ := hBv.out.cells
          obtain ⟨u1, hu1⟩ := get_ex (l := Lp) (k := k) (by rw [hBv.out.p.len]; exact hlt)
          obtain ⟨u2, hu2⟩ := get_ex (l := Le) (k := k) (by rw [hBv.out.e.len]; exact hlt)
          have s1 := hBv.out.p.cell hu1.out
          have s2 := hBv.out.e.cell hu2.out
          have f1 := hBv.out.p.free k
          have f2 := hBv.out.e.free k
          go_upto_region 11 with (fail)
          go_cut [7] (fun s wx => s = .int .i64 k ∧ wx = ((V.setCell ⟨gp, k, none⟩ (.int .i64 (-1))).setCell ⟨ge, k, none⟩ (.int .i64 (-1))).drew)
          case first =>
            go_big_region
            all_goals go_wp2_with fail
            all_goals go_meet
            all_goals exact ⟨rfl, rfl⟩
          case rest =>
            obtain ⟨rfl, hw9⟩ := hcut
            rename World => V1
            have hB1 : Hid (Bld V1 W.heap.size X2.heap.size gB gp gf ge (.string f.name) (.slice A1 f.params.length k1) (.int .i64 f.ret) (.slice A2 n k2) (.slice A (laidA f.blocks H O k).length C) n (laidA f.blocks H O k) (neA (laidA f.blocks H O k)) (Lp.set k (-1)) Lf (Le.set k (-1))) := hide (by
              rw [hw9]
              exact ((hBv.out.setP k (-1)).setE k (-1)).of_heap fun q _ _ => rfl)
            have hon1 : Only (fun q => W.heap.size ≤ q ∧ q < Y.heap.size) X2.heap.size X2 V1 := by
              rw [hw9]
              exact ((hon.setCell (.inl ⟨hgW.2.1, hgY.2.1⟩) _).setCell (.inl ⟨hgW.2.2.2, hgY.2.2.2⟩) _).drew
            clear hw9 v5 v7 s1 s2 f1 f2 hBv hon hVs
            have hVs := hon1.size
            have r1 := hrdX.out k hlt V1 hon1
            have hnl : Hid (laidA f.blocks H O (k + 1) = laidA f.blocks H O k ++ blkA f.blocks H O k) := hide rfl
            by_cases hko : (k : Int) ∈ O
            · rw [decide_eq_true hko] at r1
              have r2 := hhdX.out k hlt V1 hon1
              obtain ⟨x, hx⟩ := get_ex (l := f.blocks) (k := k) (by rw [← hn.out]; exact hlt)
              have hbl := hide (blkA_in (H := H) hko hx.out)
              have hxl : x.length ≤ 2000000 := hzb.out x (List.mem_of_getElem? hx.out)
              replace hko := hide hko
              obtain ⟨hb, hhb⟩ : ∃ hb, Hid (H k = hb) := ⟨_, hide rfl⟩
              rw [hhb.out] at r2
              go_upto_if 59 with (fail)
              go_cut [] (fun wx => ∃ (A : Option Addr) (C : Nat) (Lp' : List Int), Hid (Bld wx W.heap.size X2.heap.size gB gp gf ge (.string f.name) (.slice A1 f.params.length k1) (.int .i64 f.ret) (.slice A2 n k2) (.slice A (laidA f.blocks H O k ++ phiA H k).length C) n (laidA f.blocks H O k ++ phiA H k) (neA (laidA f.blocks H O k ++ phiA H k)) Lp' Lf (Le.set k (-1))) ∧ Hid ((∀ b, b < k → Lp'[b]? = Lp[b]?) ∧ Lp'[k]? = some (if H k = true then ((laidA f.blocks H O k).length : Int) else -1)) ∧ Only (fun q => W.heap.size ≤ q ∧ q < Y.heap.size) X2.heap.size X2 wx)
              case first =>
                have hLpl := hB1.out.p.len
                rw [List.length_set] at hLpl
                cases hb with
                | false =>
                  have hph : Hid (laidA f.blocks H O k ++ phiA H k = laidA f.blocks H O k) := hide (by unfold phiA; rw [if_neg (by rw [hhb.out]; simp)]; simp)
                  have hres : Hid ((∀ b, b < k → (Lp.set k (-1))[b]? = Lp[b]?) ∧ (Lp.set k (-1))[k]? = some (if H k = true then ((laidA f.blocks H O k).length : Int) else -1)) := hide ⟨fun b hb => List.getElem?_set_ne (by omega), by rw [hhb.out, List.getElem?_set_self (by omega)]; rfl⟩
                  go_wp2
                  go_meet
                  exact ⟨A, C, _, by rw [hph.out]; exact hB1, hres, hon1⟩
                | true =>
                  have hph : Hid (phiA H k = [⟨3, k, -1, [], []⟩]) := hide (by unfold phiA; rw [if_pos hhb.out])
                  obtain ⟨m, hm⟩ : ∃ m, Hid (m = (laidA f.blocks H O k).length) := ⟨_, hide rfl⟩
                  rw [← hm.out] at hLl
                  have hB1' := hB1.out
                  rw [← hm.out] at hB1'
                  obtain ⟨-, -, -, -, v4, v5, -, -⟩ := hB1'.cells
                  have s1 := hB1.out.p.cell (k := k) (x := -1) (List.getElem?_set_self (by omega))
                  have f1 := hB1.out.p.free k
                  replace hB1' := hide hB1'
                  go_upto_region 14 with (fail)
                  go_cut [] (fun wx => wx = (V1.setCell ⟨gp, k, none⟩ (.int .i64 m)).drew)
                  case first =>
                    go_big_region
                    all_goals go_wp2_with fail
                    all_goals go_meet
                    all_goals exact rfl
                  case rest =>
                    rename World => V2
                    have hB2 : Hid (Bld V2 W.heap.size X2.heap.size gB gp gf ge (.string f.name) (.slice A1 f.params.length k1) (.int .i64 f.ret) (.slice A2 n k2) (.slice A m C) n (laidA f.blocks H O k) (neA (laidA f.blocks H O k)) ((Lp.set k (-1)).set k m) Lf (Le.set k (-1))) := hide (by
                      rw [hcut]
                      exact (hB1'.out.setP k m).of_heap fun q _ _ => rfl)
                    have hon2 : Only (fun q => W.heap.size ≤ q ∧ q < Y.heap.size) X2.heap.size X2 V2 := by
                      rw [hcut]
                      exact (hon1.setCell (.inl ⟨hgW.2.1, hgY.2.1⟩) _).drew
                    have hres : Hid ((∀ b, b < k → ((Lp.set k (-1)).set k m)[b]? = Lp[b]?) ∧ ((Lp.set k (-1)).set k m)[k]? = some (if H k = true then ((laidA f.blocks H O k).length : Int) else -1)) := hide ⟨fun b hb => by rw [List.getElem?_set_ne (by omega), List.getElem?_set_ne (by omega)], by rw [hhb.out, List.getElem?_set_self (by rw [List.length_set]; omega), if_pos rfl, hm.out]⟩
                    clear hcut v4 v5 s1 f1 hB1 hB1' r1 r2
                    have hVs2 := hon2.size
                    obtain ⟨-, -, -, -, v4, -, -, -⟩ := hB2.out.cells
                    have hrow2 : Hid (V2.ownsRow X2.heap.size 37 5 (.slice A m C) m (List.zipWith acC (laidA f.blocks H O k) (neA (laidA f.blocks H O k))).flatten) := hide (by have := hB2.out.out.row; rwa [← hm.out] at this)
                    go_wp2_with (first
                      | (at_builtin
                         refine wpList_append_own _ rfl (.tmp 75) (.tmp 78) _ rfl X2.heap.size 37 m0 _ 5 72 Try.underlying29 hm0.out hm1.out hm2'.out hm3.out rfl (by omega) (.slice A m C) _ _ rfl (hrow2.out.alloc _) ⟨V2.heap.size, 0, none⟩ 1 1 [.int .i64 3, .int .i64 k, .int .i64 (-1), .slice none 0 0, .slice none 0 0] rfl rfl ?c1 ?c2 ?c3 ?c4 ?c5 ?_
                         case c1 => exact World.news_of_block (cs := #[.int .i64 3, .int .i64 k, .int .i64 (-1), .slice none 0 0, .slice none 0 0]) (t := 37) (fr := (0, 0)) (heap_alloc_new V2 _)
                         case c2 => simp [Value.oneCell']
                         case c3 => unfold maxLen; omega
                         case c4 => omega
                         case c5 => first | (simp; omega) | simp | omega
                         intro v1 w1 hown1 hg1 _
                         obtain ⟨A8, C8, hv8⟩ := row_form hown1
                         subst hv8
                         obtain ⟨hbox1, hBp⟩ := hB2.out.push (by rw [← hm.out]; exact hown1) hg1
                         have hon3 : Only (fun q => W.heap.size ≤ q ∧ q < Y.heap.size) X2.heap.size X2 (w1.setCell ⟨gB, 4, none⟩ (.slice A8 (m + 1) C8)) := (((hon2).alloc (by omega) _).grown (by simp; omega) hg1 (fun q hq => .inr (row_lt hrow2.out hq).1)).setCell (.inl ⟨hgW.1, hgY.1⟩) _
                         have fz1 := one_free (j := 4) hbox1
                         have rz1 : w1.cell? ⟨gB, 4, none⟩ = some (.slice A m C) := by simp [World.cell?, hbox1]
                         replace hBp := hide hBp
                         replace hon3 := hide hon3
                         replace hown1 := hide hown1
                         replace hg1 := hide hg1
                         replace hbox1 := hide hbox1))
                    go_meet
                    exact ⟨A8, C8, _, by rw [hph.out, List.length_append, neA_snoc, ← hm.out]; exact hBp, hres, hon3.out⟩
              case rest =>
                obtain ⟨A, C, Lp', hB2, hLp', hon2⟩ := hcut
                rename World => V2
                clear r1 r2 hB1 hon1 hVs hhb
                obtain ⟨m, hm⟩ : ∃ m, Hid (m = (laidA f.blocks H O k ++ phiA H k).length) := ⟨_, hide rfl⟩
                have hml : Hid (m = (laidA f.blocks H O k).length + (if H k = true then 1 else 0)) := hide (by rw [hm.out, List.length_append]; unfold phiA; split <;> rfl)
                have hB2' := hB2.out
                rw [← hm.out] at hB2'
                obtain ⟨-, -, -, -, v4, -, v6, -⟩ := hB2'.cells
                obtain ⟨u3, hu3⟩ := get_ex (l := Lf) (k := k) (by rw [hB2'.f.len]; exact hlt)
                have s1 := hB2'.f.cell hu3.out
                have f1 := hB2'.f.free k
                replace hB2' := hide hB2'
                go_upto_region 16 with (fail)
                go_cut [] (fun wx => wx = (V2.setCell ⟨gf, k, none⟩ (.int .i64 m)).drew)
                case first =>
                  go_big_region
                  all_goals go_wp2_with fail
                  all_goals go_meet
                  all_goals exact rfl
                case rest =>
                  rename World => V3
                  have hB3 : Hid (Bld V3 W.heap.size X2.heap.size gB gp gf ge (.string f.name) (.slice A1 f.params.length k1) (.int .i64 f.ret) (.slice A2 n k2) (.slice A m C) n (laidA f.blocks H O k ++ phiA H k) (neA (laidA f.blocks H O k ++ phiA H k)) Lp' (Lf.set k m) (Le.set k (-1))) := hide (by
                    rw [hcut]
                    exact (hB2'.out.setF k m).of_heap fun q _ _ => rfl)
                  have hon3 : Only (fun q => W.heap.size ≤ q ∧ q < Y.heap.size) X2.heap.size X2 V3 := by
                    rw [hcut]
                    exact (hon2.setCell (.inl ⟨hgW.2.2.1, hgY.2.2.1⟩) _).drew
                  clear hcut v4 v6 s1 f1 hB2 hB2' hon2
                  have hKn : Hid (LayK f.blocks H O (k + 1) Lp' (Lf.set k m) (Le.set k (-1))) := hide (by
                    have hl1 := hB3.out.f.len
                    have hl2 := hB3.out.e.len
                    rw [List.length_set] at hl1 hl2
                    refine hKv.out.next hLp'.out.1 (fun b hb => List.getElem?_set_ne (by omega)) (fun b hb => List.getElem?_set_ne (by omega)) ?_ (fun _ => ?_) ?_
                    · rw [hLp'.out.2]
                      congr 1
                      by_cases e : H k = true
                      · rw [if_pos e, if_pos ⟨hko.out, e⟩]
                      · rw [if_neg e, if_neg (fun h => e h.2)]
                    · rw [List.getElem?_set_self (by omega), hml.out]
                    · exact List.getElem?_set_self (by omega))
                  have hbw3 := hbO.out V3 hon3
                  obtain ⟨b1, o1, rfl, he1⟩ := gb.out (by rw [← hn.out]; omega)
                  obtain ⟨d1, hr1, hd1⟩ := he1 k x hx.out
                  have hd1' := hd1 V3 hbw3
                  have p3' := p3 V3 hon3
                  obtain ⟨A3, c3, h3, hm3', ga3⟩ := Rp.slice_open hr1
                  cases h3
                  replace ga3 := hide ga3
                  have hall : Hid (laidA f.blocks H O k ++ phiA H k ++ codeA k x x.length = laidA f.blocks H O (k + 1)) := hide (by rw [hnl.out, hbl.out, List.append_assoc])
                  have hl9 : Hid ((laidA f.blocks H O (k + 1)).length ≤ 4000001) := hide (hLm.out H O (k + 1) (by rw [← hn.out]; exact hlt))
                  have hB3' : Hid (Bld V3 W.heap.size X2.heap.size gB gp gf ge (.string f.name) (.slice A1 f.params.length k1) (.int .i64 f.ret) (.slice (some ⟨b1, o1, none⟩) n k2) (.slice A (laidA f.blocks H O k ++ phiA H k ++ codeA k x 0).length C) n (laidA f.blocks H O k ++ phiA H k ++ codeA k x 0) (neA (laidA f.blocks H O k ++ phiA H k ++ codeA k x 0)) Lp' (Lf.set k m) (Le.set k (-1))) := hide (by
                    have e : laidA f.blocks H O k ++ phiA H k ++ codeA k x 0 = laidA f.blocks H O k ++ phiA H k := List.append_nil _
                    rw [e, ← hm.out]
                    exact hB3.out)
                  replace hd1 := hide hd1
                  clear he1 hr1 hB3 hm hml
                  go_wp2
                  go_loopg [100] x.length (fun g j wr => ∃ (i : Nat) (A : Option Addr) (C : Nat), j = .int .i64 i ∧ Hid (g + i = x.length) ∧ Hid (Bld wr W.heap.size X2.heap.size gB gp gf ge (.string f.name) (.slice A1 f.params.length k1) (.int .i64 f.ret) (.slice (some ⟨b1, o1, none⟩) n k2) (.slice A (laidA f.blocks H O k ++ phiA H k ++ codeA k x i).length C) n (laidA f.blocks H O k ++ phiA H k ++ codeA k x i) (neA (laidA f.blocks H O k ++ phiA H k ++ codeA k x i)) Lp' (Lf.set k m) (Le.set k (-1))) ∧ Only (fun q => W.heap.size ≤ q ∧ q < Y.heap.size) X2.heap.size X2 wr)
                  case atStart => exact ⟨0, A, C, rfl, hide rfl, hB3', hon3⟩
                  case round =>
                    clear hB3' hon3 hd1' p3' hbw3
                    rename World => V
                    obtain ⟨i, A, C, rfl, hgi, hBv, hon⟩ := hrel
                    have hi : i ≤ x.length := by have := hgi.out; omega
                    by_cases hlti : i < x.length
                    · have hii : (i : Int) < (x.length : Int) := by omega
                      obtain ⟨g2, hg2'⟩ : ∃ g2, Hid (g2 + (i + 1) = x.length) := ⟨x.length - (i + 1), hide (by omega)⟩
                      have hgg2 : Hid (g2 < gk) := hide (by have := hg2'.out; have := hgi.out; omega)
                      obtain ⟨b3, o3, rfl, he3⟩ := ga3.out (by omega)
                      obtain ⟨ins, hins⟩ := get_ex (l := x) (k := i) hlti
                      obtain ⟨_, _, ⟨a1, a2, rfl, ha, hto, -, hokr, -⟩, hc⟩ := he3 i ins hins.out
                      obtain ⟨A5, k5, h5, hm5, -⟩ := Rp.slice_open ha
                      obtain ⟨A6, k6, h6, hm6, -⟩ := Rp.slice1_open hto
                      cases h5; cases h6
                      have hbV := hbO.out V hon
                      obtain ⟨e0, e1, e2, e3, e4, e5, e6⟩ := hc.seven
                      have e0 := e0 V hbV
                      have e1 := e1 V hbV
                      have e2 := e2 V hbV
                      have e3 := e3 V hbV
                      have e4 := e4 V hbV
                      have e5 := e5 V hbV
                      have e6 := e6 V hbV
                      clear he3 ha hto hc hokr
                      have hst := hide (codeA_step (b := k) hins.out)
                      have hVs := hon.size
                      obtain ⟨Z, hZ, hwZ, hZs, hzc⟩ := boxes1 V #[.int .i64 ins.op, .int .i64 ins.reg, .int .i64 ins.ty, .int .i64 ins.num, .int .i64 ins.flags, .slice A5 ins.args.length k5, .slice A6 ins.to.length k6] 50
                      have hBz := hide (hBv.out.below hwZ)
                      have honZ : Only (fun q => W.heap.size ≤ q ∧ q < Y.heap.size) X2.heap.size X2 Z := by rw [← hZ]; exact hon.alloc hVs _
                      have hZ3 := honZ.size
                      have y0 := hzc 0 _ rfl Z (Below.refl _ _)
                      replace hwZ := hide hwZ
                      replace hZs := hide hZs
                      replace hZ := hide hZ
                      obtain ⟨m, hm⟩ : ∃ m, Hid (m = (laidA f.blocks H O k ++ phiA H k ++ codeA k x i).length) := ⟨_, hide rfl⟩
                      have hml : m ≤ 4000001 := by
                        have h1 := hl9.out
                        rw [← hall.out, List.length_append] at h1
                        rw [hm.out, List.length_append]
                        have h2 : (codeA k x i).length ≤ (codeA k x x.length).length := codeA_mono hi
                        omega
                      have hBz' := hBz.out
                      rw [← hm.out] at hBz'
                      obtain ⟨-, -, -, -, v4, -, -, -⟩ := hBz'.cells
                      have hrow2 : Hid (Z.ownsRow X2.heap.size 37 5 (.slice A m C) m (List.zipWith acC (laidA f.blocks H O k ++ phiA H k ++ codeA k x i) (neA (laidA f.blocks H O k ++ phiA H k ++ codeA k x i))).flatten) := hide (by have := hBz'.out.row; rwa [← hm.out] at this)
                      replace hBz' := hide hBz'
                      clear hzc hBv hon
                      obtain ⟨cb, hcb⟩ : ∃ cb, Hid (chgB ins.op = cb) := ⟨_, hide rfl⟩
                      have cC := changes_any ins.op Z
                      rw [hcb.out] at cC
                      replace cC := hide cC
                      go_upto_region 20 with (fail)
                      rw [hZ.out]
                      clear hZ e0 e1 e2 e3 e4 e5 e6
                      go_wp2_with (fail)
                      refine cC.out.mono ?_
                      rintro e w9 ⟨rfl, hw9⟩
                      subst hw9
                      cases cb with
                      | true =>
                        have hnx : Hid (laidA f.blocks H O k ++ phiA H k ++ codeA k x (i + 1) = (laidA f.blocks H O k ++ phiA H k ++ codeA k x i) ++ [⟨1, k, i, [], []⟩]) := hide (by rw [hst.out, accI_def hcb.out]; simp)
                        go_wp2_with (first
                          | (at_builtin
                             refine wpList_append_own _ rfl (.tmp 113) (.tmp 117) _ rfl X2.heap.size 37 m0 _ 5 72 Try.underlying29 hm0.out hm1.out hm2'.out hm3.out rfl (by omega) (.slice A m C) _ _ rfl (hrow2.out.alloc _) ⟨w9.heap.size, 0, none⟩ 1 1 [.int .i64 1, .int .i64 k, .int .i64 i, .slice none 0 0, .slice none 0 0] rfl rfl ?c1 ?c2 ?c3 ?c4 ?c5 ?_
                             case c1 => exact World.news_of_block (cs := #[.int .i64 1, .int .i64 k, .int .i64 i, .slice none 0 0, .slice none 0 0]) (t := 37) (fr := (0, 0)) (heap_alloc_new w9 _)
                             case c2 => simp [Value.oneCell']
                             case c3 => unfold maxLen; omega
                             case c4 => omega
                             case c5 => first | (simp; omega) | simp | omega
                             intro v1 w1 hown1 hg1 _
                             obtain ⟨A8, C8, hv8⟩ := row_form hown1
                             subst hv8
                             obtain ⟨hbox1, hBp⟩ := hBz'.out.push (by rw [← hm.out]; exact hown1) hg1
                             have hon4 : Only (fun q => W.heap.size ≤ q ∧ q < Y.heap.size) X2.heap.size X2 (w1.setCell ⟨gB, 4, none⟩ (.slice A8 (m + 1) C8)) := (((honZ).alloc (by omega) _).grown (by simp; omega) hg1 (fun q hq => .inr (row_lt hrow2.out hq).1)).setCell (.inl ⟨hgW.1, hgY.1⟩) _
                             have fz1 := one_free (j := 4) hbox1
                             have rz1 : w1.cell? ⟨gB, 4, none⟩ = some (.slice A m C) := by simp [World.cell?, hbox1]
                             replace hBp := hide hBp
                             replace hon4 := hide hon4
                             replace hown1 := hide hown1
                             replace hg1 := hide hg1
                             replace hbox1 := hide hbox1))
                        go_roundg g2
                        case measure => exact hgg2.out
                        case rel => exact ⟨i + 1, A8, C8, by go_num, hg2', by rw [hnx.out, List.length_append, neA_snoc, ← hm.out]; exact hBp, hon4.out⟩
                      | false =>
                        by_cases h27 : ins.op = 27
                        · have h27' : (ins.op == 27) = true := by rw [h27]; rfl
                          have hnx : Hid (laidA f.blocks H O k ++ phiA H k ++ codeA k x (i + 1) = (laidA f.blocks H O k ++ phiA H k ++ codeA k x i) ++ [⟨2, k, i, [], []⟩]) := hide (by rw [hst.out, accI_use hcb.out h27]; simp)
                          replace h27 := hide h27
                          go_wp2_with (first
                            | (at_builtin
                               refine wpList_append_own _ rfl (.tmp 129) (.tmp 133) _ rfl X2.heap.size 37 m0 _ 5 72 Try.underlying29 hm0.out hm1.out hm2'.out hm3.out rfl (by omega) (.slice A m C) _ _ rfl (hrow2.out.alloc _) ⟨w9.heap.size, 0, none⟩ 1 1 [.int .i64 2, .int .i64 k, .int .i64 i, .slice none 0 0, .slice none 0 0] rfl rfl ?c1 ?c2 ?c3 ?c4 ?c5 ?_
                               case c1 => exact World.news_of_block (cs := #[.int .i64 2, .int .i64 k, .int .i64 i, .slice none 0 0, .slice none 0 0]) (t := 37) (fr := (0, 0)) (heap_alloc_new w9 _)
                               case c2 => simp [Value.oneCell']
                               case c3 => unfold maxLen; omega
                               case c4 => omega
                               case c5 => first | (simp; omega) | simp | omega
                               intro v1 w1 hown1 hg1 _
                               obtain ⟨A8, C8, hv8⟩ := row_form hown1
                               subst hv8
                               obtain ⟨hbox1, hBp⟩ := hBz'.out.push (by rw [← hm.out]; exact hown1) hg1
                               have hon4 : Only (fun q => W.heap.size ≤ q ∧ q < Y.heap.size) X2.heap.size X2 (w1.setCell ⟨gB, 4, none⟩ (.slice A8 (m + 1) C8)) := (((honZ).alloc (by omega) _).grown (by simp; omega) hg1 (fun q hq => .inr (row_lt hrow2.out hq).1)).setCell (.inl ⟨hgW.1, hgY.1⟩) _
                               have fz1 := one_free (j := 4) hbox1
                               have rz1 : w1.cell? ⟨gB, 4, none⟩ = some (.slice A m C) := by simp [World.cell?, hbox1]
                               replace hBp := hide hBp
                               replace hon4 := hide hon4
                               replace hown1 := hide hown1
                               replace hg1 := hide hg1
                               replace hbox1 := hide hbox1))
                          go_roundg g2
                          case measure => exact hgg2.out
                          case rel => exact ⟨i + 1, A8, C8, by go_num, hg2', by rw [hnx.out, List.length_append, neA_snoc, ← hm.out]; exact hBp, hon4.out⟩
                        · have h27' : (ins.op == 27) = false := by rw [beq_eq_false_iff_ne]; exact h27
                          have hnx : Hid (laidA f.blocks H O k ++ phiA H k ++ codeA k x (i + 1) = laidA f.blocks H O k ++ phiA H k ++ codeA k x i) := hide (by rw [hst.out, accI_no hcb.out h27, List.append_nil])
                          replace h27 := hide h27
                          go_wp2
                          go_roundg g2
                          case measure => exact hgg2.out
                          case rel => exact ⟨i + 1, A, C, by go_num, hg2', by rw [hnx.out]; exact hBz, honZ⟩
                    · obtain rfl : i = x.length := by omega
                      rw [hall.out] at hBv
                      have hon' := hide hon
                      go_wp2
                      go_roundg g'
                      case measure => exact hgg.out
                      case rel => exact ⟨k + 1, A, C, Lp', _, _, by go_num, hg', hBv, hKn, hon'.out⟩
            · rw [decide_eq_false hko] at r1
              have hbl : Hid (laidA f.blocks H O (k + 1) = laidA f.blocks H O k) := hide (by rw [hnl.out, blkA_out hko, List.append_nil])
              have hKn : Hid (LayK f.blocks H O (k + 1) (Lp.set k (-1)) Lf (Le.set k (-1))) := hide (by
                have hl1 := hB1.out.p.len
                have hl2 := hB1.out.e.len
                rw [List.length_set] at hl1 hl2
                refine hKv.out.next (fun b hb => List.getElem?_set_ne (by omega)) (fun b hb => rfl) (fun b hb => List.getElem?_set_ne (by omega)) ?_ (fun h => absurd h hko) ?_
                · rw [List.getElem?_set_self (by omega), if_neg (fun h => hko h.1)]
                · exact List.getElem?_set_self (by omega))
              replace hko := hide hko
              go_wp2
              go_roundg g'
              case measure => exact hgg.out
              case rel => exact ⟨k + 1, A, C, _, _, _, by go_num, hg', by rw [hbl.out]; exact hB1, hKn, hon1⟩
        · obtain rfl : k = n := by omega
          have hres : Hid (Bld V w.heap.size X2.heap.size gB gp gf ge (.string f.name) (.slice A1 f.params.length k1) (.int .i64 f.ret) (.slice A2 k k2) (.slice A (laidA f.blocks H O k).length C) k (if k = 0 then [] else laidA f.blocks H O k) (neA (if k = 0 then [] else laidA f.blocks H O k)) Lp Lf Le) := hide (by
            rw [if_neg hn0]
            exact hBv.out.mono hws)
          have hbw := hide (hbO.out V hon)
          replace hn0 := hide hn0
          go_wp2
          go_ret
          exact ⟨_, gB, gp, gf, ge, _, _, _, _, rfl, hres.out, fun _ => hKv.out, hbw.out⟩
end Go.Proofs.Yteeclobpajalmaa
