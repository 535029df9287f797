/- lathelaw06.Moved and lathelaw06.Swapped. No condition but sizes. -/
import Derived.Test.YtidjaohlaljmpaaHm
import Derived.Test.YtidjaohlaljmpaaGrZb
import Derived.Test.YtidjaohlaljmpaaGrI
import Derived.BigRegion
namespace Go.Proofs.Ytidjaohlaljmpaa
open Go.RowKit
set_option linter.unusedSimpArgs false
set_option linter.unusedVariables false

set_option maxHeartbeats 800000 in
theorem moved_any (x a b : Int) (w : World) : Calls Try.prog 22 #[.int .i64 x, .int .i64 a, .int .i64 b] w fun e w' => e = .returned (.int .i64 (mv a b x)) ∧ w = w' := by
  by_cases h1 : x = a
  · have hm : Hid (mv a b x = b) := hide (by unfold mv; rw [if_pos h1])
    subst h1
    go_enter Try.func22, Try.ntmps22
    go_wp2
    go_ret
    exact ⟨by rw [hm.out]; rfl, rfl⟩
  · by_cases h2 : x = b
    · have hm : Hid (mv a b x = a) := hide (by unfold mv; rw [if_neg h1, if_pos h2])
      subst h2
      have e1 : (x == a) = false := by rw [beq_eq_false_iff_ne]; exact h1
      go_enter Try.func22, Try.ntmps22
      go_wp2
      go_ret
      exact ⟨by rw [hm.out]; rfl, rfl⟩
    · have hm : Hid (mv a b x = x) := hide (by unfold mv; rw [if_neg h1, if_neg h2])
      have e1 : (x == a) = false := by rw [beq_eq_false_iff_ne]; exact h1
      have e2 : (x == b) = false := by rw [beq_eq_false_iff_ne]; exact h2
      go_enter Try.func22, Try.ntmps22
      go_wp2
      go_ret
      exact ⟨by rw [hm.out]; rfl, rfl⟩
def SwapPost (a b : Nat) (f : Fun) (w : World) (e : Ending) (w' : World) : Prop := ∃ A C D E, e = .returned (f.v (.slice A f.params.length C) (.slice D f.blocks.length E)) ∧ RFun.rep w' w'.heap.size [.string f.name, .slice A f.params.length C, .int .i64 f.ret, .slice D f.blocks.length E] (setBlocks f (swapS a b f.blocks)) ∧ Below w.heap.size w w'
set_option maxRecDepth 100000 in
set_option maxHeartbeats 6400000 in
theorem swapped_any (f : Fun) (a b : Nat) (c1 c2 : Value) (w : World) (B : Nat) (hB : B ≤ w.heap.size) (hf : RFun.rep w B [.string f.name, c1, .int .i64 f.ret, c2] f) (hs : Small f) (ha : a < f.blocks.length) (hb : b < f.blocks.length) :
    Calls Try.prog 21 #[f.v c1 c2, .int .i64 a, .int .i64 b] w (SwapPost a b f w) := by
  obtain ⟨hp, hbb⟩ := fun_open (RFun.later hf (Below.refl _ _) hB)
  obtain ⟨A1, k1, h1, -, -⟩ := Rp.slice1_open hp
  obtain ⟨A2, k2, h2, hm2, -⟩ := Rp.slice1_open hbb
  cases h1; cases h2
  clear hp hbb
  obtain ⟨n, hn⟩ : ∃ n, Hid (n = f.blocks.length) := ⟨_, hide rfl⟩
  obtain ⟨np, hnp⟩ : ∃ n, Hid (n = f.params.length) := ⟨_, hide rfl⟩
  have hnle : n ≤ 2000000 := by rw [hn.out]; exact hs.blocks
  obtain ⟨_, _, -, -, -, hret, hname⟩ := id hf
  rw [← hn.out] at ha hb
  rw [← hn.out, ← hnp.out] at hf
  rw [← hn.out] at hm2 ⊢
  rw [← hnp.out]
  unfold SwapPost
  rw [← hn.out, ← hnp.out]
  replace hret := hide hret
  replace hname := hide hname
  obtain ⟨W, hW, hwW, hWs, hx, -⟩ := boxes2 w #[.string f.name, .slice A1 np k1, .int .i64 f.ret, .slice A2 n k2] #[.string ⟨#[]⟩, .slice none 0 0, .int .i64 0, .slice none 0 0] 25 25
  have hR : W.heap[w.heap.size + 1]? = some (.cells #[.string ⟨#[]⟩, .slice none 0 0, .int .i64 0, .slice none 0 0] 25 (0, 0)) := by
    rw [← hW]
    have := box_top (w.alloc (.cells #[.string f.name, .slice A1 np k1, .int .i64 f.ret, .slice A2 n k2] 25)) (.cells #[.string ⟨#[]⟩, .slice none 0 0, .int .i64 0, .slice none 0 0] 25)
    simpa using this
  have q0 : ∀ w', Below W.heap.size W w' → w'.cell? ⟨w.heap.size, 0, none⟩ = some (.string f.name) := hx 0 _ rfl
  have q1 : ∀ w', Below W.heap.size W w' → w'.cell? ⟨w.heap.size, 1, none⟩ = some (.slice A1 np k1) := hx 1 _ rfl
  have q2 : ∀ w', Below W.heap.size W w' → w'.cell? ⟨w.heap.size, 2, none⟩ = some (.int .i64 f.ret) := hx 2 _ rfl
  have q3 : ∀ w', Below W.heap.size W w' → w'.cell? ⟨w.heap.size, 3, none⟩ = some (.slice A2 n k2) := hx 3 _ rfl
  clear hx
  have hws : w.heap.size + 1 < W.heap.size := by omega
  have hself := Below.refl W.heap.size W
  have cC := hide (rcopytree_any f (.slice A1 np k1) (.slice A2 n k2) W B (by omega) (RFun.later hf (hwW.mono hB) (Nat.le_refl _)) hs)
  replace hWs := hide hWs
  replace hs := hide hs
  replace hf := hide hf
  replace hwW := hide hwW
  replace hR := hide hR
  go_enter Try.func21, Try.ntmps21
  go_wp2_with (fail)
  refine cC.out.mono ?_
  rintro e V ⟨c, d, L, rfl, hOI, hPL, hOK, hL0, hbV⟩
  obtain ⟨Am, Cm, hcm⟩ := row_form hOI.row
  subst hcm
  obtain ⟨Ad, Cd, hdm⟩ := hOK.form
  subst hdm
  rw [← hnp.out] at hOI hPL ⊢
  rw [← hn.out] at hOK ⊢
  obtain ⟨xs, ess, hK⟩ := hOK
  go_upto_region 2 with (fail)
  have hsV := hbV.size
  obtain ⟨gB, CB, hAd, -, -⟩ := hK.row.form (by rw [← hn.out]; omega)
  have hAd' : Ad = some ⟨gB, 0, none⟩ := by cases hAd; rfl
  subst hAd'
  clear hAd CB
  have hgB := hide (row_lt hK.row (k := gB) rfl)
  have hSW := hide (fun (e : Value × Value) (he : e ∈ ess.flatten) (k : Nat) (hk : e.2.ownBlock = some k) => (hK.own_at he k).2 hk)
  obtain ⟨Y, hY, hVY, hYs, hy⟩ := boxes1 V #[.string f.name, .slice Am np Cm, .int .i64 f.ret, .slice (some ⟨gB, 0, none⟩) n Cd] 25
  rw [hY]
  obtain ⟨G, hG⟩ : ∃ G, G = V.heap.size := ⟨_, rfl⟩
  rw [← hG] at hy hSW hgB hYs ⊢
  have hVYb := hVY
  rw [← hG] at hVYb
  have hselfY := Only.refl (fun k => L ≤ k ∧ k < G) Y.heap.size Y
  have m0 : ∀ w', Only (fun k => L ≤ k ∧ k < G) Y.heap.size Y w' → w'.cell? ⟨G, 0, none⟩ = some (.string f.name) := fun w' h => (h.cell (p := ⟨G, 0, none⟩) (by show G < _; omega) (fun e => Nat.lt_irrefl _ e.2)).trans (hy 0 _ rfl Y (Below.refl _ _))
  have m1 : ∀ w', Only (fun k => L ≤ k ∧ k < G) Y.heap.size Y w' → w'.cell? ⟨G, 1, none⟩ = some (.slice Am np Cm) := fun w' h => (h.cell (p := ⟨G, 1, none⟩) (by show G < _; omega) (fun e => Nat.lt_irrefl _ e.2)).trans (hy 1 _ rfl Y (Below.refl _ _))
  have m2 : ∀ w', Only (fun k => L ≤ k ∧ k < G) Y.heap.size Y w' → w'.cell? ⟨G, 2, none⟩ = some (.int .i64 f.ret) := fun w' h => (h.cell (p := ⟨G, 2, none⟩) (by show G < _; omega) (fun e => Nat.lt_irrefl _ e.2)).trans (hy 2 _ rfl Y (Below.refl _ _))
  have m3 : ∀ w', Only (fun k => L ≤ k ∧ k < G) Y.heap.size Y w' → w'.cell? ⟨G, 3, none⟩ = some (.slice (some ⟨gB, 0, none⟩) n Cd) := fun w' h => (h.cell (p := ⟨G, 3, none⟩) (by show G < _; omega) (fun e => Nat.lt_irrefl _ e.2)).trans (hy 3 _ rfl Y (Below.refl _ _))
  have hKY : Hid (OwnKd Y L (.slice (some ⟨gB, 0, none⟩) n Cd) (prog a b 0 0 0 f.blocks) xs ess) := hide (by rw [prog_start]; exact hK.kept fun k _ hk => hVY.block k hk)
  have hOIY := hide (hOI.kept (w' := Y) fun k _ hk => hVY.block k hk)
  have hPL' := hide hPL
  have hwY : Hid (Below w.heap.size w Y) := hide (hwW.out.trans ((hbV.trans (hVY.mono hsV)).mono (by omega)))
  have hRY : Hid (Y.heap[w.heap.size + 1]? = some (.cells #[.string ⟨#[]⟩, .slice none 0 0, .int .i64 0, .slice none 0 0] 25 (0, 0))) := hide (((hVY.block _ (by omega)).trans (hbV.block _ hws)).trans hR.out)
  have hGL := hide hL0
  have hGW : Hid (W.heap.size ≤ G) := hide (by rw [hG]; exact hsV)
  have hlx : xs.length = n := by rw [hK.lenx, hn.out]
  have hle : ess.length = n := by rw [hK.lene, hn.out]
  replace hYs := hide hYs
  clear hy hK hOI hPL hVY hVYb hbV hsV hG hY q0 q1 q2 q3 hself hW hL0
  go_wp2
  go_loopw [18] (fun u wr => ∃ i : Nat, u = .int .i64 i ∧ i ≤ n ∧ Hid (OwnKd wr L (.slice (some ⟨gB, 0, none⟩) n Cd) (prog a b i 0 0 f.blocks) xs ess) ∧ Only (fun k => L ≤ k ∧ k < G) Y.heap.size Y wr) (fun u _ => n - (intOf u).toNat)
  case atStart => exact ⟨0, rfl, Nat.zero_le _, hKY, hselfY⟩
  case round =>
    clear hKY hselfY
    obtain ⟨i, rfl, hi, hK, hon⟩ := hrel
    by_cases hlt : i < n
    · have hii : (i : Int) < (n : Int) := by omega
      obtain ⟨c, hc⟩ := get_ex (l := f.blocks) (k := i) (by rw [← hn.out]; exact hlt)
      obtain ⟨xi, hxi⟩ := get_ex (l := xs) (k := i) (by omega)
      obtain ⟨es, hes⟩ := get_ex (l := ess) (k := i) (by omega)
      have hszc := hs.out.code c (List.mem_of_getElem? hc.out)
      obtain ⟨nc, hnc⟩ : ∃ nc, Hid (nc = c.length) := ⟨_, hide rfl⟩
      have hnc8 : nc ≤ 2000000 := by rw [hnc.out]; exact hszc.1
      have hszi := hide hszc.2
      have hCd0 := hK.out.inn i xi _ es hxi.out (prog_at hc.out) hes.out
      obtain ⟨Ac, Cc, hxf⟩ := row_form hCd0.row
      rw [progCode_len, ← hnc.out] at hxf
      subst hxf
      have hel : es.length = nc := by rw [hCd0.len, progCode_len, hnc.out]
      have hrow0 := hK.out.row
      rw [prog_len, ← hn.out] at hrow0
      have r0 : wr.cell? ⟨gB, i, none⟩ = some (.slice Ac nc Cc) := by rw [World.ownsRow.cellAt hrow0 i (by omega)]; exact hxi.out
      clear hszc hCd0 hrow0
      go_wp2
      go_loopw [28] (fun u wr => ∃ k : Nat, u = .int .i64 k ∧ k ≤ nc ∧ Hid (OwnKd wr L (.slice (some ⟨gB, 0, none⟩) n Cd) (prog a b i k 0 f.blocks) xs ess) ∧ Only (fun k => L ≤ k ∧ k < G) Y.heap.size Y wr) (fun u _ => nc - (intOf u).toNat)
      case atStart => exact ⟨0, rfl, Nat.zero_le _, hK, hon⟩
      case round =>
        clear hK hon r0
        obtain ⟨k, rfl, hk, hK, hon⟩ := hrel
        by_cases hlt2 : k < nc
        · have hki : (k : Int) < (nc : Int) := by omega
          obtain ⟨x, hx⟩ := get_ex (l := c) (k := k) (by rw [← hnc.out]; exact hlt2)
          obtain ⟨⟨cv, dv⟩, he⟩ := get_ex (l := es) (k := k) (by omega)
          obtain ⟨nt, hnt⟩ : ∃ nt, Hid (nt = x.to.length) := ⟨_, hide rfl⟩
          have hnt8 : nt ≤ 2000000 := by rw [hnt.out]; exact (hszi.out x (List.mem_of_getElem? hx.out)).2
          have hCd0 := hK.out.inn i _ _ es hxi.out (prog_at hc.out) hes.out
          obtain ⟨-, hto0, -⟩ := hCd0.inn k _ _ (progCode_at hx.out) he.out
          obtain ⟨At, Ct, hdf⟩ := row_form hto0.row
          have hdf' : dv = .slice At nt Ct := by
            have e : (progIns a b i k 0 i k x).to.length = x.to.length := progTo_len
            rw [e, ← hnt.out] at hdf
            exact hdf
          subst hdf'
          obtain ⟨gc, CC, hAc, -, -⟩ := hCd0.row.form (by rw [progCode_len, ← hnc.out]; omega)
          have hAc' : Ac = some ⟨gc, 0, none⟩ := by cases hAc; rfl
          subst hAc'
          clear hAc CC
          have hrow0 := hK.out.row
          rw [prog_len, ← hn.out] at hrow0
          have r0 : wr.cell? ⟨gB, i, none⟩ = some (.slice (some ⟨gc, 0, none⟩) nc Cc) := by rw [World.ownsRow.cellAt hrow0 i (by omega)]; exact hxi.out
          have hrow1 := hCd0.row
          rw [progCode_len, ← hnc.out] at hrow1
          have r1 : wr.cell? ⟨gc, k * 7 + 6, none⟩ = some (.slice At nt Ct) := by rw [World.ownsRow.cellAt hrow1 (k * 7 + 6) (by omega)]; exact cellsOf_at (progCode_at hx.out) he.out rfl
          clear hto0 hCd0 hrow0 hrow1 hdf
          go_wp2
          go_loopw [43] (fun u wr => ∃ j : Nat, u = .int .i64 j ∧ j ≤ nt ∧ Hid (OwnKd wr L (.slice (some ⟨gB, 0, none⟩) n Cd) (prog a b i k j f.blocks) xs ess) ∧ Only (fun k => L ≤ k ∧ k < G) Y.heap.size Y wr) (fun u _ => nt - (intOf u).toNat)
          case atStart => exact ⟨0, rfl, Nat.zero_le _, hK, hon⟩
          case round =>
            clear hK hon r0 r1
            obtain ⟨j, rfl, hj, hK, hon⟩ := hrel
            by_cases hlt3 : j < nt
            · have hji : (j : Int) < (nt : Int) := by omega
              obtain ⟨t, ht⟩ := get_ex (l := x.to) (k := j) (by rw [← hnt.out]; exact hlt3)
              have hCd := hK.out.inn i _ _ es hxi.out (prog_at hc.out) hes.out
              obtain ⟨-, hto, -⟩ := hCd.inn k _ _ (progCode_at hx.out) he.out
              have htl : (progIns a b i k j i k x).to.length = x.to.length := progTo_len
              obtain ⟨gt, CT, hAt, -, -⟩ := hto.row.form (by rw [htl, ← hnt.out]; omega)
              have hAt' : At = some ⟨gt, 0, none⟩ := by cases hAt; rfl
              subst hAt'
              clear hAt CT
              have htv : (progIns a b i k j i k x).to[j]? = some t := by
                show (progTo a b i k j i k x.to)[j]? = _
                rw [progTo_at ht.out, if_neg (by unfold Done; omega)]
              have hrow := hto.row
              rw [htl, ← hnt.out] at hrow
              have r0 : wr.cell? ⟨gt, j, none⟩ = some (.int .i64 t) := by rw [World.ownsRow.cellAt hrow j (by omega), List.getElem?_map, htv]; rfl
              have f0 : wr.frozen? ⟨gt, j, none⟩ = false := World.ownsRow.frozenAt hrow j
              have h64 : I64 t := hto.ok t (List.mem_of_getElem? htv)
              have hm64 : I64 (mv a b t) := by
                unfold mv
                split
                · exact i64_mk (by omega) (by omega)
                · split
                  · exact i64_mk (by omega) (by omega)
                  · exact h64
              have hput := hK.out.put_to (j := j) (z := mv a b t) (prog_at hc.out) hes.out (progCode_at hx.out) he.out (by rw [htl, ← hnt.out]; exact hlt3) hm64
              rw [prog_step hc.out hx.out ht.out] at hput
              have hb5 := hSW.out _ (List.mem_flatten.2 ⟨es, List.mem_of_getElem? hes.out, List.mem_of_getElem? he.out⟩) gt rfl
              have hon2 := hide (hon.setCell (S := fun k => L ≤ k ∧ k < G) (p := ⟨gt, j, none⟩) (.inl hb5) (.int .i64 (mv a b t)))
              replace hput := hide hput
              clear hCd hto htl htv hrow h64 hm64 hb5
              go_wp2_with (first | (go_at_call 22; refine (moved_any t a b _).mono ?_; rintro e w5 ⟨rfl, rfl⟩))
              go_roundw
              case rel => exact ⟨j + 1, by go_num, hlt3, hput, hon2.out⟩
              case measure => simp [intOf]; omega
            · obtain rfl : j = nt := by omega
              have hnext : Hid (OwnKd wr L (.slice (some ⟨gB, 0, none⟩) n Cd) (prog a b i (k + 1) 0 f.blocks) xs ess) := hide (by rw [← prog_next_ins hc.out hx.out, ← hnt.out]; exact hK.out)
              go_wp2
              go_roundw
              case rel => exact ⟨k + 1, by go_num, hlt2, hnext, hon⟩
              case measure => simp [intOf]; omega
        · obtain rfl : k = nc := by omega
          have hnext : Hid (OwnKd wr L (.slice (some ⟨gB, 0, none⟩) n Cd) (prog a b (i + 1) 0 0 f.blocks) xs ess) := hide (by rw [← prog_next_block hc.out, ← hnc.out]; exact hK.out)
          go_wp2
          go_roundw
          case rel => exact ⟨i + 1, by go_num, hlt, hnext, hon⟩
          case measure => simp [intOf]; omega
    · obtain rfl : i = n := by omega
      have hE : prog a b i 0 0 f.blocks = mvAll a b f.blocks := by rw [hn.out]; exact prog_end
      have hml : (mvAll a b f.blocks).length = i := by rw [hn.out]; simp [mvAll]
      rw [hE] at hK
      obtain ⟨xa, hxa⟩ := get_ex (l := xs) (k := a) (by omega)
      obtain ⟨xb, hxb⟩ := get_ex (l := xs) (k := b) (by omega)
      obtain ⟨ca, hca⟩ := get_ex (l := mvAll a b f.blocks) (k := a) (by omega)
      obtain ⟨cb, hcb⟩ := get_ex (l := mvAll a b f.blocks) (k := b) (by omega)
      obtain ⟨Aa, na, Ca, hfa⟩ : ∃ A n C, xa = .slice A n C := by
        obtain ⟨_, _, -, -, hc⟩ := hK.out.code_at hxa.out
        obtain ⟨A, C, h⟩ := row_form hc.row
        exact ⟨A, _, C, h⟩
      obtain ⟨Ab, nb, Cb, hfb⟩ : ∃ A n C, xb = .slice A n C := by
        obtain ⟨_, _, -, -, hc⟩ := hK.out.code_at hxb.out
        obtain ⟨A, C, h⟩ := row_form hc.row
        exact ⟨A, _, C, h⟩
      subst hfa
      subst hfb
      have hrow := hK.out.row
      rw [hml] at hrow
      have r1 : wr.cell? ⟨gB, a, none⟩ = some (.slice Aa na Ca) := by rw [World.ownsRow.cellAt hrow a (by omega)]; exact hxa.out
      have r2 : wr.cell? ⟨gB, b, none⟩ = some (.slice Ab nb Cb) := by rw [World.ownsRow.cellAt hrow b (by omega)]; exact hxb.out
      have f1 : wr.frozen? ⟨gB, a, none⟩ = false := World.ownsRow.frozenAt hrow a
      have hrow1 := (World.ownsRow.stored hrow a (.slice Ab nb Cb)).1
      have r3 : (wr.setCell ⟨gB, a, none⟩ (.slice Ab nb Cb)).cell? ⟨gB, b, none⟩ = some (.slice Ab nb Cb) := by
        rw [World.ownsRow.cellAt hrow1 b (by omega)]
        by_cases hab : a = b
        · rw [hab, List.getElem?_set_self (by omega)]
        · rw [List.getElem?_set_ne hab]; exact hxb.out
      have f3 : (wr.setCell ⟨gB, a, none⟩ (.slice Ab nb Cb)).frozen? ⟨gB, b, none⟩ = false := World.ownsRow.frozenAt hrow1 b
      have hsw := hide (hK.out.swap hxa.out hxb.out hca.out hcb.out)
      have hgb : L ≤ gB ∧ gB < G := ⟨hgB.out.1, hgB.out.2.1⟩
      have hon2 := hide ((hon.setCell (S := fun k => L ≤ k ∧ k < G) (p := ⟨gB, a, none⟩) (.inl hgb) (.slice Ab nb Cb)).setCell (p := ⟨gB, b, none⟩) (.inl hgb) (.slice Aa na Ca))
      have hbs : Hid (((mvAll a b f.blocks).set a cb).set b ca = swapS a b f.blocks) := hide (by
        unfold swapS
        rw [show (mvAll a b f.blocks).getD b [] = cb by simp [List.getD, hcb.out], show (mvAll a b f.blocks).getD a [] = ca by simp [List.getD, hca.out]])
      rw [hbs.out] at hsw
      have m3a := m3 _ (hon.setCell (S := fun k => L ≤ k ∧ k < G) (p := ⟨gB, a, none⟩) (.inl hgb) (.slice Ab nb Cb))
      replace hrow := hide hrow
      replace hrow1 := hide hrow1
      replace hgb := hide hgb
      replace hE := hide hE
      replace hml := hide hml
      clear hK
      go_upto_region 16 with (fail)
      go_region
      go_upto_region 17 with (fail)
      obtain ⟨X, hX⟩ : ∃ X, X = ((wr.setCell ⟨gB, a, none⟩ (.slice Ab nb Cb)).setCell ⟨gB, b, none⟩ (.slice Aa na Ca)).drew := ⟨_, rfl⟩
      have honX : Only (fun k => L ≤ k ∧ k < G) Y.heap.size Y X := by rw [hX]; exact hon2.out.drew
      have hswX : Hid (OwnK X L (.slice (some ⟨gB, 0, none⟩) i Cd) (swapS a b f.blocks)) := hide (by rw [hX]; exact hsw.out.kept fun k _ _ => rfl)
      rw [← hX]
      clear hX hon hon2 hsw r1 r2 r3 f1 f3 m3a
      have hGLo := hGL.out
      have hRX : X.heap[w.heap.size + 1]? = some (.cells #[.string ⟨#[]⟩, .slice none 0 0, .int .i64 0, .slice none 0 0] 25 (0, 0)) := (honX.block _ (by have := hYs.out; have := hGW.out; omega) (fun e => by have := e.1; omega)).trans hRY.out
      have hOIX : Hid (OwnI X W.heap.size (.slice Am np Cm) f.params) := hide ⟨row_kept hOIY.out.row fun k hk => honX.block k (row_lt hOIY.out.row hk).2.1 (fun e => by have := hPL'.out k hk; omega), hOIY.out.ok⟩
      have honX2 := hide honX
      obtain ⟨s0, s1, s2, s3⟩ := box4 hRX
      have g0 := one_free (j := 0) hRX
      have g1 := one_free (j := 1) hRX
      have g2 := one_free (j := 2) hRX
      have g3 := one_free (j := 3) hRX
      go_wp2
      refine bodyPost_ret (v := f.v (.slice Am np Cm) (.slice (some ⟨gB, 0, none⟩) i Cd)) (by simp [results, Try.results21, go_sem, s0, s1, s2, s3, g0, g1, g2, g3]) rfl ?_
      have hkeep : ∀ (v0 v1 v2 v3 : Value) (k : Nat), W.heap.size ≤ k → ((((X.setCell ⟨w.heap.size + 1, 0, none⟩ v0).setCell ⟨w.heap.size + 1, 1, none⟩ v1).setCell ⟨w.heap.size + 1, 2, none⟩ v2).setCell ⟨w.heap.size + 1, 3, none⟩ v3).heap[k]? = X.heap[k]? := fun v0 v1 v2 v3 k hk => by
        have hne : k ≠ w.heap.size + 1 := by omega
        rw [Below.heap_setCell _ _ _ _ hne, Below.heap_setCell _ _ _ _ hne, Below.heap_setCell _ _ _ _ hne, Below.heap_setCell _ _ _ _ hne]
      have hK9 := (hswX.out.kept fun k h1 _ => hkeep (.string f.name) (.slice Am np Cm) (.int .i64 f.ret) (.slice (some ⟨gB, 0, none⟩) i Cd) k (by omega)).rep
      have hI9 := (hOIX.out.kept fun k h1 _ => hkeep (.string f.name) (.slice Am np Cm) (.int .i64 f.ret) (.slice (some ⟨gB, 0, none⟩) i Cd) k h1).rep
      have hX9 := hwY.out.trans (honX2.out.to_below (B' := w.heap.size) (fun k hk => by omega) hwY.out.size)
      exact ⟨Am, Cm, some ⟨gB, 0, none⟩, Cd, rfl, ⟨_, _, rfl, hI9, hK9, hret.out, hname.out⟩,
        (((hX9.setCell (p := ⟨w.heap.size + 1, 0, none⟩) (Nat.le_succ _) _).setCell (p := ⟨w.heap.size + 1, 1, none⟩) (Nat.le_succ _) _).setCell (p := ⟨w.heap.size + 1, 2, none⟩) (Nat.le_succ _) _).setCell (p := ⟨w.heap.size + 1, 3, none⟩) (Nat.le_succ _) _⟩
end Go.Proofs.Ytidjaohlaljmpaa
