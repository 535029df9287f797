/- latheref14.Clean. No condition but sizes. -/
import Derived.Test.YtkhlnopbgngjbaaUsF
import Derived.Test.YtkhlnopbgngjbaaUsD
namespace Go.Proofs.Ytkhlnopbgngjbaa
open Go.RowKit
set_option linter.unusedSimpArgs false
set_option linter.unusedVariables false

set_option maxRecDepth 100000 in
set_option maxHeartbeats 12800000 in
theorem rclean_any (f : Fun) (c1 c2 : Value) (w : World) (B : Nat) (hB : B ≤ w.heap.size) (hf : RFun.rep w B [.string f.name, c1, .int .i64 f.ret, c2] f) (hs : Small f) (hfl : f.blocks.flatten.length ≤ 2000000) :
    Calls Try.prog 19 #[f.v c1 c2] w (CopyPost (setBlocks f (cleanL f.blocks)) w) := by
  obtain ⟨hp, hb⟩ := fun_open (RFun.later hf (Below.refl _ _) hB)
  obtain ⟨A1, k1, h1, -, -⟩ := Rp.slice1_open hp
  obtain ⟨A2, k2, h2, -, -⟩ := Rp.slice1_open hb
  cases h1; cases h2
  clear hp hb
  obtain ⟨n, hn⟩ : ∃ n, Hid (n = f.blocks.length) := ⟨_, hide rfl⟩
  obtain ⟨np, hnp⟩ : ∃ n, Hid (n = f.params.length) := ⟨_, hide rfl⟩
  obtain ⟨len, hlen⟩ : ∃ len : Nat → Nat, Hid (len = fun b => (f.blocks.getD b []).length) := ⟨_, hide rfl⟩
  have hlenx : Hid (∀ (b : Nat) l, f.blocks[b]? = some l → len b = l.length) := hide (fun b l h => by rw [hlen.out]; show (f.blocks.getD b []).length = _; rw [getD_nil h])
  have hnle : n ≤ 2000000 := by rw [hn.out]; exact hs.blocks
  have hcode : Hid (∀ (b : Nat) l, f.blocks[b]? = some l → l.length ≤ 2000000) := hide (fun b l h => (hs.code l (List.mem_of_getElem? h)).1)
  rw [← hn.out, ← hnp.out] at hf ⊢
  obtain ⟨i0, hi0, hz0, hz1, hz2⟩ := cinfo_parts cinfo_InstrU
  replace hi0 := hide hi0
  replace hz0 := hide hz0
  replace hz1 := hide hz1
  replace hz2 := hide hz2
  obtain ⟨W, hW, hwW, hWs, hx, -⟩ := boxes2 w #[.string f.name, .slice A1 np k1, .int .i64 f.ret, .slice A2 n k2] #[.string ⟨#[]⟩, .slice none 0 0, .int .i64 0, .slice none 0 0] 25 25
  have hR2 : Hid (W.heap[w.heap.size + 1]? = some (.cells #[.string ⟨#[]⟩, .slice none 0 0, .int .i64 0, .slice none 0 0] 25 (0, 0))) := hide (by
    rw [← hW]
    have := box_top (w.alloc (.cells #[.string f.name, .slice A1 np k1, .int .i64 f.ret, .slice A2 n k2] 25)) (.cells #[.string ⟨#[]⟩, .slice none 0 0, .int .i64 0, .slice none 0 0] 25)
    simpa using this)
  have q0 : ∀ w', Below W.heap.size W w' → w'.cell? ⟨w.heap.size, 0, none⟩ = some (.string f.name) := hx 0 _ rfl
  have q1 : ∀ w', Below W.heap.size W w' → w'.cell? ⟨w.heap.size, 1, none⟩ = some (.slice A1 np k1) := hx 1 _ rfl
  have q2 : ∀ w', Below W.heap.size W w' → w'.cell? ⟨w.heap.size, 2, none⟩ = some (.int .i64 f.ret) := hx 2 _ rfl
  have q3 : ∀ w', Below W.heap.size W w' → w'.cell? ⟨w.heap.size, 3, none⟩ = some (.slice A2 n k2) := hx 3 _ rfl
  clear hx
  have hws : w.heap.size + 1 < W.heap.size := by omega
  replace hWs := hide hWs
  have hW2 := hide hW
  have hself := Below.refl W.heap.size W
  have hF : Hid (∀ w', Below W.heap.size W w' → RFun.rep w' w'.heap.size [.string f.name, .slice A1 np k1, .int .i64 f.ret, .slice A2 n k2] f) := hide (fun w' h => RFun.later hf ((hwW.trans (h.mono (by omega))).mono hB) (Nat.le_trans hB (hwW.trans (h.mono (by omega))).size))
  have cN : Hid (Calls Try.prog 17 #[f.v (.slice A1 np k1) (.slice A2 n k2)] W (RNeededPost f.blocks W)) := hide (rneeded_any f _ _ W W.heap.size (Nat.le_refl _) (hF.out W hself) hs hfl)
  have cC : Hid (∀ w', Below W.heap.size W w' → Calls Try.prog 15 #[f.v (.slice A1 np k1) (.slice A2 n k2)] w' (CopyPost f w')) := hide (fun w' h => rcopyfunc_any f _ _ w' w'.heap.size (Nat.le_refl _) (hF.out w' h) hs)
  replace hwW := hide hwW
  replace hs := hide hs
  clear hW hf
  go_enter Try.func19, Try.ntmps19
  go_upto_region 1 with (fail)
  rw [hW2.out]
  clear hW2
  go_wp2_with (fail)
  refine cN.out.mono ?_
  rintro e X ⟨g, T, rfl, hT, hTb, hbX⟩
  rw [← hn.out, ← hlen.out] at hT
  rw [← hn.out]
  replace hT := hide hT
  replace hTb := hide hTb
  have hsX := hbX.size
  go_upto_region 2 with (fail)
  go_wp2_with (fail)
  refine (cC.out X hbX).mono ?_
  rintro e Y ⟨c, d, rfl, hOI, hOK, hbY⟩
  have hWY := hbX.trans (hbY.mono hsX)
  have hsY := hbY.size
  obtain ⟨Ac, Cc, hcf⟩ := row_form hOI.row
  obtain ⟨Ad, Cd, hdf⟩ := hOK.formU
  rw [← hnp.out] at hcf
  rw [← hn.out] at hdf
  subst hcf; subst hdf
  have hYN2 := (hWY.block (w.heap.size + 1) hws).trans hR2.out
  have hlo : w.heap.size + 1 < X.heap.size := by omega
  have hZN := hide (box_top Y (.cells #[.string f.name, .slice Ac np Cc, .int .i64 f.ret, .slice Ad n Cd] 25))
  have hbYZ := (Below.refl Y.heap.size Y).alloc (Nat.le_refl _) (.cells #[.string f.name, .slice Ac np Cc, .int .i64 f.ret, .slice Ad n Cd] 25)
  have hZN2 := hide ((hbYZ.block (w.heap.size + 1) (by omega)).trans hYN2)
  have hKZ := hide (hOK.kept fun k _ hk => hbYZ.block k hk)
  have hIZ := hide (hOI.kept fun k _ hk => hbYZ.block k hk)
  have hbXZ := hbY.trans (hbYZ.mono hsY)
  have hwX : Hid (∀ w', Below X.heap.size X w' → Below w.heap.size w w') := hide (fun w' h => (hwW.out.trans (hbX.mono (by omega))).trans (h.mono (by omega)))
  replace hYN2 := hide hYN2
  replace hbX := hide hbX
  replace hbY := hide hbY
  replace hWY := hide hWY
  replace hF := hide hF
  clear hOI hOK cN cC q0 q1 q2 q3 hR2 hself hbYZ
  go_upto_region 3 with (fail)
  obtain ⟨Z, hZ⟩ : ∃ Z, Y.alloc (.cells #[.string f.name, .slice Ac np Cc, .int .i64 f.ret, .slice Ad n Cd] 25) = Z := ⟨_, rfl⟩
  have hNZ : Y.heap.size < Z.heap.size := by rw [← hZ]; simp
  rw [hZ] at hZN hZN2 hKZ hIZ hbXZ ⊢
  clear hZ
  obtain ⟨N4, hN4⟩ : ∃ N4, N4 = Y.heap.size := ⟨_, rfl⟩
  rw [← hN4] at hZN hNZ ⊢
  have hXN : X.heap.size ≤ N4 := by omega
  replace hN4 := hide hN4
  rw [← mixL_zero f.blocks] at hKZ
  go_wp2
  go_loopw [5] (fun s wr => ∃ b : Nat, s = .int .i64 b ∧ b ≤ n ∧ Hid (OwnI wr X.heap.size (.slice Ac np Cc) f.params) ∧ Hid (OwnK wr X.heap.size (.slice Ad n Cd) (mixL f.blocks b)) ∧ Hid (wr.heap[N4]? = some (.cells #[.string f.name, .slice Ac np Cc, .int .i64 f.ret, .slice Ad n Cd] 25 (0, 0))) ∧ Hid (wr.heap[w.heap.size + 1]? = some (.cells #[.string ⟨#[]⟩, .slice none 0 0, .int .i64 0, .slice none 0 0] 25 (0, 0))) ∧ Below X.heap.size X wr) (fun s _ => n - (intOf s).toNat)
  case atStart => exact ⟨0, rfl, Nat.zero_le _, hIZ, hKZ, hZN, hZN2, hbXZ⟩
  case round =>
    clear hIZ hKZ hZN hZN2 hbXZ
    rename World => V
    obtain ⟨b, rfl, hb, hOI, hOK, hN, hN2, hbel⟩ := hrel
    obtain ⟨z0, z1, z2, z3⟩ := box4 hN.out
    by_cases hlt : b < n
    · have hbi : (b : Int) < (n : Int) := by omega
      obtain ⟨x, hx⟩ := get_ex (l := f.blocks) (k := b) (by rw [← hn.out]; exact hlt)
      have hmix := mixL_at hx.out
      obtain ⟨gd, cx, rfl, hCx, hgd1, hgd2, rd, fd, csd, hcsd⟩ := hOK.out.at_ hmix
      obtain ⟨A3, C3, hcx⟩ := hCx.formU
      have hxl := hcode.out b x hx.out
      have hlb := hlenx.out b x hx.out
      subst hcx
      replace hcsd := hide hcsd
      replace hmix := hide hmix
      have hCxh := hide hCx
      obtain ⟨At, Ct, trow, tcells⟩ := hT.out b hlt
      rw [hlb] at trow
      have hVs := hbel.size
      have trowh : ∀ w', Below V.heap.size V w' → w'.cell? ⟨g, b, none⟩ = some (.slice At x.length Ct) := fun w' h => trow w' (hbel.trans (h.mono hVs))
      have tcell : Hid (∀ i ins, x[i]? = some ins → ∃ gk, At = some ⟨gk, 0, none⟩ ∧ ∀ w', Below V.heap.size V w' → w'.cell? ⟨gk, i, none⟩ = some (.bool (needB f.blocks.flatten ins))) := hide (fun i ins h => by
        have hi : i < len b := by rw [hlb]; exact (List.getElem?_eq_some_iff.1 h).1
        obtain ⟨gk, h1, h2⟩ := tcells i hi
        refine ⟨gk, h1, fun w' hb' => ?_⟩
        rw [h2 w' (hbel.trans (hb'.mono hVs)), hTb.out b i ins (insAt_of hx.out h)])
      have z3h : ∀ w', Below V.heap.size V w' → w'.cell? ⟨N4, 3, none⟩ = some (.slice (some ⟨gd, 0, none⟩) n Cd) := fun w' h => (h.cell (p := ⟨N4, 3, none⟩) (by have := (Array.getElem?_eq_some_iff.1 hN.out).1; exact this)).trans z3
      have rdh : ∀ w', Below V.heap.size V w' → w'.cell? ⟨gd, b, none⟩ = some (.slice A3 x.length C3) := fun w' h => (h.cell (p := ⟨gd, b, none⟩) hgd2).trans rd
      have fdh : ∀ w', Below V.heap.size V w' → w'.frozen? ⟨gd, b, none⟩ = false := fun w' h => (h.frozen (p := ⟨gd, b, none⟩) hgd2).trans fd
      have hselfV := Below.refl V.heap.size V
      replace hlb := hide hlb
      clear hCx trow tcells rd fd
      go_wp2
      go_loopw [7, 6] (fun s u6 wr => ∃ i : Nat, s = .int .i64 i ∧ i ≤ x.length ∧ Hid (OwnC wr X.heap.size u6 ((x.take i).filter (needB f.blocks.flatten))) ∧ Hid (∀ k, u6.ownBlock = some k → V.heap.size ≤ k) ∧ Below V.heap.size V wr) (fun s _ _ => x.length - (intOf s).toNat)
      case atStart => exact ⟨0, rfl, Nat.zero_le _, hide OwnC.nil_, hide (fun k h => by cases h), hselfV⟩
      case round =>
        rename World => wr
        rename_i u6
        clear hselfV z0 z1 z2 z3
        obtain ⟨i, rfl, hi, hO5, hown5, hbelV⟩ := hrel
        by_cases hlt2 : i < x.length
        · have hii : (i : Int) < (x.length : Int) := by omega
          obtain ⟨ins, hins⟩ := get_ex (l := x) (k := i) hlt2
          obtain ⟨g3, ca, da, rfl, hva, hvd, hok, hg1, hg2, hcell⟩ := hCxh.out.cells hins.out
          obtain ⟨A5, k5, rfl⟩ := row_form hva.row
          obtain ⟨A6, k6, rfl⟩ := row_form hvd.row
          have hc : ∀ (j : Nat) u, (insC ins (.slice A5 ins.args.length k5) (.slice A6 ins.to.length k6))[j]? = some u → wr.cell? ⟨g3, i * 7 + j, none⟩ = some u := fun j u hu => (hbelV.cell (p := ⟨g3, i * 7 + j, none⟩) hg2).trans (hcell j u hu)
          have e0 := hc 0 _ rfl
          have e1 := hc 1 _ rfl
          have e2 := hc 2 _ rfl
          have e3 := hc 3 _ rfl
          have e4 := hc 4 _ rfl
          have e5 := hc 5 _ rfl
          have e6 := hc 6 _ rfl
          simp only [Nat.add_zero] at e0
          obtain ⟨gk, rfl, tc⟩ := tcell.out i ins hins.out
          have tc' := tc wr hbelV
          have hst := filter_step (q := needB f.blocks.flatten) hins.out
          replace hok := hide hok
          clear hcell hc tc
          obtain ⟨bq, hbq⟩ : ∃ bq : Bool, Hid (needB f.blocks.flatten ins = bq) := ⟨_, hide rfl⟩
          rw [hbq.out] at tc' hst
          cases bq with
          | false =>
            rw [if_neg (by simp), List.append_nil] at hst
            have hO8 : Hid (OwnC wr X.heap.size u6 ((x.take (i + 1)).filter (needB f.blocks.flatten))) := hide (by rw [hst]; exact hO5.out)
            replace hst := hide hst
            replace hva := hide hva
            replace hvd := hide hvd
            go_wp2
            go_roundw
            case rel => exact ⟨i + 1, by go_num, hlt2, hO8, hown5, hbelV⟩
            case measure => simp [intOf]; omega
          | true =>
            rw [if_pos rfl] at hst
            obtain ⟨xs7, hrow7, hmore⟩ := hO5.out.more
            obtain ⟨m7, hm7⟩ : ∃ m7, Hid (m7 = ((x.take i).filter (needB f.blocks.flatten)).length) := ⟨_, hide rfl⟩
            have hm7l : m7 ≤ 2000000 := by
              rw [hm7.out]
              exact Nat.le_trans (List.length_filter_le _ _) (Nat.le_trans (List.length_take_le' _ _) hxl)
            rw [← hm7.out] at hrow7 hmore
            have hva7 := hide (hva.kept (w' := wr) fun k _ hk => hbelV.block k hk)
            have hvd7 := hide (hvd.kept (w' := wr) fun k _ hk => hbelV.block k hk)
            have hsZ := hbelV.size
            replace hst := hide hst
            replace hva := hide hva
            replace hvd := hide hvd
            replace hrow7 := hide hrow7
            replace hmore := hide hmore
            go_wp2_with (at_builtin
                         refine wpList_append_lies _ rfl (.tmp 37) (.tmp 47) _ rfl X.heap.size 74 i0 _ 7 88 Try.underlying69 hi0.out hz0.out hz1.out hz2.out rfl (by omega) u6 m7 xs7 rfl (hrow7.out.alloc _) ⟨wr.heap.size, 0, none⟩ 1 1 (insC ins (.slice A5 ins.args.length k5) (.slice A6 ins.to.length k6)) rfl rfl ?c1 ?c2 (by omega) ?c3 ?c4 ?c5 (wr.heap.size + 1) ?c6 ?_
                         case c1 => exact World.news_of_block (cs := (insC ins (.slice A5 ins.args.length k5) (.slice A6 ins.to.length k6)).toArray) (t := 74) (fr := (0, 0)) (heap_alloc_new wr _)
                         case c2 => exact insC_one ⟨_, _, _, rfl⟩ ⟨_, _, _, rfl⟩
                         case c3 => unfold maxLen; omega
                         case c4 => omega
                         case c5 => simp; omega
                         case c6 => simp
                         intro gq cq w1 hown1 hg1 hgq hlt1
                         have hO8 := hide (hmore.out ins _ _ w1 _ hva7.out hvd7.out hok.out hown1 hg1)
                         have hbw1 : Below V.heap.size V w1 := (hbelV.alloc hsZ _).grown hg1 (by simp; omega) (fun k hk => hown5.out k hk)
                         have hown8 : Hid (V.heap.size ≤ gq) := hide (by
                           rcases hgq with h | h
                           · exact hown5.out gq h
                           · omega)
                         replace hown1 := hide hown1
                         replace hg1 := hide hg1
                         replace hgq := hide hgq
                         replace hlt1 := hide hlt1)
            go_roundw
            case rel => exact ⟨i + 1, by go_num, hlt2, hide (by rw [hst.out]; exact hO8.out), hide (fun k h => by cases h; exact hown8.out), hbw1⟩
            case measure => simp [intOf]; omega
        · obtain rfl : i = x.length := by omega
          rw [List.take_length] at hO5
          obtain ⟨A8, C8, h8⟩ := hO5.out.formU
          subst h8
          have hOKr := hOK.out.kept (w' := wr) fun k _ hk => hbelV.block k hk
          have hst := hOKr.store hO5.out (j := b) (by rw [mixL_len, ← hn.out]; exact hlt)
          rw [mixL_next hx.out] at hst
          replace hst := hide hst
          have hcs2 := (hbelV.block gd hgd2).trans hcsd.out
          have hNr := (hbelV.block N4 (Array.getElem?_eq_some_iff.1 hN.out).1).trans hN.out
          have hN2r := (hbelV.block (w.heap.size + 1) (Array.getElem?_eq_some_iff.1 hN2.out).1).trans hN2.out
          have hNn := hide ((setCell_heap_ne (p := ⟨gd, b, none⟩) (u := .slice A8 (x.filter (needB f.blocks.flatten)).length C8) hNr hcs2 (by decide)).trans hNr)
          have hN2n := hide ((setCell_heap_ne (p := ⟨gd, b, none⟩) (u := .slice A8 (x.filter (needB f.blocks.flatten)).length C8) hN2r hcs2 (by decide)).trans hN2r)
          have hIr := hOI.out.kept (w' := wr) fun k _ hk => hbelV.block k hk
          have hIn : Hid (OwnI (wr.setCell ⟨gd, b, none⟩ (.slice A8 (x.filter (needB f.blocks.flatten)).length C8)) X.heap.size (.slice Ac np Cc) f.params) := hide ⟨row_kept hIr.row fun k hk => by obtain ⟨-, -, c9, hc9⟩ := row_lt hIr.row hk; exact setCell_heap_ne hc9 hcs2 (by decide), hIr.ok⟩
          have hbn := hide ((hbel.trans (hbelV.mono hbel.size)).setCell (p := ⟨gd, b, none⟩) hgd1 (.slice A8 (x.filter (needB f.blocks.flatten)).length C8))
          have hsr := hide hOKr
          replace hcs2 := hide hcs2
          replace hNr := hide hNr
          replace hN2r := hide hN2r
          replace hIr := hide hIr
          clear hOKr
          go_wp2
          go_roundw
          case rel => exact ⟨b + 1, by go_num, hlt, hIn, hst, hNn, hN2n, hbn.out⟩
          case measure => simp [intOf]; omega
    · obtain rfl : b = n := by omega
      have hfin : Hid (OwnK V X.heap.size (.slice Ad b Cd) (cleanL f.blocks)) := hide (by have h := hOK.out; rw [hn.out, mixL_end, ← hn.out] at h; exact h)
      obtain ⟨s0, s1, s2, s3⟩ := box4 hN2.out
      have g0 := one_free (j := 0) hN2.out
      have g1 := one_free (j := 1) hN2.out
      have g2 := one_free (j := 2) hN2.out
      have g3 := one_free (j := 3) hN2.out
      have hbelh := hwX.out V hbel
      replace hbel := hide hbel
      replace hbelh := hide hbelh
      go_wp2
      refine bodyPost_ret (v := f.v (.slice Ac np Cc) (.slice Ad b Cd)) (by simp [results, Try.results19, go_sem, s0, s1, s2, s3, g0, g1, g2, g3]) rfl ⟨_, _, rfl, (hOI.out.kept fun k hk _ => set4_far (by omega)).mono (by omega), (hfin.out.kept fun k hk _ => set4_far (by omega)).mono (by omega), ?_⟩
      exact (((hbelh.out.setCell (p := ⟨w.heap.size + 1, 0, none⟩) (Nat.le_succ _) _).setCell (p := ⟨w.heap.size + 1, 1, none⟩) (Nat.le_succ _) _).setCell (p := ⟨w.heap.size + 1, 2, none⟩) (Nat.le_succ _) _).setCell (p := ⟨w.heap.size + 1, 3, none⟩) (Nat.le_succ _) _
end Go.Proofs.Ytkhlnopbgngjbaa
