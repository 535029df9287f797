/- ir.Copy. No condition but sizes. -/
import Derived.Test.YtaljdbmmjgmbbaaIrCb
import Derived.Test.YtaljdbmmjgmbbaaIcB
import Derived.Test.YtaljdbmmjgmbbaaSp
import Derived.Deep.RegionLaw
import Derived.StillTailTactics
namespace Go.Proofs.Ytaljdbmmjgmbbaa
open Go.RowKit
set_option linter.unusedSimpArgs false
set_option linter.unusedVariables false

theorem OwnR.nil_ {w : World} {B : Nat} : OwnR w B (.slice none 0 0) [] := ⟨⟨rfl, .inl ⟨rfl, rfl⟩⟩, fun x h => by simp at h⟩
def CloneRPost (l : List Vr) (w : World) (e : Ending) (w' : World) : Prop := ∃ v, e = .returned v ∧ OwnR w' w.heap.size v l ∧ Below w.heap.size w w'
set_option maxRecDepth 100000 in
theorem clone_vars (v : Value) (l : List Vr) (w : World) (hr : RVrs.rep w w.heap.size [v] l) (hl : l.length ≤ 2000000) :
    Calls Try.prog 85 #[v] w (CloneRPost l w) := by
  obtain ⟨A, cap, rfl, hn, hok, hs⟩ := vars_src hr
  obtain ⟨n, hnl⟩ : ∃ n, Hid (n = l.length) := ⟨_, hide rfl⟩
  rw [← hnl.out] at hl hn ⊢
  obtain ⟨i0, hi0, hz0, hz1, hz2⟩ := cinfo_parts cinfo_Var
  replace hi0 := hide hi0
  replace hz0 := hide hz0
  replace hz1 := hide hz1
  replace hz2 := hide hz2
  replace hok := hide hok
  replace hn := hide hn
  have hb0 := (Below.refl w.heap.size w).alloc (Nat.le_refl _) (.cells #[] 115)
  have hsrc := hide (hs _ hb0)
  have hown0 := hide (World.ownsRow_lit (base := w.heap.size) (e := 115) (size := 2) w #[] 0 (Nat.le_refl _) (Nat.zero_le _) rfl)
  replace hb0 := hide hb0
  clear hs hr
  cases A with
  | none =>
    have hl0 : l = [] := List.eq_nil_of_length_eq_zero (by have := hn.out rfl; have := hnl.out; omega)
    have hnil : ∀ w' : World, (binOp .eql 33 (.slice none n cap) (.slice none 0 0)).run Try.prog w' = .ok (.bool true) w' := fun w' => Lib.run_eql_slice_nil w' _ _ _ _ _ _ _ Try.underlying33
    replace hl0 := hide hl0
    go_enter Try.func85, Try.ntmps85
    go_wp2
    go_ret
    exact ⟨_, rfl, by rw [hl0.out]; exact OwnR.nil_, Below.refl _ _⟩
  | some ad =>
    have hnil : ∀ w' : World, (binOp .eql 33 (.slice (some ad) n cap) (.slice none 0 0)).run Try.prog w' = .ok (.bool false) w' := fun w' => Lib.run_eql_slice_nil w' _ _ _ _ _ _ _ Try.underlying33
    go_enter Try.func85, Try.ntmps85
    go_wp2_with (at_builtin; refine wpList_append_any _ rfl (.tmp 5) (.tmp 6) _ rfl w.heap.size 115 i0 _ 2 24 Try.underlying33 hi0.out hz0.out hz1.out hz2.out rfl (by omega) (.slice (some ⟨w.heap.size, 0, none⟩) 0 0) 0 [] rfl hown0.out (some ad) n cap (l.flatMap vc) rfl (by rw [vc_len, ← hnl.out]) (fun e => by cases e) hsrc.out (vc_one _) (by unfold maxLen; omega) (by omega) (by simp) ?_; intro v1 Y hownY hgY; replace hownY := hide hownY; replace hgY := hide hgY)
    go_wp2
    go_ret
    refine ⟨v1, rfl, ⟨?_, hok.out⟩, hb0.out.grown hgY.out (by simp) (fun k hk => by simp [Value.ownBlock] at hk; omega)⟩
    have := hownY.out
    rw [Nat.zero_add, List.nil_append, hnl.out] at this
    exact this
set_option maxRecDepth 100000 in
set_option maxHeartbeats 12000000 in
theorem icopy_any (m : Mod) (c1 d1 e1 : Value) (w : World) (B : Nat) (hB : B ≤ w.heap.size) (ha : RMod.rep w B [c1, d1, e1] m) (hs : SmallM m) :
    Calls Try.prog 48 #[m.v c1 d1 e1] w (CopyMPost m w) := by
  obtain ⟨hav, hax, haf⟩ := mod_open (RMod.later ha (Below.refl _ _) hB)
  obtain ⟨A1, k1, rfl, hvn, hvo, hvs⟩ := vars_src hav
  obtain ⟨A3, k3, rfl, hl3, gx⟩ := exts_at hax
  obtain ⟨A5, k5, rfl, hl5, gf⟩ := funs_at haf
  have havh : Hid (RVrs.rep w w.heap.size [.slice A1 m.vars.length k1] m.vars) := hide hav
  clear ha hav hax haf
  obtain ⟨n1, hn1⟩ : ∃ n, Hid (n = m.vars.length) := ⟨_, hide rfl⟩
  obtain ⟨n3, hn3⟩ : ∃ n, Hid (n = m.exts.length) := ⟨_, hide rfl⟩
  obtain ⟨n5, hn5⟩ : ∃ n, Hid (n = m.funcs.length) := ⟨_, hide rfl⟩
  have h18 := hs.vars
  have h38 := hs.exts
  have h58 := hs.funcs
  rw [← hn1.out] at hvn h18 havh ⊢
  rw [← hn3.out] at hl3 h38 ⊢
  rw [← hn5.out] at hl5 h58 ⊢
  obtain ⟨W, hW, hwW, hWs, hx, -⟩ := boxes2 w #[.slice A1 n1 k1, .slice A3 n3 k3, .slice A5 n5 k5] #[.slice none 0 0, .slice none 0 0, .slice none 0 0] 37 37
  have hR : W.heap[w.heap.size + 1]? = some (.cells #[.slice none 0 0, .slice none 0 0, .slice none 0 0] 37 (0, 0)) := by
    rw [← hW]
    have := box_top (w.alloc (.cells #[.slice A1 n1 k1, .slice A3 n3 k3, .slice A5 n5 k5] 37)) (.cells #[.slice none 0 0, .slice none 0 0, .slice none 0 0] 37)
    simpa using this
  have x0 := hx 0 _ rfl
  have x1 := hx 1 _ rfl
  have x2 := hx 2 _ rfl
  clear hx
  have hws : w.heap.size + 1 < W.heap.size := by omega
  replace hWs := hide hWs
  replace hW := hide hW
  replace hR := hide hR
  obtain ⟨i0, hi0, hz0, hz1, hz2⟩ := cinfo_parts cinfo_int
  obtain ⟨j0, hj0, hj1, hj2, hj3⟩ := cinfo_parts cinfo_Var
  obtain ⟨m0, hm0, hm1, hm2, hm3⟩ := cinfo_parts cinfo_Extern
  obtain ⟨p0, hp0, hp1, hp2, hp3⟩ := cinfo_parts cinfo_Func
  replace hi0 := hide hi0
  replace hz0 := hide hz0
  replace hz1 := hide hz1
  replace hz2 := hide hz2
  replace hj0 := hide hj0
  replace hj1 := hide hj1
  replace hj2 := hide hj2
  replace hj3 := hide hj3
  replace hm0 := hide hm0
  replace hm1 := hide hm1
  replace hm2 := hide hm2
  replace hm3 := hide hm3
  replace hp0 := hide hp0
  replace hp1 := hide hp1
  replace hp2 := hide hp2
  replace hp3 := hide hp3
  replace gx := hide gx
  replace gf := hide gf
  replace hvn := hide hvn
  replace hvo := hide hvo
  replace hvs := hide hvs
  replace hs := hide hs
  have cC : Hid (Calls Try.prog 85 #[.slice A1 n1 k1] W (CloneRPost m.vars W)) := hide (clone_vars _ m.vars W (RVrs.later havh.out hwW hwW.size) (by rw [← hn1.out]; exact h18))
  have hself := Below.refl W.heap.size W
  go_enter Try.func48, Try.ntmps48
  go_upto_region 1 with (fail)
  rw [hW.out]
  clear hW
  go_wp2_with (fail)
  refine cC.out.mono ?_
  rintro e X ⟨cv, rfl, hOX0, hbX⟩
  obtain ⟨Av, Cv, hcv⟩ := row_form hOX0.row
  rw [← hn1.out] at hcv
  subst hcv
  replace hOX0 := hide hOX0
  go_upto_region 2 with (fail)
  -- REST: the loops
  have hN3 := box_top X (.cells #[.slice Av n1 Cv, .slice none 0 0, .slice none 0 0] 37)
  have hXU := (Below.refl X.heap.size X).alloc (Nat.le_refl _) (.cells #[.slice Av n1 Cv, .slice none 0 0, .slice none 0 0] 37)
  obtain ⟨U, hU⟩ : ∃ U, U = X.alloc (.cells #[.slice Av n1 Cv, .slice none 0 0, .slice none 0 0] 37) := ⟨_, rfl⟩
  have hUs : U.heap.size = X.heap.size + 1 := by rw [hU]; simp
  rw [← hU] at hN3 hXU ⊢
  clear hU
  have hWX := hbX.size
  obtain ⟨N3, hNe⟩ : ∃ N3, N3 = X.heap.size := ⟨_, rfl⟩
  have hN3w : w.heap.size + 1 < N3 := by rw [hNe]; omega
  have hWN : W.heap.size ≤ N3 := by omega
  have hNU : N3 < U.heap.size := by omega
  have hWU : Below W.heap.size W U := hbX.trans (hXU.mono hWX)
  have y1 : ∀ w', Below N3 U w' → w'.cell? ⟨w.heap.size, 1, none⟩ = some (.slice A3 n3 k3) := fun w' h => x1 w' (hWU.trans (h.mono (by omega)))
  have y2 : ∀ w', Below N3 U w' → w'.cell? ⟨w.heap.size, 2, none⟩ = some (.slice A5 n5 k5) := fun w' h => x2 w' (hWU.trans (h.mono (by omega)))
  have hwU : Hid (Below w.heap.size w U) := hide (hwW.trans (hWU.mono (by omega)))
  have hRU : Hid (U.heap[w.heap.size + 1]? = some (.cells #[.slice none 0 0, .slice none 0 0, .slice none 0 0] 37 (0, 0))) := hide ((hWU.block _ hws).trans hR.out)
  have hXUh : Hid (Below N3 X U) := hide (hNe ▸ hXU)
  rw [← hNe] at hN3 ⊢
  have hXN : Hid (N3 = X.heap.size) := hide hNe
  clear x0 x1 x2 hself hWU hXU hwW hR hUs hNe hWs hWX hbX cC havh hvs hvn hvo
  have hbV := Below.refl N3 U
  have hNV := hide hN3
  have hsV : U.heap.size ≤ U.heap.size := Nat.le_refl _
  clear hN3
  replace hws := hide hws
  go_wp2_with fail
  go_loopw [15] (fun u4 wr => ∃ (k : Nat) (u : Value), k ≤ n3 ∧ u4 = .int .i64 k ∧ Hid (wr.heap[N3]? = some (.cells #[.slice Av n1 Cv, u, .slice none 0 0] 37 (0, 0))) ∧ Hid (OwnX wr U.heap.size u (m.exts.take k)) ∧ Below N3 U wr ∧ Hid (U.heap.size ≤ wr.heap.size)) (fun u4 _ => n3 - (intOf u4).toNat)
  case atStart => exact ⟨0, _, Nat.zero_le _, rfl, hNV, hide OwnX.nil_, hbV, hide hsV⟩
  case round =>
    clear hNV hbV hsV
    obtain ⟨k, u, hk, rfl, hNr, hOX, hbel, hUr⟩ := hrel
    by_cases hlt : k < n3
    · obtain ⟨q1, o1, rfl, he1⟩ := gx.out (by rw [← hn3.out]; omega)
      obtain ⟨x, hx⟩ := get_ex (l := m.exts) (k := k) (by rw [← hn3.out]; exact hlt)
      obtain ⟨ca, hra, hxo, hc⟩ := he1 k x hx.out
      obtain ⟨A6, k6, hca6, -, -⟩ := Rp.slice1_open hra
      cases hca6
      obtain ⟨nt, hnt⟩ : ∃ nt, Hid (nt = x.params.length) := ⟨_, hide rfl⟩
      have hst := hs.out.ext x (List.mem_of_getElem? hx.out)
      obtain ⟨e0, e1, e2⟩ := hc.three
      rw [← hnt.out] at hst e1 hra
      have a0 : ∀ w', Below N3 U w' → w'.cell? ⟨q1, o1 + k * 3, none⟩ = some (.string x.name) := fun w' h => e0 w' (hwU.out.trans (h.mono (by omega)))
      have a1 : ∀ w', Below N3 U w' → w'.cell? ⟨q1, o1 + k * 3 + 1, none⟩ = some (.slice A6 nt k6) := fun w' h => e1 w' (hwU.out.trans (h.mono (by omega)))
      have a2 : ∀ w', Below N3 U w' → w'.cell? ⟨q1, o1 + k * 3 + 2, none⟩ = some (.int .i64 x.ret) := fun w' h => e2 w' (hwU.out.trans (h.mono (by omega)))
      clear e0 e1 e2 he1 hc
      obtain ⟨Au, Cu, hu⟩ := (show ∃ A C, u = .slice A k C by
        obtain ⟨xs, h1, -⟩ := hOX.out.more
        have := row_form h1
        rw [List.length_take, show min k m.exts.length = k by have := hn3.out; omega] at this
        exact this)
      subst hu
      have hkn : (k : Int) < (n3 : Int) := by omega
      replace hxo := hide hxo
      go_upto_region 5 with (fail)
      have hNwr : N3 ≤ wr.heap.size := by have := hUr.out; omega
      obtain ⟨X1, hX1e⟩ : ∃ X1, X1 = wr.alloc (.cells #[.string x.name, .slice A6 nt k6, .int .i64 x.ret] 91) := ⟨_, rfl⟩
      have hB7 : X1.heap[wr.heap.size]? = some (.cells #[.string x.name, .slice A6 nt k6, .int .i64 x.ret] 91 (0, 0)) := by rw [hX1e]; exact box_top wr _
      have hbX : Below wr.heap.size wr X1 := by rw [hX1e]; exact (Below.refl _ _).alloc (Nat.le_refl _) _
      have hX1s : X1.heap.size = wr.heap.size + 1 := by rw [hX1e]; simp
      rw [← hX1e]
      obtain ⟨N7, hN7⟩ : ∃ N7, N7 = wr.heap.size := ⟨_, rfl⟩
      have hN7X : N7 < X1.heap.size := by omega
      have h7a : wr.heap.size ≤ N7 := by omega
      have hXa : wr.heap.size + 1 ≤ X1.heap.size := by omega
      rw [← hN7] at hB7 ⊢
      have hbX3 := hbel.trans (hbX.mono hNwr)
      have hwX := hwU.out.trans (hbX3.mono (by omega))
      have b1 := (box3 hB7).2.1
      have cCl : Hid (Calls Try.prog 68 #[.slice A6 nt k6] X1 (CloneIPost x.params X1)) := hide (clone_nums _ x.params X1 (RInts.later hra hwX hwX.size) (by rw [← hnt.out]; exact hst))
      replace hX1s := hide hX1s
      replace hN7 := hide hN7
      replace hwX := hide hwX
      have hbXr := hide hbX
      have hbelr := hide hbel
      clear hX1e hbX hbel hra
      go_wp2_with (fail)
      refine cCl.out.mono ?_
      rintro e Y1 ⟨cw, rfl, hOT1, hbY1⟩
      obtain ⟨At, Ct, hcw⟩ := row_form hOT1.row
      rw [← hnt.out] at hcw
      subst hcw
      have hN7Y := hide ((hbY1.block N7 hN7X).trans hB7)
      have t1 := (box3 hN7Y.out).2.1
      have ft1 := one_free (j := 1) hN7Y.out
      have hbY1h := hide hbY1
      replace hOT1 := hide hOT1
      clear hbY1 b1 hB7 cCl hbX3
      go_upto_region 6 with (fail)
      have hB8 : Hid ((Y1.setCell ⟨N7, 1, none⟩ (.slice At nt Ct)).heap[N7]? = some (.cells #[.string x.name, .slice At nt Ct, .int .i64 x.ret] 91 (0, 0))) := hide (by simpa using set_heap (j := 1) (v := .slice At nt Ct) hN7Y.out)
      have hOT : Hid (OwnI (Y1.setCell ⟨N7, 1, none⟩ (.slice At nt Ct)) U.heap.size (.slice At nt Ct) x.params) := hide ((hOT1.out.kept (w' := Y1.setCell ⟨N7, 1, none⟩ (.slice At nt Ct)) (fun i hi _ => Below.heap_setCell _ _ _ _ (by show i ≠ N7; omega))) |>.mono (by have := hUr.out; omega))
      have hbr : Below wr.heap.size wr (Y1.setCell ⟨N7, 1, none⟩ (.slice At nt Ct)) := (hbXr.out.trans (hbY1h.out.mono (by omega))).setCell (p := ⟨N7, 1, none⟩) h7a _
      obtain ⟨Y2, hY2⟩ : ∃ Y2, Y2 = Y1.setCell ⟨N7, 1, none⟩ (.slice At nt Ct) := ⟨_, rfl⟩
      rw [← hY2] at hB8 hOT hbr ⊢
      clear hY2 t1 ft1 hN7Y hbY1h hOT1 a0 a1 a2
      obtain ⟨z0, z1, z2⟩ := box3 hB8.out
      have hNw := hide ((hbr.block N3 (by have := hUr.out; omega)).trans hNr.out)
      have hOXw := hOX.out.kept (w' := Y2) fun i _ hi => hbr.block i hi
      have t3 := (box3 hNw.out).2.1
      obtain ⟨xs, hown, hmore⟩ := hOXw.more
      rw [List.length_take, show min k m.exts.length = k by have := hn3.out; omega] at hown hmore
      have hbU2 := hbelr.out.trans (hbr.mono hNwr)
      have hsY := hbr.size
      have hUY : U.heap.size ≤ Y2.heap.size := Nat.le_trans hUr.out hsY
      replace hown := hide hown
      replace hmore := hide hmore
      replace hB8 := hide hB8
      clear hOXw hbr
      go_wp2_with (first
        | (at_builtin
           refine wpList_append_own _ rfl (.tmp 24) (.tmp 26) _ rfl U.heap.size 91 m0 _ 3 48 Try.underlying34 hm0.out hm1.out hm2.out hm3.out rfl (by omega) (.slice Au k Cu) _ _ rfl (hown.out.alloc _) ⟨Y2.heap.size, 0, none⟩ 1 1 [.string x.name, .slice At nt Ct, .int .i64 x.ret] rfl rfl ?c1 ?c2 ?c3 ?c4 ?c5 ?_
           case c1 => exact World.news_of_block (cs := #[.string x.name, .slice At nt Ct, .int .i64 x.ret]) (t := 91) (fr := (0, 0)) (heap_alloc_new Y2 _)
           case c2 => simp [Value.oneCell']
           case c3 => unfold maxLen; omega
           case c4 => omega
           case c5 => simp; omega
           intro v6 w6 hown6 hg6 _
           have hX6 := hide (hmore.out x (.slice At nt Ct) w6 v6 hOT.out hxo.out hown6 hg6)
           have hbut := But.grown hown.out hg6
           have hN6 := hide ((hbut N3 _ _ _ hNw.out (by decide)).trans hNw.out)
           have hb6 : Below N3 U w6 := (hbU2.alloc (by omega) _).grown hg6 (by simp; omega) (fun i hi => by have := (row_lt hown.out hi).1; omega)
           have hs6 : Y2.heap.size ≤ w6.heap.size := by have := hg6.size; simp at this; omega
           obtain ⟨A9, C9, hv6⟩ := row_form hown6
           subst hv6
           have t6 := (box3 hN6.out).2.1
           have f6 := one_free (j := 1) hN6.out
           clear hown6 hg6 hbut))
      have hfar : ∀ i, U.heap.size ≤ i → i ≠ N3 := fun i hi => by omega
      go_roundw
      case rel =>
        refine ⟨k + 1, _, by omega, by go_num, hide (by simpa using set_heap (j := 1) (v := .slice A9 (k + 1) C9) hN6.out), hide ?_, hb6.setCell (p := ⟨N3, 1, none⟩) (Nat.le_refl _) _, hide (by simp [World.setCell]; omega)⟩
        rw [List.take_add_one, hx.out]
        exact hX6.out.kept fun i hi _ => Below.heap_setCell _ _ _ _ (hfar i hi)
      case measure => simp [intOf]; omega
    · obtain rfl : k = n3 := by omega
      rw [List.take_of_length_le (by have := hn3.out; omega)] at hOX
      obtain ⟨AX, CX, hu⟩ := (show ∃ A C, u = .slice A m.exts.length C by
        obtain ⟨xs, h1, -⟩ := hOX.out.more
        exact row_form h1)
      rw [← hn3.out] at hu
      subst hu
      go_wp2_with fail
      go_loopw [33] (fun u6 wr => ∃ (j : Nat) (u : Value), j ≤ n5 ∧ u6 = .int .i64 j ∧ Hid (wr.heap[N3]? = some (.cells #[.slice Av n1 Cv, .slice AX k CX, u] 37 (0, 0))) ∧ Hid (OwnX wr U.heap.size (.slice AX k CX) m.exts) ∧ Hid (OwnF wr U.heap.size u (m.funcs.take j)) ∧ Below N3 U wr ∧ Hid (U.heap.size ≤ wr.heap.size)) (fun u6 _ => n5 - (intOf u6).toNat)
      case atStart => exact ⟨0, _, Nat.zero_le _, rfl, hNr, hOX, hide OwnF.nil_, hbel, hUr⟩
      case round =>
        clear hNr hOX hbel hUr
        obtain ⟨j, u, hj, rfl, hNr, hOX, hOF, hbel, hUr⟩ := hrel
        by_cases hlt2 : j < n5
        · obtain ⟨q1, o1, rfl, he1⟩ := gf.out (by rw [← hn5.out]; omega)
          obtain ⟨x, hx⟩ := get_ex (l := m.funcs) (k := j) (by rw [← hn5.out]; exact hlt2)
          obtain ⟨ca, ea, hra, hc⟩ := he1 j x hx.out
          have hxo : Hid (I64 x.ret ∧ x.name.size ≤ maxLen) := hide (by obtain ⟨_, _, _, _, _, h5⟩ := hra; exact h5)
          have hsm := hs.out.fun_ x (List.mem_of_getElem? hx.out)
          obtain ⟨hi1, hj1⟩ := fun_open hra
          obtain ⟨xA, xC, h1, -, -⟩ := Rp.slice1_open hi1
          cases h1
          obtain ⟨xT, xD, h1, -, -⟩ := Rp.slice1_open hj1
          cases h1
          clear hi1 hj1
          obtain ⟨e0, e1, e2, e3⟩ := hc.four
          have a0 : ∀ w', Below N3 U w' → w'.cell? ⟨q1, o1 + j * 4, none⟩ = some (.string x.name) := fun w' h => e0 w' (hwU.out.trans (h.mono (by omega)))
          have a1 : ∀ w', Below N3 U w' → w'.cell? ⟨q1, o1 + j * 4 + 1, none⟩ = some (.slice xA x.params.length xC) := fun w' h => e1 w' (hwU.out.trans (h.mono (by omega)))
          have a2 : ∀ w', Below N3 U w' → w'.cell? ⟨q1, o1 + j * 4 + 2, none⟩ = some (.int .i64 x.ret) := fun w' h => e2 w' (hwU.out.trans (h.mono (by omega)))
          have a3 : ∀ w', Below N3 U w' → w'.cell? ⟨q1, o1 + j * 4 + 3, none⟩ = some (.slice xT x.blocks.length xD) := fun w' h => e3 w' (hwU.out.trans (h.mono (by omega)))
          clear e0 e1 e2 e3 he1 hc
          have hkn : (j : Int) < (n5 : Int) := by omega
          go_upto_region 11 with (fail)
          have hNwr0 : N3 < wr.heap.size := by have := hUr.out; omega
          obtain ⟨X1, hX1e⟩ : ∃ X1, X1 = wr.alloc (.cells #[.string x.name, .slice xA x.params.length xC, .int .i64 x.ret, .slice xT x.blocks.length xD] 25) := ⟨_, rfl⟩
          have hB7 : X1.heap[wr.heap.size]? = some (.cells #[.string x.name, .slice xA x.params.length xC, .int .i64 x.ret, .slice xT x.blocks.length xD] 25 (0, 0)) := by rw [hX1e]; exact box_top wr _
          have hbX : Below wr.heap.size wr X1 := by rw [hX1e]; exact (Below.refl _ _).alloc (Nat.le_refl _) _
          have hX1s : X1.heap.size = wr.heap.size + 1 := by rw [hX1e]; simp
          rw [← hX1e]
          have hNwr : N3 < X1.heap.size := by omega
          have hUw : U.heap.size ≤ X1.heap.size := by have := hUr.out; omega
          have hNr1 := hide ((hbX.block N3 hNwr0).trans hNr.out)
          have hOX1 := hide (hOX.out.kept (w' := X1) fun i _ hi => hbX.block i hi)
          have hOF1 := hide (hOF.out.kept (w' := X1) fun i _ hi => hbX.block i hi)
          have hbelr := hide (hbel.trans (hbX.mono (by omega)))
          obtain ⟨N7, hN7⟩ : ∃ N7, N7 = wr.heap.size := ⟨_, rfl⟩
          rw [← hN7] at hB7 ⊢
          have hN7X : N7 < X1.heap.size := by omega
          have b0 : ∀ w', Below X1.heap.size X1 w' → w'.cell? ⟨N7, 0, none⟩ = some (.string x.name) := fun w' h => (h.cell (p := ⟨N7, 0, none⟩) hN7X).trans (by simp [World.cell?, hB7])
          have b1 : ∀ w', Below X1.heap.size X1 w' → w'.cell? ⟨N7, 1, none⟩ = some (.slice xA x.params.length xC) := fun w' h => (h.cell (p := ⟨N7, 1, none⟩) hN7X).trans (by simp [World.cell?, hB7])
          have b2 : ∀ w', Below X1.heap.size X1 w' → w'.cell? ⟨N7, 2, none⟩ = some (.int .i64 x.ret) := fun w' h => (h.cell (p := ⟨N7, 2, none⟩) hN7X).trans (by simp [World.cell?, hB7])
          have b3 : ∀ w', Below X1.heap.size X1 w' → w'.cell? ⟨N7, 3, none⟩ = some (.slice xT x.blocks.length xD) := fun w' h => (h.cell (p := ⟨N7, 3, none⟩) hN7X).trans (by simp [World.cell?, hB7])
          clear hX1e hB7 hbX hX1s hN7 hNr hOX hOF hbel a0 a1 a2 a3 hNwr0
          obtain ⟨xs, hown, hmore⟩ := hOF1.out.more
          rw [List.length_take, show min j m.funcs.length = j by have := hn5.out; omega] at hown hmore
          obtain ⟨Au, Cu, hu⟩ := row_form hown
          subst hu
          have t3 := (box3 hNr1.out).2.2
          have hwX := hide (hwU.out.trans (hbelr.out.mono (by omega)))
          have cCp : Hid (∀ W', Below X1.heap.size X1 W' → Calls Try.prog 28 #[x.v (.slice xA x.params.length xC) (.slice xT x.blocks.length xD)] W' (CopyTree x W')) := hide (fun W' h' => by
              have hW' := hwX.out.trans (h'.mono hwX.out.size)
              exact icopytree_any x _ _ W' w.heap.size hW'.size (RFun.below hra hW') hsm)
          replace hown := hide hown
          replace hmore := hide hmore
          clear hra
          have hselfr := Below.refl X1.heap.size X1
          have t3f : ∀ w', Below X1.heap.size X1 w' → w'.cell? ⟨N3, 2, none⟩ = some (.slice Au j Cu) := fun w' h => (h.cell (p := ⟨N3, 2, none⟩) hNwr).trans t3
          clear t3
          go_region_law (first
            | ((try go_simp); go_at_call 28; refine (cCp.out _ (by first | with_reducible assumption | exact hselfr.drew)).mono ?_; rintro e w5 ⟨cc, dd, L5, rfl, hI5, -, ⟨xs5, es5, hK5⟩, hL5, hb5⟩; replace hK5 := (hK5.ownK).mono hL5; obtain ⟨Ac, Cc, hcc⟩ := row_form hI5.row; subst hcc; obtain ⟨Ad, Cd, hdd⟩ := (show ∃ A C, dd = .slice A x.blocks.length C by obtain ⟨xs, h1, -⟩ := hK5.more; exact row_form h1); subst hdd; have hb5' : Below X1.heap.size X1 w5 := (hselfr.drew).trans hb5; have hI6 : Hid (OwnI w5 X1.heap.size (.slice Ac x.params.length Cc) x.params) := hide hI5; have hK6 : Hid (OwnK w5 X1.heap.size (.slice Ad x.blocks.length Cd) x.blocks) := hide hK5; have hbU5 : Below N3 U w5 := hbelr.out.trans (hb5'.mono (by omega)); have hown5 := hide (row_kept hown.out (w' := w5) fun i hi => hb5'.block i (row_lt hown.out hi).2.1); have hs5 := hb5'.size; have hb5a := hb5'.alloc hs5 (.cells #[.string x.name, .slice Ac x.params.length Cc, .int .i64 x.ret, .slice Ad x.blocks.length Cd] 25); have hN5 := hide ((hb5'.block N3 hNwr).trans hNr1.out); clear hI5 hK5 hb5)
            | (refine step_append_any (by rfl) (.tmp 38) (.tmp 41) 35 (by rfl) U.heap.size 25 p0 (.agg #[.string ⟨#[]⟩, .slice none 0 0, .int .i64 0, .slice none 0 0]) 4 72 Try.underlying35 hp0.out hp1.out hp2.out hp3.out (by rfl) (by omega) (.slice Au j Cu) j xs (by rfl) (by exact hown5.out.alloc _) (some ⟨w5.heap.size, 0, none⟩) 1 1 [.string x.name, .slice Ac x.params.length Cc, .int .i64 x.ret, .slice Ad x.blocks.length Cd] (by rfl) (by rfl) (fun e => by cases e) (by intro ad had; cases had; exact World.news_of_block (cs := #[.string x.name, .slice Ac x.params.length Cc, .int .i64 x.ret, .slice Ad x.blocks.length Cd]) (t := 25) (fr := (0, 0)) (heap_alloc_new w5 _)) (by simp [Value.oneCell']) (by unfold maxLen; omega) (by omega) (by simp; omega) ?_; intro v6 w6 hown6 hg6; have hF6 := hide (hmore.out x _ _ w5 w6 v6 hb5' (hI6.out.mono hUw) (hK6.out.mono hUw) hxo.out hown6 hg6); have hbut := But.grown hown5.out hg6; obtain ⟨A9, C9, hv6⟩ := row_form hown6; subst hv6; have hN6 := hide ((hbut N3 _ _ _ hN5.out (by decide)).trans hN5.out); have t6 := (box3 hN6.out).2.2; have f6 := one_free (j := 2) hN6.out; have hb6 : Below N3 U w6 := (hbU5.alloc (by omega) _).grown hg6 (by simp; omega) (fun i hi => by have := (row_lt hown5.out hi).1; omega); have hX6 := hide (OwnX.but hbut (by decide) (by decide) (hOX1.out.kept (w' := w5) fun i _ hi => hb5'.block i hi)); have hs6 : w5.heap.size ≤ w6.heap.size := (by have := hg6.size; simp at this; omega); clear hown6 hg6 hbut))
          all_goals
            have hfar : ∀ i, U.heap.size ≤ i → i ≠ N3 := fun i hi => by omega
            go_wp2
            go_roundw
            case rel =>
              refine ⟨j + 1, _, by omega, by go_num, hide (by simpa using set_heap (j := 2) (v := .slice A9 (j + 1) C9) hN6.out), hide (hX6.out.kept fun i hi _ => Below.heap_setCell _ _ _ _ (hfar i hi)), hide ?_, hb6.setCell (p := ⟨N3, 2, none⟩) (Nat.le_refl _) _, hide (by simp [World.setCell]; omega)⟩
              rw [List.take_add_one, hx.out]
              exact hF6.out.kept fun i hi _ => Below.heap_setCell _ _ _ _ (hfar i hi)
            case measure => simp [intOf]; omega
        · obtain rfl : j = n5 := by omega
          rw [List.take_of_length_le (by have := hn5.out; omega)] at hOF
          obtain ⟨Au, Cu, hu⟩ := (show ∃ A C, u = .slice A m.funcs.length C by
            obtain ⟨xs, h1, -⟩ := hOF.out.more
            exact row_form h1)
          rw [← hn5.out] at hu
          subst hu
          obtain ⟨r0, r1, r2⟩ := box3 hNr.out
          have hRw := hide ((hbel.block (w.heap.size + 1) hN3w).trans hRU.out)
          obtain ⟨s0, s1, s2⟩ := box3 hRw.out
          have g0 := one_free (j := 0) hRw.out
          have g1 := one_free (j := 1) hRw.out
          have g2 := one_free (j := 2) hRw.out
          have hsU := hwU.out.size
          have hfar : ∀ i, W.heap.size ≤ i → i ≠ w.heap.size + 1 := fun i hi => by have := hws.out; omega
          have hbel2 := hide hbel
          have hORw : Hid (OwnR wr W.heap.size (.slice Av n1 Cv) m.vars) := hide (hOX0.out.kept (w' := wr) fun i _ hi => (hXUh.out.trans hbel).block i (by have := hXN.out; omega))
          go_wp2
          have hK9 : ∀ (v0 v1 v2 : Value) (i : Nat), W.heap.size ≤ i → (((wr.setCell ⟨w.heap.size + 1, 0, none⟩ v0).setCell ⟨w.heap.size + 1, 1, none⟩ v1).setCell ⟨w.heap.size + 1, 2, none⟩ v2).heap[i]? = wr.heap[i]? := fun v0 v1 v2 i hi => by
            rw [Below.heap_setCell _ _ _ _ (hfar i hi), Below.heap_setCell _ _ _ _ (hfar i hi), Below.heap_setCell _ _ _ _ (hfar i hi)]
          have hwW9 : w.heap.size ≤ W.heap.size := by have := hws.out; omega
          refine bodyPost_ret (v := m.v (.slice Av n1 Cv) (.slice AX k CX) (.slice Au j Cu)) (by simp [results, Try.results48, go_sem, s0, s1, s2, g0, g1, g2]) rfl ⟨_, _, _, rfl, (hORw.out.kept fun i hi _ => hK9 _ _ _ i hi).mono hwW9, (hOX.out.kept fun i hi _ => hK9 _ _ _ i (by omega)).mono hsU, (hOF.out.kept fun i hi _ => hK9 _ _ _ i (by omega)).mono hsU, ?_⟩
          exact (((hwU.out.trans (hbel2.out.mono (by omega))).setCell (p := ⟨w.heap.size + 1, 0, none⟩) (Nat.le_succ _) _).setCell (p := ⟨w.heap.size + 1, 1, none⟩) (Nat.le_succ _) _).setCell (p := ⟨w.heap.size + 1, 2, none⟩) (Nat.le_succ _) _
end Go.Proofs.Ytaljdbmmjgmbbaa
