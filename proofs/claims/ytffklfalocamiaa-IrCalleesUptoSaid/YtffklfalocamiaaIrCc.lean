/- lathelaw02.IrCallees, walked. No condition but sizes. -/
import Derived.Test.YtffklfalocamiaaIrCa
import Derived.Test.YtffklfalocamiaaIrCb
import Derived.Test.YtffklfalocamiaaIrH
namespace Go.Proofs.Ytffklfalocamiaa
open Go.RowKit
set_option linter.unusedSimpArgs false
set_option linter.unusedVariables false

theorem OwnX.form {w : World} {B : Nat} {v : Value} {l : List Ext} (h : OwnX w B v l) : ∃ A C, v = .slice A l.length C := by
  obtain ⟨xs, h1, -⟩ := h.more
  exact row_form h1
theorem OwnF.form {w : World} {B : Nat} {v : Value} {l : List Fun} (h : OwnF w B v l) : ∃ A C, v = .slice A l.length C := by
  obtain ⟨xs, h1, -⟩ := h.more
  exact row_form h1
theorem callee_small {m : Mod} (hs : SmallM m) (n : Int) : (calleeS m n).1.length ≤ 2000000 := by
  unfold calleeS
  split
  · cases hf : m.funcs[n.toNat]? with
    | none => exact Nat.zero_le _
    | some f => exact (hs.fun_ f (List.mem_of_getElem? hf)).params
  · cases hf : m.exts[(-1 - n).toNat]? with
    | none => exact Nat.zero_le _
    | some f => exact hs.ext f (List.mem_of_getElem? hf)
set_option maxRecDepth 100000 in
set_option maxHeartbeats 12000000 in
theorem law_callees (m : Mod) (n : Int) (c1 d1 e1 : Value) (w : World) (ha : RMod.rep w w.heap.size [c1, d1, e1] m) (hs : SmallM m) (hn : -9223372036854775808 ≤ n ∧ n ≤ 9223372036854775807) :
    Calls Try.prog 13 #[m.v c1 d1 e1, .int .i64 n] w fun e w' => e = .returned (.bool true) ∧ Below w.heap.size w w' := by
  obtain ⟨Aa, ka, hca, -, -⟩ := Rp.slice_open (mod_open ha).1
  obtain ⟨Ab, kb, hcb, -, -⟩ := exts_at (mod_open ha).2.1
  obtain ⟨Ac, kc, hcc, -, -⟩ := funs_at (mod_open ha).2.2
  cases hca
  obtain ⟨nv, hnv⟩ : ∃ nv, Hid (nv = m.vars.length) := ⟨_, hide rfl⟩
  obtain ⟨nx, hnx⟩ : ∃ nx, Hid (nx = m.exts.length) := ⟨_, hide rfl⟩
  obtain ⟨nf, hnf⟩ : ∃ nf, Hid (nf = m.funcs.length) := ⟨_, hide rfl⟩
  rw [← hnx.out] at hcb
  rw [← hnf.out] at hcc
  subst hcb
  subst hcc
  rw [← hnv.out] at ha ⊢
  obtain ⟨W, hW, hwW, hWs, hx⟩ := boxes1 w #[(.slice Aa nv ka), (.slice Ab nx kb), (.slice Ac nf kc)] 56
  have x0 : ∀ w', Below W.heap.size W w' → w'.cell? ⟨w.heap.size, 0, none⟩ = some (.slice Aa nv ka) := hx 0 _ rfl
  have x1 : ∀ w', Below W.heap.size W w' → w'.cell? ⟨w.heap.size, 1, none⟩ = some (.slice Ab nx kb) := hx 1 _ rfl
  have x2 : ∀ w', Below W.heap.size W w' → w'.cell? ⟨w.heap.size, 2, none⟩ = some (.slice Ac nf kc) := hx 2 _ rfl
  clear hx
  have hws : w.heap.size ≤ W.heap.size := by omega
  replace hWs := hide hWs
  have hself := Below.refl W.heap.size W
  replace hW := hide hW
  replace hwW := hide hwW
  obtain ⟨cs, hcs⟩ : ∃ cs, Hid (calleeS m n = cs) := ⟨_, hide rfl⟩
  obtain ⟨pl, ret, ok⟩ := cs
  have hpl : pl.length ≤ 2000000 := by have := callee_small hs n; rw [hcs.out] at this; exact this
  have g1 : (ok != ok) = false := by simp
  have g2 : (ret != ret) = false := by simp
  have g3 : (pl == pl) = true := by simp
  replace ha := hide ha
  replace hs := hide hs
  go_enter Try.func13, Try.ntmps13
  go_upto_region 1 with (fail)
  rw [hW.out]
  clear hW
  go_wp2_with fail
  refine (lives02 W).mono ?_
  rintro e w1 ⟨rfl, hb1⟩
  have hwb1 := hide (hwW.out.trans (hb1.mono hws))
  have hs1 := hb1.size
  have hM1 := RMod.later ha.out hwb1.out hwb1.out.size
  obtain ⟨hv1, he1, hf1⟩ := mod_open hM1
  have cF := hide (few_any m.vars m.exts m.funcs 20000 (.slice Aa nv ka) (.slice Ab nx kb) (.slice Ac nf kc) w1 w1.heap.size (Nat.le_refl _) hv1 he1 hf1)
  clear hv1 he1 hf1 hself
  go_upto_region 4 with (fail)
  go_wp2_with fail
  refine cF.out.mono ?_
  rintro e w2 ⟨few, rfl, hb2⟩
  have hwb2 := hide (hwb1.out.trans (hb2.mono hwb1.out.size))
  have hW2 := hb1.trans (hb2.mono hs1)
  clear cF hM1 hb1 hb2
  cases few with
  | false =>
    replace hW2 := hide hW2
    go_wp2
    go_ret
    exact ⟨rfl, hwb2.out⟩
  | true =>
    have cCp := hide (rcopy02_any m (.slice Aa nv ka) (.slice Ab nx kb) (.slice Ac nf kc) w2 w2.heap.size (Nat.le_refl _) (RMod.later ha.out hwb2.out hwb2.out.size) hs.out)
    have hsW2 := hW2.size
    go_upto_region 6 with (go_at_call 65; refine cCp.out.mono ?_; rintro e w3 ⟨c2, d2, f2, rfl, hOR, hOX, hOF, hb3⟩; obtain ⟨Ad, kd, hfd⟩ := row_form hOR.row; obtain ⟨Ae, ke, hfe⟩ := hOX.form; obtain ⟨Af, kf, hff⟩ := hOF.form; rw [← hnv.out] at hfd; rw [← hnx.out] at hfe; rw [← hnf.out] at hff; subst hfd; subst hfe; subst hff)
    have hV3 := hW2.trans (hb3.mono hsW2)
    have hVV := hV3.alloc hV3.size (.cells #[(.slice Ad nv kd), (.slice Ae nx ke), (.slice Af nf kf)] 56)
    have hB5 := box_top w3 (.cells #[(.slice Ad nv kd), (.slice Ae nx ke), (.slice Af nf kf)] 56)
    have hb3V := (Below.refl w3.heap.size w3).alloc (Nat.le_refl _) (.cells #[(.slice Ad nv kd), (.slice Ae nx ke), (.slice Af nf kf)] 56)
    have hwb3 := hwb2.out.trans (hb3.mono hwb2.out.size)
    obtain ⟨V, hVe⟩ : ∃ V, V = w3.alloc (.cells #[(.slice Ad nv kd), (.slice Ae nx ke), (.slice Af nf kf)] 56) := ⟨_, rfl⟩
    have hVs : w3.heap.size < V.heap.size := by rw [hVe]; simp
    rw [← hVe] at hVV hB5 hb3V ⊢
    clear hVe
    obtain ⟨N5, hN5⟩ : ∃ N5, N5 = w3.heap.size := ⟨_, rfl⟩
    have hN5V : N5 < V.heap.size := by omega
    rw [← hN5] at hB5 ⊢
    have hwV := hide (hwb3.trans (hb3V.mono hwb3.size))
    have hORv := hide (hOR.kept (w' := V) fun k _ hk => hb3V.block k hk)
    have hOXv := hide (hOX.kept (w' := V) fun k _ hk => hb3V.block k hk)
    have hOFv := hide (hOF.kept (w' := V) fun k _ hk => hb3V.block k hk)
    have hsV := hVV.size
    have x0v : ∀ w', Below V.heap.size V w' → w'.cell? ⟨w.heap.size, 0, none⟩ = some (.slice Aa nv ka) := fun w' h => x0 w' (hVV.trans (h.mono hsV))
    have x1v : ∀ w', Below V.heap.size V w' → w'.cell? ⟨w.heap.size, 1, none⟩ = some (.slice Ab nx kb) := fun w' h => x1 w' (hVV.trans (h.mono hsV))
    have x2v : ∀ w', Below V.heap.size V w' → w'.cell? ⟨w.heap.size, 2, none⟩ = some (.slice Ac nf kc) := fun w' h => x2 w' (hVV.trans (h.mono hsV))
    have y0 : ∀ w', Below V.heap.size V w' → w'.cell? ⟨N5, 0, none⟩ = some (.slice Ad nv kd) := fun w' h => (h.cell (p := ⟨N5, 0, none⟩) hN5V).trans (by simp [World.cell?, hB5])
    have y1 : ∀ w', Below V.heap.size V w' → w'.cell? ⟨N5, 1, none⟩ = some (.slice Ae nx ke) := fun w' h => (h.cell (p := ⟨N5, 1, none⟩) hN5V).trans (by simp [World.cell?, hB5])
    have y2 : ∀ w', Below V.heap.size V w' → w'.cell? ⟨N5, 2, none⟩ = some (.slice Af nf kf) := fun w' h => (h.cell (p := ⟨N5, 2, none⟩) hN5V).trans (by simp [World.cell?, hB5])
    have hselfV := Below.refl V.heap.size V
    have hmine : Hid (∀ w', Below V.heap.size V w' → RMod.rep w' w'.heap.size [(.slice Ad nv kd), (.slice Ae nx ke), (.slice Af nf kf)] m) := hide (fun w' h => ⟨_, _, _, rfl, (hORv.out.kept fun k _ hk => h.block k hk).rep, (hOXv.out.kept fun k _ hk => h.block k hk).rep, (hOFv.out.kept fun k _ hk => h.block k hk).rep⟩)
    have horig : Hid (∀ w', Below V.heap.size V w' → RMod.rep w' w'.heap.size [(.slice Aa nv ka), (.slice Ab nx kb), (.slice Ac nf kc)] m) := hide (fun w' h => by
      have hh := hwV.out.trans (h.mono hwV.out.size)
      exact RMod.later ha.out hh hh.size)
    have cSame : Hid (∀ w', Below V.heap.size V w' → Calls Try.prog 68 #[m.v (.slice Ad nv kd) (.slice Ae nx ke) (.slice Af nf kf), m.v (.slice Aa nv ka) (.slice Ab nx kb) (.slice Ac nf kc)] w' fun e w'' => e = .returned (.bool true) ∧ Below w'.heap.size w' w'') := hide (fun w' h => by
      have h1 := same02_any m m (.slice Ad nv kd) (.slice Ae nx ke) (.slice Af nf kf) (.slice Aa nv ka) (.slice Ab nx kb) (.slice Ac nf kc) w' w'.heap.size (Nat.le_refl _) (hmine.out w' h) (horig.out w' h)
      rwa [decide_eq_true rfl] at h1)
    have cCal : Hid (∀ w', Below V.heap.size V w' → Calls Try.prog 66 #[m.v (.slice Ad nv kd) (.slice Ae nx ke) (.slice Af nf kf), .int .i64 n] w' (CalleePost m n w')) := hide (fun w' h => callee_any m n (.slice Ad nv kd) (.slice Ae nx ke) (.slice Af nf kf) w' w'.heap.size (Nat.le_refl _) (hmine.out w' h) hn (fun f hf => (hs.out.fun_ f hf).params) hs.out.ext)
    have cRCal : Hid (∀ w', Below V.heap.size V w' → Calls Try.prog 67 #[m.v (.slice Aa nv ka) (.slice Ab nx kb) (.slice Ac nf kc), .int .i64 n] w' (RCalleePost m n w.heap.size w')) := hide (fun w' h => by
      have hh := hwV.out.trans (h.mono hwV.out.size)
      exact rcallee_any m n (.slice Aa nv ka) (.slice Ab nx kb) (.slice Ac nf kc) w' w.heap.size hh.size (RMod.below ha.out hh) hn)
    replace hN5 := hide hN5
    clear x0 x1 x2 cCp hOR hOX hOF hb3 hV3 hVV hB5 hb3V hwb3 hVs hORv hOXv hOFv hW2
    go_upto_region 7 with (go_at_call 66; refine (cCal.out V hselfV).mono ?_; rintro e w4 ⟨p, rfl, hP, hb4⟩; rw [hcs.out] at hP ⊢)
    clear hselfV
    have hs4 := hb4.size
    go_upto_region 8 with (go_at_call 66; refine (cCal.out w4 hb4).mono ?_; rintro e w5 ⟨q, rfl, hQ, hb5⟩; rw [hcs.out] at hQ ⊢)
    have hV5 := hb4.trans (hb5.mono hs4)
    have hs5 := hb5.size
    go_upto_region 9 with (go_at_call 67; refine (cRCal.out w5 hV5).mono ?_; rintro e w6 ⟨l, rfl, hL, hb6⟩; rw [hcs.out] at hL ⊢)
    have hV6 := hV5.trans (hb6.mono hV5.size)
    have hs6 := hb6.size
    obtain ⟨np, hnp⟩ : ∃ np, Hid (np = pl.length) := ⟨_, hide rfl⟩
    obtain ⟨Ap, Cp, hpf⟩ := row_form hP.row
    rw [← hnp.out] at hpf
    subst hpf
    have hwLe := hwV.out.size
    have hP6 := hide ((hP.kept (w' := w5) fun k _ hk => hb5.block k hk).kept (w' := w6) fun k _ hk => hb6.block k hk)
    have hPlt := hide (fun k hk => (row_lt hP.row (k := k) hk).2.1)
    have hQ6 := hide (hQ.kept (w' := w6) fun k _ hk => hb6.block k hk)
    have hlk : Hid (∀ w', Below V.heap.size V w' → RInts.rep w' w'.heap.size [l] pl) := hide (fun w' h => by
      refine RInts.keep hL (fun a ha' => ?_) (Nat.le_trans hwLe h.size)
      exact (h.cell (p := a) (Nat.lt_of_lt_of_le ha' hwLe)).trans (hV6.cell (p := a) (Nat.lt_of_lt_of_le ha' hwLe)).symm)
    have cI1 := hide (rints_any (.slice Ap np Cp) l pl pl w6 w6.heap.size (Nat.le_refl _) hP6.out.rep (hlk.out w6 hV6))
    rw [g3] at cI1
    clear hP hQ hL hb5 hb6 cCal cRCal
    go_upto_region 11 with (first
      | (go_at_call 49; refine cI1.out.mono ?_; rintro e w7 ⟨rfl, hb7⟩; have hV7 := hV6.trans (hb7.mono hV6.size))
      | (go_at_call 68; refine (cSame.out w7 hV7).mono ?_; rintro e w8 ⟨rfl, hb8⟩; have hV8 := hV7.trans (hb8.mono hV7.size)))
    have hs7 := hb7.size
    have hP8 := hide ((hP6.out.kept (w' := w7) fun k _ hk => hb7.block k hk).kept (w' := w8) fun k _ hk => hb8.block k hk)
    have hQ8 := hide ((hQ6.out.kept (w' := w7) fun k _ hk => hb7.block k hk).kept (w' := w8) fun k _ hk => hb8.block k hk)
    have hrowP : Hid (∃ xs, w8.ownsRow V.heap.size 3 1 (.slice Ap np Cp) np xs) := hide ⟨_, by rw [hnp.out]; rw [hnp.out] at hP8; exact hP8.out.row⟩
    clear cI1 hb7 hb8 hP6 hQ6 hP8 hV6 hV7 hV5 hb4 
    go_wp2_with fail
    go_loopw [66] (fun u66 wr => ∃ j : Nat, j ≤ np ∧ u66 = .int .i64 j ∧ Hid (∃ xs, wr.ownsRow V.heap.size 3 1 (.slice Ap np Cp) np xs) ∧ Hid (OwnI wr w4.heap.size q pl) ∧ Below V.heap.size V wr) (fun u66 _ => np - (intOf u66).toNat)
    case atStart => exact ⟨0, Nat.zero_le _, rfl, hrowP, hQ8, hV8⟩
    case round =>
      clear hrowP hQ8 hV8
      obtain ⟨j, hj, rfl, hrow, hQ, hbel⟩ := hrel
      obtain ⟨xs, hx⟩ := hrow.out
      have hnp8 : np ≤ 2000000 := by rw [hnp.out]; exact hpl
      by_cases hlt : j < np
      · obtain ⟨gp, rfl, hg1⟩ : ∃ gp, Ap = some ⟨gp, 0, none⟩ ∧ V.heap.size ≤ gp := by
          rcases hx.2 with ⟨h1, h2⟩ | ⟨gp, cp, cur, h1, h2, _⟩
          · omega
          · cases h1; exact ⟨gp, rfl, h2⟩
        have hg2 := hPlt.out gp rfl
        have hlx : xs.length = np := by have := hx.1; omega
        obtain ⟨y, hy⟩ := get_ex (l := xs) (k := j) (by omega)
        have r0 : wr.cell? ⟨gp, j, none⟩ = some y := by rw [World.ownsRow.cellAt hx j (by omega)]; exact hy.out
        have f0 : wr.frozen? ⟨gp, j, none⟩ = false := World.ownsRow.frozenAt hx j
        have hst := hide (hx.stored j (.int .i64 (-4))).1
        have hQ2 := hide (hQ.out.kept (w' := wr.setCell ⟨gp, j, none⟩ (.int .i64 (-4))) fun k hk _ => Below.heap_setCell _ _ _ _ (by show k ≠ gp; omega))
        have hb9 := hide (hbel.setCell (p := ⟨gp, j, none⟩) hg1 (.int .i64 (-4)))
        replace hx := hide hx
        replace hlx := hide hlx
        go_wp2
        go_roundw
        case rel => exact ⟨j + 1, by omega, by go_num, hide ⟨_, hst.out⟩, hQ2, hb9.out⟩
        case measure => simp [intOf]; omega
      · obtain rfl : j = np := by omega
        have cI2 := hide (rints_any q l pl pl wr wr.heap.size (Nat.le_refl _) hQ.out.rep (hlk.out wr hbel))
        rw [g3] at cI2
        replace hx := hide hx
        go_wp2_with (first
          | (go_at_call 49; refine cI2.out.mono ?_; rintro e w10 ⟨rfl, hb10⟩; have hV10 := hbel.trans (hb10.mono hbel.size))
          | (go_at_call 68; refine (cSame.out w10 hV10).mono ?_; rintro e w11 ⟨rfl, hb11⟩; have hV11 := hide (hV10.trans (hb11.mono hV10.size))))
        go_ret
        exact ⟨rfl, hwV.out.trans (hV11.out.mono hwLe)⟩
end Go.Proofs.Ytffklfalocamiaa
