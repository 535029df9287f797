/- The law IrFinds, walked. No condition. -/
import Derived.Test.YtffklfalocamiaaIrL
import Derived.Test.YtffklfalocamiaaIrQ
import Derived.Test.YtffklfalocamiaaIrR
namespace Go.Proofs.Ytffklfalocamiaa
open Go.RowKit

theorem def_same {f : Fun} {reg : Int} {i j i' j' : Nat} {fd fd' : Bool} (h1 : fd = true → IsDef f.blocks reg i j) (h2 : fd = false → i = 0 ∧ j = 0 ∧ noDef f.blocks.flatten reg)
    (k1 : fd' = true → IsDef f.blocks reg i' j') (k2 : fd' = false → i' = 0 ∧ j' = 0 ∧ noDef f.blocks.flatten reg) : fd = fd' ∧ i = i' ∧ j = j' := by
  cases fd with
  | true =>
    cases fd' with
    | true => exact ⟨rfl, def_unique (h1 rfl) (k1 rfl)⟩
    | false =>
      obtain ⟨x, a, hx, hi, hd, _⟩ := h1 rfl
      rw [(k2 rfl).2.2 a (mem_flatten_at hx hi)] at hd
      cases hd
  | false =>
    cases fd' with
    | true =>
      obtain ⟨x, a, hx, hi, hd, _⟩ := k1 rfl
      rw [(h2 rfl).2.2 a (mem_flatten_at hx hi)] at hd
      cases hd
    | false => exact ⟨rfl, (h2 rfl).1.trans (k2 rfl).1.symm, (h2 rfl).2.1.trans (k2 rfl).2.1.symm⟩

set_option maxHeartbeats 1600000 in
theorem law_finds (f : Fun) (reg : Int) (ca da : Value) (w : World) (h : RFun.rep w w.heap.size [.string f.name, ca, .int .i64 f.ret, da] f) (hsz : funSz f ≤ 1048576) :
    Calls Try.prog 6 #[f.v ca da, .int .i64 reg] w fun e w' => e = .returned (.bool true) ∧ Below w.heap.size w w' := by
  obtain ⟨F, hFle, hF⟩ := fresh_exists f.blocks.flatten f.params.length
  have hpl := partsL_le_blks f.blocks
  have hal := argsL_le_partsL f.blocks.flatten
  have hfl := length_le_partsL f.blocks.flatten
  unfold funSz at hsz
  obtain ⟨c, d, e, hp, hb, hw⟩ := h
  cases e
  obtain ⟨A1, k1, h1, hm1, -⟩ := Rp.slice1_at hp
  obtain ⟨A2, k2, h2, hm2, -⟩ := Rp.slice1_at hb
  cases h1; cases h2
  have RF : Hid (RFun.rep w w.heap.size [.string f.name, .slice A1 f.params.length k1, .int .i64 f.ret, .slice A2 f.blocks.length k2] f) := hide ⟨_, _, rfl, hp, hb, hw⟩
  replace hp := hide hp
  replace hb := hide hb
  replace hF := hide hF
  clear hw
  obtain ⟨W, hW, hwW, hWs, hx⟩ := boxes1 w #[.string f.name, .slice A1 f.params.length k1, .int .i64 f.ret, .slice A2 f.blocks.length k2] 41
  have x0 := hx 0 _ rfl
  have x1 := hx 1 _ rfl
  have x2 := hx 2 _ rfl
  have x3 := hx 3 _ rfl
  clear hx
  have hws : w.heap.size ≤ W.heap.size := by omega
  replace hWs := hide hWs
  go_enter Try.func6, Try.ntmps6
  go_wp2_with fail
  clear hW
  refine (lives02 W).mono ?_
  rintro e w1 ⟨rfl, b1⟩
  have b1a : ∀ o, Below W.heap.size W (w1.alloc o) := fun o => b1.alloc b1.size o
  have hrf : RFuns.rep (w1.alloc (.cells #[.string f.name, .slice A1 f.params.length k1, .int .i64 f.ret, .slice A2 f.blocks.length k2] 41)) (w1.heap.size + 1) [.slice (some ⟨w1.heap.size, 0, none⟩) 1 1] [f] :=
    one_fun (by omega) (box_top _ _) (RFun.later RF.out (hwW.trans ((b1a _).mono hws)) (by have := b1.size; omega))
  replace hrf := hide hrf
  go_wp2_with fail
  refine (few_any [] [] [f] _ _ _ _ _ (w1.heap.size + 1) (by simp) Rp.nil_rep Rp.nil_rep hrf.out).mono ?_
  rintro e w2 ⟨few, rfl, c2⟩
  have b2 := below_next (b1a _) (Nat.le_refl _) c2
  clear c2 hrf b1a
  cases few with
  | false =>
    go_wp2
    go_ret
    exact ⟨rfl, hwW.trans (b2.mono hws)⟩
  | true =>
  have HP : Hid (∀ w', Below W.heap.size W w' → RInts.rep w' w.heap.size [.slice A1 f.params.length k1] f.params) := hide fun w' hb' => RInts.later hp.out (hwW.trans (hb'.mono hws)) (Nat.le_refl _)
  have HB : Hid (∀ w', Below W.heap.size W w' → RBlks.rep w' w.heap.size [.slice A2 f.blocks.length k2] f.blocks) := hide fun w' hb' => RBlks.later hb.out (hwW.trans (hb'.mono hws)) (Nat.le_refl _)
  go_wp2_with fail
  refine (code_any f _ _ _ w.heap.size (Nat.le_trans hws b2.size) (HP.out _ b2) (HB.out _ b2) (by omega)).mono ?_
  rintro e w3 ⟨v1, v2, rfl, c3, hl, hpl2⟩
  have b3 := below_next b2 (Nat.le_refl _) c3
  obtain ⟨A3, k3, h3, hm3, -⟩ := Rp.slice_at hl
  obtain ⟨A4, k4, h4, -, -⟩ := Rp.slice_at hpl2
  cases h3; cases h4
  clear hl hpl2 c3
  go_wp2_with fail
  refine (def_any f reg _ _ _ w.heap.size (Nat.le_trans hws b3.size) (HP.out _ b3) (HB.out _ b3)).mono ?_
  rintro e w4 ⟨i, j, fd, rfl, c4, hd1, hd2⟩
  have b4 := below_next b3 (Nat.le_refl _) c4
  have b4a : ∀ o, Below W.heap.size W (w4.alloc o) := fun o => b4.alloc b4.size o
  replace hd1 := hide hd1
  replace hd2 := hide hd2
  clear c4
  go_wp2_with fail
  obtain ⟨V, hV, hwV, hVs, hpv⟩ := boxes1 w4 #[.int .i64 0, .int .i64 i, .int .i64 j] 62
  have bV : Below W.heap.size W V := by rw [← hV]; exact b4a _
  rw [hV]
  clear hV b4a
  replace hVs := hide hVs
  refine (rdef_any f reg _ _ _ w.heap.size (Nat.le_trans hws bV.size) (HP.out _ bV) (HB.out _ bV) (by omega)).mono ?_
  rintro e w5 ⟨i', j', fd', rfl, c5, hd3, hd4⟩
  obtain ⟨e1, e2, e3⟩ := def_same hd1.out hd2.out hd3 hd4
  subst e1; subst e2; subst e3
  have b5 := below_next bV (Nat.le_refl _) c5
  have b5a : ∀ o, Below W.heap.size W (w5.alloc o) := fun o => b5.alloc b5.size o
  clear hd1 hd2 hd3 hd4
  obtain ⟨U, hU, hwU, hUs, hqu⟩ := boxes1 w5 #[.int .i64 0, .int .i64 i, .int .i64 j] 62
  have bU : Below W.heap.size W U := by rw [← hU]; exact b5a _
  have bVU : Below V.heap.size V U := c5.trans (hwU.mono c5.size)
  have p0 : ∀ w', Below U.heap.size U w' → w'.cell? ⟨w4.heap.size, 0, none⟩ = some (.int .i64 0) := fun w' hb' => hpv 0 _ rfl w' (bVU.trans (hb'.mono bVU.size))
  have p1 : ∀ w', Below U.heap.size U w' → w'.cell? ⟨w4.heap.size, 1, none⟩ = some (.int .i64 i) := fun w' hb' => hpv 1 _ rfl w' (bVU.trans (hb'.mono bVU.size))
  have p2 : ∀ w', Below U.heap.size U w' → w'.cell? ⟨w4.heap.size, 2, none⟩ = some (.int .i64 j) := fun w' hb' => hpv 2 _ rfl w' (bVU.trans (hb'.mono bVU.size))
  have q0 : ∀ w', Below U.heap.size U w' → w'.cell? ⟨w5.heap.size, 0, none⟩ = some (.int .i64 0) := hqu 0 _ rfl
  have q1 : ∀ w', Below U.heap.size U w' → w'.cell? ⟨w5.heap.size, 1, none⟩ = some (.int .i64 i) := hqu 1 _ rfl
  have q2 : ∀ w', Below U.heap.size U w' → w'.cell? ⟨w5.heap.size, 2, none⟩ = some (.int .i64 j) := hqu 2 _ rfl
  have x0u : ∀ w', Below U.heap.size U w' → w'.cell? ⟨w.heap.size, 0, none⟩ = some (.string f.name) := fun w' hb' => x0 w' (bU.trans (hb'.mono bU.size))
  have x1u : ∀ w', Below U.heap.size U w' → w'.cell? ⟨w.heap.size, 1, none⟩ = some (.slice A1 f.params.length k1) := fun w' hb' => x1 w' (bU.trans (hb'.mono bU.size))
  have x2u : ∀ w', Below U.heap.size U w' → w'.cell? ⟨w.heap.size, 2, none⟩ = some (.int .i64 f.ret) := fun w' hb' => x2 w' (bU.trans (hb'.mono bU.size))
  have x3u : ∀ w', Below U.heap.size U w' → w'.cell? ⟨w.heap.size, 3, none⟩ = some (.slice A2 f.blocks.length k2) := fun w' hb' => x3 w' (bU.trans (hb'.mono bU.size))
  clear x0 x1 x2 x3 hpv hqu c5
  have huu := Nat.le_refl U.heap.size
  have huself := (Below.refl U.heap.size U).drew
  have HW : Hid (∀ w', Below U.heap.size U w' → Below W.heap.size W w') := hide fun w' hb' => bU.trans (hb'.mono bU.size)
  replace hUs := hide hUs
  go_wp2_with fail
  clear hU
  go_region_held3 (fun w' => Below U.heap.size U w') (first | exact huself | exact below_next (by assumption) huu (by assumption))
    (first
      | (go_at_call 35; refine (size_any f _ _ _ w.heap.size (Nat.le_trans hws (HW.out _ (by assumption)).size) (HP.out _ (HW.out _ (by assumption))) (HB.out _ (HW.out _ (by assumption))) (by omega)).mono ?_; rintro e w9 ⟨rfl, hcall⟩)
      | (go_at_call 36; refine (fresh_any f F _ _ _ w.heap.size (Nat.le_trans hws (HW.out _ (by assumption)).size) (HP.out _ (HW.out _ (by assumption))) (HB.out _ (HW.out _ (by assumption))) (by omega) hF.out (by omega)).mono ?_; rintro e w9 ⟨rfl, hcall⟩)
      | (go_at_call 37; refine (rfresh_any f F _ _ _ w.heap.size (Nat.le_trans hws (HW.out _ (by assumption)).size) (HP.out _ (HW.out _ (by assumption))) (HB.out _ (HW.out _ (by assumption))) (by omega) hF.out (by omega)).mono ?_; rintro e w9 ⟨rfl, hcall⟩)
      | (go_at_call 38; refine (uses_any f reg _ _ _ w.heap.size (Nat.le_trans hws (HW.out _ (by assumption)).size) (HP.out _ (HW.out _ (by assumption))) (HB.out _ (HW.out _ (by assumption))) (by omega)).mono ?_; rintro e w9 ⟨rfl, hcall⟩)
      | (go_at_call 39; refine (ruses_any f reg _ _ _ w.heap.size (Nat.le_trans hws (HW.out _ (by assumption)).size) (HP.out _ (HW.out _ (by assumption))) (HB.out _ (HW.out _ (by assumption))) (by omega)).mono ?_; rintro e w9 ⟨rfl, hcall⟩))
  all_goals go_wp2
  all_goals go_ret
  all_goals exact ⟨ret_bool (by simp), hwW.trans (Below.mono (HW.out _ (by assumption)) hws)⟩
end Go.Proofs.Ytffklfalocamiaa
