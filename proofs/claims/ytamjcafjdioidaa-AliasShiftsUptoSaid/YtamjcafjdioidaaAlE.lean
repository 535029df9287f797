/- alias.of. No condition but sizes. -/
import Derived.Test.YtamjcafjdioidaaAlD
namespace Go.Proofs.Ytamjcafjdioidaa
open Go.RowKit
set_option linter.unusedSimpArgs false
set_option linter.unusedVariables false

abbrev rtV (r : Rt) : Value := .agg #[.int .i64 r.v.kind, .int .i64 r.v.num, .int .u64 r.v.bits, .int .i64 r.off, .bool r.known, .bool r.alloca, .bool r.stable]
def OfPost (np : Nat) (bs : List (List Ins)) (v : Opd) (w : World) (e : Ending) (w' : World) : Prop := e = .returned (rtV (ofS np bs v)) ∧ (I64 (ofS np bs v).v.kind ∧ I64 (ofS np bs v).v.num) ∧ Below w.heap.size w w'
theorem stable_no {np : Nat} {bs : List (List Ins)} {v : Opd} (h : makerS bs v = none) : stableS np bs v = (decide (v.kind = 5) || (decide (v.kind = 1) && (decide (0 ≤ v.num) && decide (v.num < np)))) := by
  unfold stableS
  rw [h]
  simp
theorem stable_yes {np : Nat} {bs : List (List Ins)} {v : Opd} {ins : Ins} {i : Nat} (h : makerS bs v = some (ins, i)) : stableS np bs v = ((decide (0 ≤ v.num) && decide (v.num < np)) || decide (i = 0)) := by
  unfold stableS
  rw [h, (makerS_mem h).1]
  simp
theorem alloca_no {bs : List (List Ins)} {v : Opd} (h : makerS bs v = none) : allocaS bs v = false := by unfold allocaS; rw [h]
theorem alloca_yes {bs : List (List Ins)} {v : Opd} {ins : Ins} {i : Nat} (h : makerS bs v = some (ins, i)) : allocaS bs v = (ins.op == 26) := by unfold allocaS; rw [h]
set_option maxRecDepth 100000 in
set_option maxHeartbeats 12800000 in
theorem of_any (f : Fun) (v0 : Opd) (hv : I64 v0.kind ∧ I64 v0.num) (c1 c2 : Value) (w : World) (B : Nat) (hB : B ≤ w.heap.size) (hf : RFun.rep w B [.string f.name, c1, .int .i64 f.ret, c2] f) (hz : funSz f ≤ 2000000) :
    Calls Try.prog 26 #[f.v c1 c2, .agg #[.int .i64 v0.kind, .int .i64 v0.num, .int .u64 v0.bits]] w (OfPost f.params.length f.blocks v0 w) := by
  have hs := small_of hz
  obtain ⟨hp, hb⟩ := fun_open (RFun.later hf (Below.refl _ _) hB)
  obtain ⟨A1, k1, h1, hnp, -⟩ := Rp.slice1_open hp
  obtain ⟨A2, k2, h2, hm2, -⟩ := Rp.slice1_open hb
  cases h1; cases h2
  clear hp hb
  obtain ⟨n, hn⟩ : ∃ n, Hid (n = f.blocks.length) := ⟨_, hide rfl⟩
  obtain ⟨np, hnpe⟩ : ∃ np, Hid (np = f.params.length) := ⟨_, hide rfl⟩
  rw [← hn.out] at hf hm2 ⊢
  rw [← hnpe.out] at hf hnp ⊢
  obtain ⟨W, hW, hwW, hWs, hx0, hx1, hx2⟩ := boxes3 w #[.string f.name, .slice A1 np k1, .int .i64 f.ret, .slice A2 n k2] #[.int .i64 v0.kind, .int .i64 v0.num, .int .u64 v0.bits] #[.int .i64 0, .int .i64 0, .int .u64 0, .int .i64 0, .bool false, .bool false, .bool false] 32 42 65
  have hV0 : Hid (W.heap[w.heap.size + 1]? = some (.cells #[.int .i64 v0.kind, .int .i64 v0.num, .int .u64 v0.bits] 42 (0, 0))) := hide (by rw [← hW]; exact one_alloc (box_at _ (by simp)) _)
  have hR0 : Hid (W.heap[w.heap.size + 1 + 1]? = some (.cells #[.int .i64 0, .int .i64 0, .int .u64 0, .int .i64 0, .bool false, .bool false, .bool false] 65 (0, 0))) := hide (by rw [← hW]; exact box_at _ (by simp))
  have q0 : ∀ w', Below W.heap.size W w' → w'.cell? ⟨w.heap.size, 0, none⟩ = some (.string f.name) := hx0 0 _ rfl
  have q1 : ∀ w', Below W.heap.size W w' → w'.cell? ⟨w.heap.size, 1, none⟩ = some (.slice A1 np k1) := hx0 1 _ rfl
  have q2 : ∀ w', Below W.heap.size W w' → w'.cell? ⟨w.heap.size, 2, none⟩ = some (.int .i64 f.ret) := hx0 2 _ rfl
  have q3 : ∀ w', Below W.heap.size W w' → w'.cell? ⟨w.heap.size, 3, none⟩ = some (.slice A2 n k2) := hx0 3 _ rfl
  have v0' : ∀ w', Below W.heap.size W w' → w'.cell? ⟨w.heap.size + 1, 0, none⟩ = some (.int .i64 v0.kind) := hx1 0 _ rfl
  have v1' : ∀ w', Below W.heap.size W w' → w'.cell? ⟨w.heap.size + 1, 1, none⟩ = some (.int .i64 v0.num) := hx1 1 _ rfl
  have v2' : ∀ w', Below W.heap.size W w' → w'.cell? ⟨w.heap.size + 1, 2, none⟩ = some (.int .u64 v0.bits) := hx1 2 _ rfl
  clear hx0 hx1 hx2
  have hws1 : w.heap.size + 3 ≤ W.heap.size := by omega
  replace hWs := hide hWs
  have hself := Below.refl W.heap.size W
  have hF : Hid (∀ w', Below w.heap.size w w' → RFun.rep w' w'.heap.size [.string f.name, .slice A1 np k1, .int .i64 f.ret, .slice A2 n k2] f) := hide (fun w' h => RFun.later hf (h.mono hB) (Nat.le_trans hB h.size))
  have cR : Hid (∀ w', Below W.heap.size W w' → Calls Try.prog 10 #[f.v (.slice A1 np k1) (.slice A2 n k2), .agg #[.int .i64 v0.kind, .int .i64 v0.num, .int .u64 v0.bits]] w' (RootPost f.blocks v0 w')) := hide (fun w' h => root_any f v0 hv (.slice A1 np k1) (.slice A2 n k2) w' w'.heap.size (Nat.le_refl _) (hF.out w' (hwW.trans (h.mono (by omega)))) hz)
  have cM : Hid (∀ (v : Opd) w', Below w.heap.size w w' → Calls Try.prog 25 #[f.v (.slice A1 np k1) (.slice A2 n k2), .agg #[.int .i64 v.kind, .int .i64 v.num, .int .u64 v.bits]] w' (MakerPost f.blocks v w')) := hide (fun v w' h => maker_any f v (.slice A1 np k1) (.slice A2 n k2) w' w'.heap.size (Nat.le_refl _) (hF.out w' h) hs)
  replace hs := hide hs
  replace hz := hide hz
  replace hf := hide hf
  replace hv := hide hv
  replace hwW := hide hwW
  go_enter Try.func26, Try.ntmps26
  go_wp2_with (fail)
  refine (cR.out _ hself).mono ?_
  rintro e w4 ⟨rfl, hrI, hb4⟩
  have hs4 := hb4.size
  obtain ⟨VB, hVe⟩ : ∃ VB, Hid (VB = w.heap.size + 1) := ⟨_, hide rfl⟩
  obtain ⟨RB, hRe⟩ : ∃ RB, Hid (RB = VB + 1) := ⟨_, hide rfl⟩
  obtain ⟨ro, hro⟩ : ∃ ro, Hid (ro = rootS f.blocks v0) := ⟨_, hide rfl⟩
  obtain ⟨v, off, known⟩ := ro
  rw [← hro.out] at hrI ⊢
  simp only at hrI
  rw [← hVe.out] at hV0 hR0 v0' v1' v2' ⊢
  rw [← hRe.out] at hR0 ⊢
  have o1 : w.heap.size < VB := by have := hVe.out; omega
  have o2 : VB < RB := by have := hRe.out; omega
  have o3 : RB < W.heap.size := by have := hRe.out; have := hVe.out; omega
  have hV4 : Hid (w4.heap[VB]? = some (.cells #[.int .i64 v0.kind, .int .i64 v0.num, .int .u64 v0.bits] 42 (0, 0))) := hide ((hb4.block _ (by omega)).trans hV0.out)
  have hR4 : Hid (w4.heap[RB]? = some (.cells #[.int .i64 0, .int .i64 0, .int .u64 0, .int .i64 0, .bool false, .bool false, .bool false] 65 (0, 0))) := hide ((hb4.block _ (by omega)).trans hR0.out)
  obtain ⟨t0, t1, t2⟩ := three_cells hV4.out
  have f0 := one_free (j := 0) hV4.out
  have f1 := one_free (j := 1) hV4.out
  have f2 := one_free (j := 2) hV4.out
  obtain ⟨V1, hV1e⟩ : ∃ V1, Hid (V1 = ((w4.setCell ⟨VB, 0, none⟩ (.int .i64 v.kind)).setCell ⟨VB, 1, none⟩ (.int .i64 v.num)).setCell ⟨VB, 2, none⟩ (.int .u64 v.bits)) := ⟨_, hide rfl⟩
  have hV1 : Hid (V1.heap[VB]? = some (.cells #[.int .i64 v.kind, .int .i64 v.num, .int .u64 v.bits] 42 (0, 0))) := hide (by rw [hV1e.out]; exact set_heap (j := 2) (set_heap (j := 1) (set_heap (j := 0) hV4.out)))
  have hR1 : Hid (V1.heap[RB]? = some (.cells #[.int .i64 0, .int .i64 0, .int .u64 0, .int .i64 0, .bool false, .bool false, .bool false] 65 (0, 0))) := hide (by rw [hV1e.out]; exact set_far (set_far (set_far hR4.out (by omega)) (by omega)) (by omega))
  have hbw1 : Hid (Below w.heap.size w V1) := hide (by
    rw [hV1e.out]
    exact (((hwW.out.trans (hb4.mono (by omega))).setCell (p := ⟨VB, 0, none⟩) (by show w.heap.size ≤ VB; omega) _).setCell (p := ⟨VB, 1, none⟩) (by show w.heap.size ≤ VB; omega) _).setCell (p := ⟨VB, 2, none⟩) (by show w.heap.size ≤ VB; omega) _)
  have hV1s : Hid (V1.heap.size = w4.heap.size) := hide (by rw [hV1e.out]; simp)
  have hf1 : ∀ o u, W.cell? ⟨w.heap.size, o, none⟩ = some u → V1.cell? ⟨w.heap.size, o, none⟩ = some u := fun o u h => by
    have e : V1.heap[w.heap.size]? = W.heap[w.heap.size]? := by
      rw [hV1e.out]
      exact set_far (set_far (set_far (hb4.block _ (by omega)) (by omega)) (by omega)) (by omega)
    exact (World.cell?_of_block (w := W) (a := ⟨w.heap.size, o, none⟩) e).trans h
  have b0 := hf1 0 _ (q0 W hself)
  have b1 := hf1 1 _ (q1 W hself)
  have b2 := hf1 2 _ (q2 W hself)
  have b3 := hf1 3 _ (q3 W hself)
  replace hb4 := hide hb4
  clear hf1 cR
  go_upto_region 2 with (fail)
  rw [← hV1e.out]
  clear hV1e t0 t1 t2 f0 f1 f2 q0 q1 q2 q3 v0' v1' v2' hself hV4 hR4 hV0 hR0 hW
  obtain ⟨t0, t1, t2⟩ := three_cells hV1.out
  have hbV := hbw1.out
  go_wp2_with (fail)
  refine (cM.out v _ hbV).mono ?_
  rintro e w5 ⟨hb5, hmk⟩
  have hs5 := hb5.size
  have hVl : VB < V1.heap.size := by have := hV1s.out; omega
  have hRl : RB < V1.heap.size := by have := hV1s.out; omega
  have hV5 : Hid (w5.heap[VB]? = some (.cells #[.int .i64 v.kind, .int .i64 v.num, .int .u64 v.bits] 42 (0, 0))) := hide ((hb5.block _ hVl).trans hV1.out)
  have hR5 : Hid (w5.heap[RB]? = some (.cells #[.int .i64 0, .int .i64 0, .int .u64 0, .int .i64 0, .bool false, .bool false, .bool false] 65 (0, 0))) := hide ((hb5.block _ hRl).trans hR1.out)
  have hwl : w.heap.size < V1.heap.size := by omega
  have hp5 : w5.cell? ⟨w.heap.size, 1, none⟩ = some (.slice A1 np k1) := (hb5.cell (p := ⟨w.heap.size, 1, none⟩) hwl).trans b1
  have hbw5 : Hid (Below w.heap.size w w5) := hide (hbw1.out.trans (hb5.mono (by omega)))
  have hofs : Hid (∀ al st, allocaS f.blocks v = al → stableS np f.blocks v = st → ofS np f.blocks v0 = ⟨v, off, known, al, st⟩) := hide (fun al st h1 h2 => by
    unfold ofS
    rw [← hro.out]
    simp only
    rw [h1, h2])
  replace hb5 := hide hb5
  clear cM t0 t1 t2 b0 b1 b2 b3 hV1 hR1 hbV
  rcases hmk with ⟨hmk, rfl⟩ | ⟨ins, bi, c, d, hmk, rfl, hrep⟩
  · have hal := hide (alloca_no hmk)
    have hstb := hide (stable_no (np := np) hmk)
    replace hmk := hide hmk
    obtain ⟨Z, hZ, hwZ, hZs, hzc⟩ := boxes1 w5 #[.int .i64 0, .int .i64 0, .int .i64 0, .int .i64 0, .int .i64 0, .slice none 0 0, .slice none 0 0] 39
    have i0 := hzc 0 _ rfl Z (Below.refl _ _)
    obtain ⟨Y, hY, hwY, hYs, hyc⟩ := boxes1 Z #[.int .i64 v.kind, .int .i64 v.num, .int .u64 v.bits, .int .i64 off, .bool known, .bool false, .bool false] 65
    have hYR : Hid (Y.heap[Z.heap.size]? = some (.cells #[.int .i64 v.kind, .int .i64 v.num, .int .u64 v.bits, .int .i64 off, .bool known, .bool false, .bool false] 65 (0, 0))) := hide (by rw [← hY]; exact box_top _ _)
    have z3 : RB < w5.heap.size := by omega
    have z4 : w5.heap.size < Z.heap.size := by omega
    have z5 : Z.heap.size < Y.heap.size := by omega
    have hV5Z : Hid (Z.heap[VB]? = some (.cells #[.int .i64 v.kind, .int .i64 v.num, .int .u64 v.bits] 42 (0, 0))) := hide ((hwZ.block _ (by omega)).trans hV5.out)
    have hV5Y : Hid (Y.heap[VB]? = some (.cells #[.int .i64 v.kind, .int .i64 v.num, .int .u64 v.bits] 42 (0, 0))) := hide ((hwY.block _ (by omega)).trans hV5Z.out)
    have hR5Y : Hid (Y.heap[RB]? = some (.cells #[.int .i64 0, .int .i64 0, .int .u64 0, .int .i64 0, .bool false, .bool false, .bool false] 65 (0, 0))) := hide ((hwY.block _ (by omega)).trans ((hwZ.block _ (by omega)).trans hR5.out))
    have hpY : Y.cell? ⟨w.heap.size, 1, none⟩ = some (.slice A1 np k1) := (hwY.cell (p := ⟨w.heap.size, 1, none⟩) (by show w.heap.size < Z.heap.size; omega)).trans ((hwZ.cell (p := ⟨w.heap.size, 1, none⟩) (by show w.heap.size < w5.heap.size; omega)).trans hp5)
    have hbwY : Hid (Below w.heap.size w Y) := hide (hbw5.out.trans ((hwZ.mono (by omega)).trans (hwY.mono (by omega))))
    replace hZ := hide hZ
    replace hY := hide hY
    replace hwZ := hide hwZ
    replace hwY := hide hwY
    replace hZs := hide hZs
    replace hYs := hide hYs
    clear hzc hyc hp5 hs5 hs4
    go_upto_region 3 with (fail)
    rw [hZ.out]
    clear hZ
    obtain ⟨t0, t1, t2⟩ := three_cells hV5Z.out
    go_upto_region 4 with (fail)
    rw [hY.out]
    clear hY t0 t1 t2 i0
    obtain ⟨t0, t1, t2⟩ := three_cells hV5Y.out
    obtain ⟨y0, y1, y2, y3, y4, y5, y6⟩ := seven_cells hYR.out
    have fy := one_free (j := 6) hYR.out
    obtain ⟨s0, s1, s2, s3, s4, s5, s6⟩ := seven_cells hR5Y.out
    have g00 := one_free (j := 0) hR5Y.out
    have g01 := one_free (j := 1) hR5Y.out
    have g02 := one_free (j := 2) hR5Y.out
    have g03 := one_free (j := 3) hR5Y.out
    have g04 := one_free (j := 4) hR5Y.out
    have g05 := one_free (j := 5) hR5Y.out
    have g06 := one_free (j := 6) hR5Y.out
    have hne1 : ¬ Z.heap.size = RB := by omega
    have hne2 : ¬ RB = Z.heap.size := by omega
    by_cases g5 : v.kind = 5
    · have g5' : (v.kind == 5) = true := by rw [g5]; rfl
      have hst : Hid (stableS np f.blocks v = true) := hide (by rw [hstb.out]; simp [g5])
      replace g5 := hide g5
      have hfin := hide (set_heap (j := 6) (v := .bool true) (set_heap (j := 5) (v := .bool false) (set_heap (j := 4) (v := .bool known) (set_heap (j := 3) (v := .int .i64 off) (set_heap (j := 2) (v := .int .u64 v.bits) (set_heap (j := 1) (v := .int .i64 v.num) (set_heap (j := 0) (v := .int .i64 v.kind) (set_far (M := Z.heap.size) (j := 6) (v := .bool true) hR5Y.out hne2))))))))
      have hle : w.heap.size ≤ RB := by omega
      have hbf := hide ((((((((hbwY.out.setCell (p := ⟨Z.heap.size, 6, none⟩) (by show w.heap.size ≤ Z.heap.size; omega) (.bool true)).setCell (p := ⟨RB, 0, none⟩) hle (.int .i64 v.kind)).setCell (p := ⟨RB, 1, none⟩) hle (.int .i64 v.num)).setCell (p := ⟨RB, 2, none⟩) hle (.int .u64 v.bits)).setCell (p := ⟨RB, 3, none⟩) hle (.int .i64 off)).setCell (p := ⟨RB, 4, none⟩) hle (.bool known)).setCell (p := ⟨RB, 5, none⟩) hle (.bool false)).setCell (p := ⟨RB, 6, none⟩) hle (.bool true))
      have ho := hide (hofs.out false true hal.out hst.out)
      go_wp2
      refine bodyPost_ret (v := rtV ⟨v, off, known, false, true⟩) ?_ rfl ?_
      · obtain ⟨u0, u1, u2, u3, u4, u5, u6⟩ := seven_cells hfin.out
        simp [results, Try.results26, go_sem, u0, u1, u2, u3, u4, u5, u6]
      · unfold OfPost
        rw [ho.out]
        exact ⟨rfl, hrI, hbf.out⟩
    · have g5' : (v.kind == 5) = false := by rw [beq_eq_false_iff_ne]; exact g5
      by_cases g1 : v.kind = 1
      · have g1' : (v.kind == 1) = true := by rw [g1]; rfl
        by_cases g0 : 0 ≤ v.num
        · by_cases g2 : v.num < np
          · have hst : Hid (stableS np f.blocks v = true) := hide (by rw [hstb.out]; simp [g1, g0, g2])
            replace g5 := hide g5
            replace g1 := hide g1
            have hfin := hide (set_heap (j := 6) (v := .bool true) (set_heap (j := 5) (v := .bool false) (set_heap (j := 4) (v := .bool known) (set_heap (j := 3) (v := .int .i64 off) (set_heap (j := 2) (v := .int .u64 v.bits) (set_heap (j := 1) (v := .int .i64 v.num) (set_heap (j := 0) (v := .int .i64 v.kind) (set_far (M := Z.heap.size) (j := 6) (v := .bool true) hR5Y.out hne2))))))))
            have hle : w.heap.size ≤ RB := by omega
            have hbf := hide ((((((((hbwY.out.setCell (p := ⟨Z.heap.size, 6, none⟩) (by show w.heap.size ≤ Z.heap.size; omega) (.bool true)).setCell (p := ⟨RB, 0, none⟩) hle (.int .i64 v.kind)).setCell (p := ⟨RB, 1, none⟩) hle (.int .i64 v.num)).setCell (p := ⟨RB, 2, none⟩) hle (.int .u64 v.bits)).setCell (p := ⟨RB, 3, none⟩) hle (.int .i64 off)).setCell (p := ⟨RB, 4, none⟩) hle (.bool known)).setCell (p := ⟨RB, 5, none⟩) hle (.bool false)).setCell (p := ⟨RB, 6, none⟩) hle (.bool true))
            have ho := hide (hofs.out false true hal.out hst.out)
            go_wp2
            refine bodyPost_ret (v := rtV ⟨v, off, known, false, true⟩) ?_ rfl ?_
            · obtain ⟨u0, u1, u2, u3, u4, u5, u6⟩ := seven_cells hfin.out
              simp [results, Try.results26, go_sem, u0, u1, u2, u3, u4, u5, u6]
            · unfold OfPost
              rw [ho.out]
              exact ⟨rfl, hrI, hbf.out⟩
          · have hst : Hid (stableS np f.blocks v = false) := hide (by rw [hstb.out]; simp [g5, g2])
            replace g5 := hide g5
            replace g1 := hide g1
            have hfin := hide (set_heap (j := 6) (v := .bool false) (set_heap (j := 5) (v := .bool false) (set_heap (j := 4) (v := .bool known) (set_heap (j := 3) (v := .int .i64 off) (set_heap (j := 2) (v := .int .u64 v.bits) (set_heap (j := 1) (v := .int .i64 v.num) (set_heap (j := 0) (v := .int .i64 v.kind) (set_far (M := Z.heap.size) (j := 6) (v := .bool false) hR5Y.out hne2))))))))
            have hle : w.heap.size ≤ RB := by omega
            have hbf := hide ((((((((hbwY.out.setCell (p := ⟨Z.heap.size, 6, none⟩) (by show w.heap.size ≤ Z.heap.size; omega) (.bool false)).setCell (p := ⟨RB, 0, none⟩) hle (.int .i64 v.kind)).setCell (p := ⟨RB, 1, none⟩) hle (.int .i64 v.num)).setCell (p := ⟨RB, 2, none⟩) hle (.int .u64 v.bits)).setCell (p := ⟨RB, 3, none⟩) hle (.int .i64 off)).setCell (p := ⟨RB, 4, none⟩) hle (.bool known)).setCell (p := ⟨RB, 5, none⟩) hle (.bool false)).setCell (p := ⟨RB, 6, none⟩) hle (.bool false))
            have ho := hide (hofs.out false false hal.out hst.out)
            go_wp2
            refine bodyPost_ret (v := rtV ⟨v, off, known, false, false⟩) ?_ rfl ?_
            · obtain ⟨u0, u1, u2, u3, u4, u5, u6⟩ := seven_cells hfin.out
              simp [results, Try.results26, go_sem, u0, u1, u2, u3, u4, u5, u6]
            · unfold OfPost
              rw [ho.out]
              exact ⟨rfl, hrI, hbf.out⟩
        · have hst : Hid (stableS np f.blocks v = false) := hide (by rw [hstb.out]; simp [g5, g0])
          replace g5 := hide g5
          replace g1 := hide g1
          have hfin := hide (set_heap (j := 6) (v := .bool false) (set_heap (j := 5) (v := .bool false) (set_heap (j := 4) (v := .bool known) (set_heap (j := 3) (v := .int .i64 off) (set_heap (j := 2) (v := .int .u64 v.bits) (set_heap (j := 1) (v := .int .i64 v.num) (set_heap (j := 0) (v := .int .i64 v.kind) (set_far (M := Z.heap.size) (j := 6) (v := .bool false) hR5Y.out hne2))))))))
          have hle : w.heap.size ≤ RB := by omega
          have hbf := hide ((((((((hbwY.out.setCell (p := ⟨Z.heap.size, 6, none⟩) (by show w.heap.size ≤ Z.heap.size; omega) (.bool false)).setCell (p := ⟨RB, 0, none⟩) hle (.int .i64 v.kind)).setCell (p := ⟨RB, 1, none⟩) hle (.int .i64 v.num)).setCell (p := ⟨RB, 2, none⟩) hle (.int .u64 v.bits)).setCell (p := ⟨RB, 3, none⟩) hle (.int .i64 off)).setCell (p := ⟨RB, 4, none⟩) hle (.bool known)).setCell (p := ⟨RB, 5, none⟩) hle (.bool false)).setCell (p := ⟨RB, 6, none⟩) hle (.bool false))
          have ho := hide (hofs.out false false hal.out hst.out)
          go_wp2
          refine bodyPost_ret (v := rtV ⟨v, off, known, false, false⟩) ?_ rfl ?_
          · obtain ⟨u0, u1, u2, u3, u4, u5, u6⟩ := seven_cells hfin.out
            simp [results, Try.results26, go_sem, u0, u1, u2, u3, u4, u5, u6]
          · unfold OfPost
            rw [ho.out]
            exact ⟨rfl, hrI, hbf.out⟩
      · have g1' : (v.kind == 1) = false := by rw [beq_eq_false_iff_ne]; exact g1
        have hst : Hid (stableS np f.blocks v = false) := hide (by rw [hstb.out]; simp [g5, g1])
        replace g5 := hide g5
        replace g1 := hide g1
        have hfin := hide (set_heap (j := 6) (v := .bool false) (set_heap (j := 5) (v := .bool false) (set_heap (j := 4) (v := .bool known) (set_heap (j := 3) (v := .int .i64 off) (set_heap (j := 2) (v := .int .u64 v.bits) (set_heap (j := 1) (v := .int .i64 v.num) (set_heap (j := 0) (v := .int .i64 v.kind) (set_far (M := Z.heap.size) (j := 6) (v := .bool false) hR5Y.out hne2))))))))
        have hle : w.heap.size ≤ RB := by omega
        have hbf := hide ((((((((hbwY.out.setCell (p := ⟨Z.heap.size, 6, none⟩) (by show w.heap.size ≤ Z.heap.size; omega) (.bool false)).setCell (p := ⟨RB, 0, none⟩) hle (.int .i64 v.kind)).setCell (p := ⟨RB, 1, none⟩) hle (.int .i64 v.num)).setCell (p := ⟨RB, 2, none⟩) hle (.int .u64 v.bits)).setCell (p := ⟨RB, 3, none⟩) hle (.int .i64 off)).setCell (p := ⟨RB, 4, none⟩) hle (.bool known)).setCell (p := ⟨RB, 5, none⟩) hle (.bool false)).setCell (p := ⟨RB, 6, none⟩) hle (.bool false))
        have ho := hide (hofs.out false false hal.out hst.out)
        go_wp2
        refine bodyPost_ret (v := rtV ⟨v, off, known, false, false⟩) ?_ rfl ?_
        · obtain ⟨u0, u1, u2, u3, u4, u5, u6⟩ := seven_cells hfin.out
          simp [results, Try.results26, go_sem, u0, u1, u2, u3, u4, u5, u6]
        · unfold OfPost
          rw [ho.out]
          exact ⟨rfl, hrI, hbf.out⟩
  · have hal := hide (alloca_yes hmk)
    have hstb := hide (stable_yes (np := np) hmk)
    have hk1 := (makerS_mem hmk).1
    obtain ⟨a1, a2, e9, ha, hto, hok⟩ := id hrep
    simp only [List.cons.injEq, and_true, true_and] at e9
    obtain ⟨rfl, rfl⟩ := e9
    obtain ⟨A5, k5, h5, -, -⟩ := Rp.slice_open ha
    obtain ⟨A6, k6, h6, -, -⟩ := Rp.slice1_open hto
    cases h5; cases h6
    clear hrep ha hto hok
    have g5' : (v.kind == 5) = false := by rw [hk1]; rfl
    have g1' : (v.kind == 1) = true := by rw [hk1]; rfl
    replace hk1 := hide hk1
    replace hmk := hide hmk
    cases hop : (ins.op == 26) with
    | true =>
      rw [hop] at hal
      obtain ⟨Z, hZ, hwZ, hZs, hzc⟩ := boxes1 w5 #[.int .i64 ins.op, .int .i64 ins.reg, .int .i64 ins.ty, .int .i64 ins.num, .int .i64 ins.flags, .slice A5 ins.args.length k5, .slice A6 ins.to.length k6] 39
      have i0 := hzc 0 _ rfl Z (Below.refl _ _)
      obtain ⟨Y, hY, hwY, hYs, hyc⟩ := boxes1 Z #[.int .i64 v.kind, .int .i64 v.num, .int .u64 v.bits, .int .i64 off, .bool known, .bool true, .bool false] 65
      have hYR : Hid (Y.heap[Z.heap.size]? = some (.cells #[.int .i64 v.kind, .int .i64 v.num, .int .u64 v.bits, .int .i64 off, .bool known, .bool true, .bool false] 65 (0, 0))) := hide (by rw [← hY]; exact box_top _ _)
      have z3 : RB < w5.heap.size := by omega
      have z4 : w5.heap.size < Z.heap.size := by omega
      have z5 : Z.heap.size < Y.heap.size := by omega
      have hV5Z : Hid (Z.heap[VB]? = some (.cells #[.int .i64 v.kind, .int .i64 v.num, .int .u64 v.bits] 42 (0, 0))) := hide ((hwZ.block _ (by omega)).trans hV5.out)
      have hV5Y : Hid (Y.heap[VB]? = some (.cells #[.int .i64 v.kind, .int .i64 v.num, .int .u64 v.bits] 42 (0, 0))) := hide ((hwY.block _ (by omega)).trans hV5Z.out)
      have hR5Y : Hid (Y.heap[RB]? = some (.cells #[.int .i64 0, .int .i64 0, .int .u64 0, .int .i64 0, .bool false, .bool false, .bool false] 65 (0, 0))) := hide ((hwY.block _ (by omega)).trans ((hwZ.block _ (by omega)).trans hR5.out))
      have hpY : Y.cell? ⟨w.heap.size, 1, none⟩ = some (.slice A1 np k1) := (hwY.cell (p := ⟨w.heap.size, 1, none⟩) (by show w.heap.size < Z.heap.size; omega)).trans ((hwZ.cell (p := ⟨w.heap.size, 1, none⟩) (by show w.heap.size < w5.heap.size; omega)).trans hp5)
      have hbwY : Hid (Below w.heap.size w Y) := hide (hbw5.out.trans ((hwZ.mono (by omega)).trans (hwY.mono (by omega))))
      replace hZ := hide hZ
      replace hY := hide hY
      replace hwZ := hide hwZ
      replace hwY := hide hwY
      replace hZs := hide hZs
      replace hYs := hide hYs
      clear hzc hyc hp5 hs5 hs4
      go_upto_region 3 with (fail)
      rw [hZ.out]
      clear hZ
      obtain ⟨t0, t1, t2⟩ := three_cells hV5Z.out
      go_upto_region 4 with (fail)
      rw [hY.out]
      clear hY t0 t1 t2 i0
      obtain ⟨t0, t1, t2⟩ := three_cells hV5Y.out
      obtain ⟨y0, y1, y2, y3, y4, y5, y6⟩ := seven_cells hYR.out
      have fy := one_free (j := 6) hYR.out
      obtain ⟨s0, s1, s2, s3, s4, s5, s6⟩ := seven_cells hR5Y.out
      have g00 := one_free (j := 0) hR5Y.out
      have g01 := one_free (j := 1) hR5Y.out
      have g02 := one_free (j := 2) hR5Y.out
      have g03 := one_free (j := 3) hR5Y.out
      have g04 := one_free (j := 4) hR5Y.out
      have g05 := one_free (j := 5) hR5Y.out
      have g06 := one_free (j := 6) hR5Y.out
      have hne1 : ¬ Z.heap.size = RB := by omega
      have hne2 : ¬ RB = Z.heap.size := by omega
      by_cases g0 : 0 ≤ v.num
      · by_cases g2 : v.num < np
        · have hst : Hid (stableS np f.blocks v = true) := hide (by rw [hstb.out]; simp [g0, g2])
          have hfin := hide (set_heap (j := 6) (v := .bool true) (set_heap (j := 5) (v := .bool true) (set_heap (j := 4) (v := .bool known) (set_heap (j := 3) (v := .int .i64 off) (set_heap (j := 2) (v := .int .u64 v.bits) (set_heap (j := 1) (v := .int .i64 v.num) (set_heap (j := 0) (v := .int .i64 v.kind) (set_far (M := Z.heap.size) (j := 6) (v := .bool true) hR5Y.out hne2))))))))
          have hle : w.heap.size ≤ RB := by omega
          have hbf := hide ((((((((hbwY.out.setCell (p := ⟨Z.heap.size, 6, none⟩) (by show w.heap.size ≤ Z.heap.size; omega) (.bool true)).setCell (p := ⟨RB, 0, none⟩) hle (.int .i64 v.kind)).setCell (p := ⟨RB, 1, none⟩) hle (.int .i64 v.num)).setCell (p := ⟨RB, 2, none⟩) hle (.int .u64 v.bits)).setCell (p := ⟨RB, 3, none⟩) hle (.int .i64 off)).setCell (p := ⟨RB, 4, none⟩) hle (.bool known)).setCell (p := ⟨RB, 5, none⟩) hle (.bool true)).setCell (p := ⟨RB, 6, none⟩) hle (.bool true))
          have ho := hide (hofs.out true true hal.out hst.out)
          go_wp2
          refine bodyPost_ret (v := rtV ⟨v, off, known, true, true⟩) ?_ rfl ?_
          · obtain ⟨u0, u1, u2, u3, u4, u5, u6⟩ := seven_cells hfin.out
            simp [results, Try.results26, go_sem, u0, u1, u2, u3, u4, u5, u6]
          · unfold OfPost
            rw [ho.out]
            exact ⟨rfl, hrI, hbf.out⟩
        · by_cases gb : bi = 0
          · subst gb
            have hst : Hid (stableS np f.blocks v = true) := hide (by rw [hstb.out]; simp [g2])
            have hfin := hide (set_heap (j := 6) (v := .bool true) (set_heap (j := 5) (v := .bool true) (set_heap (j := 4) (v := .bool known) (set_heap (j := 3) (v := .int .i64 off) (set_heap (j := 2) (v := .int .u64 v.bits) (set_heap (j := 1) (v := .int .i64 v.num) (set_heap (j := 0) (v := .int .i64 v.kind) (set_far (M := Z.heap.size) (j := 6) (v := .bool true) hR5Y.out hne2))))))))
            have hle : w.heap.size ≤ RB := by omega
            have hbf := hide ((((((((hbwY.out.setCell (p := ⟨Z.heap.size, 6, none⟩) (by show w.heap.size ≤ Z.heap.size; omega) (.bool true)).setCell (p := ⟨RB, 0, none⟩) hle (.int .i64 v.kind)).setCell (p := ⟨RB, 1, none⟩) hle (.int .i64 v.num)).setCell (p := ⟨RB, 2, none⟩) hle (.int .u64 v.bits)).setCell (p := ⟨RB, 3, none⟩) hle (.int .i64 off)).setCell (p := ⟨RB, 4, none⟩) hle (.bool known)).setCell (p := ⟨RB, 5, none⟩) hle (.bool true)).setCell (p := ⟨RB, 6, none⟩) hle (.bool true))
            have ho := hide (hofs.out true true hal.out hst.out)
            go_wp2
            refine bodyPost_ret (v := rtV ⟨v, off, known, true, true⟩) ?_ rfl ?_
            · obtain ⟨u0, u1, u2, u3, u4, u5, u6⟩ := seven_cells hfin.out
              simp [results, Try.results26, go_sem, u0, u1, u2, u3, u4, u5, u6]
            · unfold OfPost
              rw [ho.out]
              exact ⟨rfl, hrI, hbf.out⟩
          · have gb' : ((bi : Int) == 0) = false := by rw [beq_eq_false_iff_ne]; omega
            have hst : Hid (stableS np f.blocks v = false) := hide (by rw [hstb.out]; simp [g2, gb])
            have hfin := hide (set_heap (j := 6) (v := .bool false) (set_heap (j := 5) (v := .bool true) (set_heap (j := 4) (v := .bool known) (set_heap (j := 3) (v := .int .i64 off) (set_heap (j := 2) (v := .int .u64 v.bits) (set_heap (j := 1) (v := .int .i64 v.num) (set_heap (j := 0) (v := .int .i64 v.kind) (set_far (M := Z.heap.size) (j := 6) (v := .bool false) hR5Y.out hne2))))))))
            have hle : w.heap.size ≤ RB := by omega
            have hbf := hide ((((((((hbwY.out.setCell (p := ⟨Z.heap.size, 6, none⟩) (by show w.heap.size ≤ Z.heap.size; omega) (.bool false)).setCell (p := ⟨RB, 0, none⟩) hle (.int .i64 v.kind)).setCell (p := ⟨RB, 1, none⟩) hle (.int .i64 v.num)).setCell (p := ⟨RB, 2, none⟩) hle (.int .u64 v.bits)).setCell (p := ⟨RB, 3, none⟩) hle (.int .i64 off)).setCell (p := ⟨RB, 4, none⟩) hle (.bool known)).setCell (p := ⟨RB, 5, none⟩) hle (.bool true)).setCell (p := ⟨RB, 6, none⟩) hle (.bool false))
            have ho := hide (hofs.out true false hal.out hst.out)
            replace gb := hide gb
            go_wp2
            refine bodyPost_ret (v := rtV ⟨v, off, known, true, false⟩) ?_ rfl ?_
            · obtain ⟨u0, u1, u2, u3, u4, u5, u6⟩ := seven_cells hfin.out
              simp [results, Try.results26, go_sem, u0, u1, u2, u3, u4, u5, u6]
            · unfold OfPost
              rw [ho.out]
              exact ⟨rfl, hrI, hbf.out⟩
      · by_cases gb : bi = 0
        · subst gb
          have hst : Hid (stableS np f.blocks v = true) := hide (by rw [hstb.out]; simp [g0])
          have hfin := hide (set_heap (j := 6) (v := .bool true) (set_heap (j := 5) (v := .bool true) (set_heap (j := 4) (v := .bool known) (set_heap (j := 3) (v := .int .i64 off) (set_heap (j := 2) (v := .int .u64 v.bits) (set_heap (j := 1) (v := .int .i64 v.num) (set_heap (j := 0) (v := .int .i64 v.kind) (set_far (M := Z.heap.size) (j := 6) (v := .bool true) hR5Y.out hne2))))))))
          have hle : w.heap.size ≤ RB := by omega
          have hbf := hide ((((((((hbwY.out.setCell (p := ⟨Z.heap.size, 6, none⟩) (by show w.heap.size ≤ Z.heap.size; omega) (.bool true)).setCell (p := ⟨RB, 0, none⟩) hle (.int .i64 v.kind)).setCell (p := ⟨RB, 1, none⟩) hle (.int .i64 v.num)).setCell (p := ⟨RB, 2, none⟩) hle (.int .u64 v.bits)).setCell (p := ⟨RB, 3, none⟩) hle (.int .i64 off)).setCell (p := ⟨RB, 4, none⟩) hle (.bool known)).setCell (p := ⟨RB, 5, none⟩) hle (.bool true)).setCell (p := ⟨RB, 6, none⟩) hle (.bool true))
          have ho := hide (hofs.out true true hal.out hst.out)
          go_wp2
          refine bodyPost_ret (v := rtV ⟨v, off, known, true, true⟩) ?_ rfl ?_
          · obtain ⟨u0, u1, u2, u3, u4, u5, u6⟩ := seven_cells hfin.out
            simp [results, Try.results26, go_sem, u0, u1, u2, u3, u4, u5, u6]
          · unfold OfPost
            rw [ho.out]
            exact ⟨rfl, hrI, hbf.out⟩
        · have gb' : ((bi : Int) == 0) = false := by rw [beq_eq_false_iff_ne]; omega
          have hst : Hid (stableS np f.blocks v = false) := hide (by rw [hstb.out]; simp [g0, gb])
          have hfin := hide (set_heap (j := 6) (v := .bool false) (set_heap (j := 5) (v := .bool true) (set_heap (j := 4) (v := .bool known) (set_heap (j := 3) (v := .int .i64 off) (set_heap (j := 2) (v := .int .u64 v.bits) (set_heap (j := 1) (v := .int .i64 v.num) (set_heap (j := 0) (v := .int .i64 v.kind) (set_far (M := Z.heap.size) (j := 6) (v := .bool false) hR5Y.out hne2))))))))
          have hle : w.heap.size ≤ RB := by omega
          have hbf := hide ((((((((hbwY.out.setCell (p := ⟨Z.heap.size, 6, none⟩) (by show w.heap.size ≤ Z.heap.size; omega) (.bool false)).setCell (p := ⟨RB, 0, none⟩) hle (.int .i64 v.kind)).setCell (p := ⟨RB, 1, none⟩) hle (.int .i64 v.num)).setCell (p := ⟨RB, 2, none⟩) hle (.int .u64 v.bits)).setCell (p := ⟨RB, 3, none⟩) hle (.int .i64 off)).setCell (p := ⟨RB, 4, none⟩) hle (.bool known)).setCell (p := ⟨RB, 5, none⟩) hle (.bool true)).setCell (p := ⟨RB, 6, none⟩) hle (.bool false))
          have ho := hide (hofs.out true false hal.out hst.out)
          replace gb := hide gb
          go_wp2
          refine bodyPost_ret (v := rtV ⟨v, off, known, true, false⟩) ?_ rfl ?_
          · obtain ⟨u0, u1, u2, u3, u4, u5, u6⟩ := seven_cells hfin.out
            simp [results, Try.results26, go_sem, u0, u1, u2, u3, u4, u5, u6]
          · unfold OfPost
            rw [ho.out]
            exact ⟨rfl, hrI, hbf.out⟩
    | false =>
      rw [hop] at hal
      obtain ⟨Z, hZ, hwZ, hZs, hzc⟩ := boxes1 w5 #[.int .i64 ins.op, .int .i64 ins.reg, .int .i64 ins.ty, .int .i64 ins.num, .int .i64 ins.flags, .slice A5 ins.args.length k5, .slice A6 ins.to.length k6] 39
      have i0 := hzc 0 _ rfl Z (Below.refl _ _)
      obtain ⟨Y, hY, hwY, hYs, hyc⟩ := boxes1 Z #[.int .i64 v.kind, .int .i64 v.num, .int .u64 v.bits, .int .i64 off, .bool known, .bool false, .bool false] 65
      have hYR : Hid (Y.heap[Z.heap.size]? = some (.cells #[.int .i64 v.kind, .int .i64 v.num, .int .u64 v.bits, .int .i64 off, .bool known, .bool false, .bool false] 65 (0, 0))) := hide (by rw [← hY]; exact box_top _ _)
      have z3 : RB < w5.heap.size := by omega
      have z4 : w5.heap.size < Z.heap.size := by omega
      have z5 : Z.heap.size < Y.heap.size := by omega
      have hV5Z : Hid (Z.heap[VB]? = some (.cells #[.int .i64 v.kind, .int .i64 v.num, .int .u64 v.bits] 42 (0, 0))) := hide ((hwZ.block _ (by omega)).trans hV5.out)
      have hV5Y : Hid (Y.heap[VB]? = some (.cells #[.int .i64 v.kind, .int .i64 v.num, .int .u64 v.bits] 42 (0, 0))) := hide ((hwY.block _ (by omega)).trans hV5Z.out)
      have hR5Y : Hid (Y.heap[RB]? = some (.cells #[.int .i64 0, .int .i64 0, .int .u64 0, .int .i64 0, .bool false, .bool false, .bool false] 65 (0, 0))) := hide ((hwY.block _ (by omega)).trans ((hwZ.block _ (by omega)).trans hR5.out))
      have hpY : Y.cell? ⟨w.heap.size, 1, none⟩ = some (.slice A1 np k1) := (hwY.cell (p := ⟨w.heap.size, 1, none⟩) (by show w.heap.size < Z.heap.size; omega)).trans ((hwZ.cell (p := ⟨w.heap.size, 1, none⟩) (by show w.heap.size < w5.heap.size; omega)).trans hp5)
      have hbwY : Hid (Below w.heap.size w Y) := hide (hbw5.out.trans ((hwZ.mono (by omega)).trans (hwY.mono (by omega))))
      replace hZ := hide hZ
      replace hY := hide hY
      replace hwZ := hide hwZ
      replace hwY := hide hwY
      replace hZs := hide hZs
      replace hYs := hide hYs
      clear hzc hyc hp5 hs5 hs4
      go_upto_region 3 with (fail)
      rw [hZ.out]
      clear hZ
      obtain ⟨t0, t1, t2⟩ := three_cells hV5Z.out
      go_upto_region 4 with (fail)
      rw [hY.out]
      clear hY t0 t1 t2 i0
      obtain ⟨t0, t1, t2⟩ := three_cells hV5Y.out
      obtain ⟨y0, y1, y2, y3, y4, y5, y6⟩ := seven_cells hYR.out
      have fy := one_free (j := 6) hYR.out
      obtain ⟨s0, s1, s2, s3, s4, s5, s6⟩ := seven_cells hR5Y.out
      have g00 := one_free (j := 0) hR5Y.out
      have g01 := one_free (j := 1) hR5Y.out
      have g02 := one_free (j := 2) hR5Y.out
      have g03 := one_free (j := 3) hR5Y.out
      have g04 := one_free (j := 4) hR5Y.out
      have g05 := one_free (j := 5) hR5Y.out
      have g06 := one_free (j := 6) hR5Y.out
      have hne1 : ¬ Z.heap.size = RB := by omega
      have hne2 : ¬ RB = Z.heap.size := by omega
      by_cases g0 : 0 ≤ v.num
      · by_cases g2 : v.num < np
        · have hst : Hid (stableS np f.blocks v = true) := hide (by rw [hstb.out]; simp [g0, g2])
          have hfin := hide (set_heap (j := 6) (v := .bool true) (set_heap (j := 5) (v := .bool false) (set_heap (j := 4) (v := .bool known) (set_heap (j := 3) (v := .int .i64 off) (set_heap (j := 2) (v := .int .u64 v.bits) (set_heap (j := 1) (v := .int .i64 v.num) (set_heap (j := 0) (v := .int .i64 v.kind) (set_far (M := Z.heap.size) (j := 6) (v := .bool true) hR5Y.out hne2))))))))
          have hle : w.heap.size ≤ RB := by omega
          have hbf := hide ((((((((hbwY.out.setCell (p := ⟨Z.heap.size, 6, none⟩) (by show w.heap.size ≤ Z.heap.size; omega) (.bool true)).setCell (p := ⟨RB, 0, none⟩) hle (.int .i64 v.kind)).setCell (p := ⟨RB, 1, none⟩) hle (.int .i64 v.num)).setCell (p := ⟨RB, 2, none⟩) hle (.int .u64 v.bits)).setCell (p := ⟨RB, 3, none⟩) hle (.int .i64 off)).setCell (p := ⟨RB, 4, none⟩) hle (.bool known)).setCell (p := ⟨RB, 5, none⟩) hle (.bool false)).setCell (p := ⟨RB, 6, none⟩) hle (.bool true))
          have ho := hide (hofs.out false true hal.out hst.out)
          go_wp2
          refine bodyPost_ret (v := rtV ⟨v, off, known, false, true⟩) ?_ rfl ?_
          · obtain ⟨u0, u1, u2, u3, u4, u5, u6⟩ := seven_cells hfin.out
            simp [results, Try.results26, go_sem, u0, u1, u2, u3, u4, u5, u6]
          · unfold OfPost
            rw [ho.out]
            exact ⟨rfl, hrI, hbf.out⟩
        · by_cases gb : bi = 0
          · subst gb
            have hst : Hid (stableS np f.blocks v = true) := hide (by rw [hstb.out]; simp [g2])
            have hfin := hide (set_heap (j := 6) (v := .bool true) (set_heap (j := 5) (v := .bool false) (set_heap (j := 4) (v := .bool known) (set_heap (j := 3) (v := .int .i64 off) (set_heap (j := 2) (v := .int .u64 v.bits) (set_heap (j := 1) (v := .int .i64 v.num) (set_heap (j := 0) (v := .int .i64 v.kind) (set_far (M := Z.heap.size) (j := 6) (v := .bool true) hR5Y.out hne2))))))))
            have hle : w.heap.size ≤ RB := by omega
            have hbf := hide ((((((((hbwY.out.setCell (p := ⟨Z.heap.size, 6, none⟩) (by show w.heap.size ≤ Z.heap.size; omega) (.bool true)).setCell (p := ⟨RB, 0, none⟩) hle (.int .i64 v.kind)).setCell (p := ⟨RB, 1, none⟩) hle (.int .i64 v.num)).setCell (p := ⟨RB, 2, none⟩) hle (.int .u64 v.bits)).setCell (p := ⟨RB, 3, none⟩) hle (.int .i64 off)).setCell (p := ⟨RB, 4, none⟩) hle (.bool known)).setCell (p := ⟨RB, 5, none⟩) hle (.bool false)).setCell (p := ⟨RB, 6, none⟩) hle (.bool true))
            have ho := hide (hofs.out false true hal.out hst.out)
            go_wp2
            refine bodyPost_ret (v := rtV ⟨v, off, known, false, true⟩) ?_ rfl ?_
            · obtain ⟨u0, u1, u2, u3, u4, u5, u6⟩ := seven_cells hfin.out
              simp [results, Try.results26, go_sem, u0, u1, u2, u3, u4, u5, u6]
            · unfold OfPost
              rw [ho.out]
              exact ⟨rfl, hrI, hbf.out⟩
          · have gb' : ((bi : Int) == 0) = false := by rw [beq_eq_false_iff_ne]; omega
            have hst : Hid (stableS np f.blocks v = false) := hide (by rw [hstb.out]; simp [g2, gb])
            have hfin := hide (set_heap (j := 6) (v := .bool false) (set_heap (j := 5) (v := .bool false) (set_heap (j := 4) (v := .bool known) (set_heap (j := 3) (v := .int .i64 off) (set_heap (j := 2) (v := .int .u64 v.bits) (set_heap (j := 1) (v := .int .i64 v.num) (set_heap (j := 0) (v := .int .i64 v.kind) (set_far (M := Z.heap.size) (j := 6) (v := .bool false) hR5Y.out hne2))))))))
            have hle : w.heap.size ≤ RB := by omega
            have hbf := hide ((((((((hbwY.out.setCell (p := ⟨Z.heap.size, 6, none⟩) (by show w.heap.size ≤ Z.heap.size; omega) (.bool false)).setCell (p := ⟨RB, 0, none⟩) hle (.int .i64 v.kind)).setCell (p := ⟨RB, 1, none⟩) hle (.int .i64 v.num)).setCell (p := ⟨RB, 2, none⟩) hle (.int .u64 v.bits)).setCell (p := ⟨RB, 3, none⟩) hle (.int .i64 off)).setCell (p := ⟨RB, 4, none⟩) hle (.bool known)).setCell (p := ⟨RB, 5, none⟩) hle (.bool false)).setCell (p := ⟨RB, 6, none⟩) hle (.bool false))
            have ho := hide (hofs.out false false hal.out hst.out)
            replace gb := hide gb
            go_wp2
            refine bodyPost_ret (v := rtV ⟨v, off, known, false, false⟩) ?_ rfl ?_
            · obtain ⟨u0, u1, u2, u3, u4, u5, u6⟩ := seven_cells hfin.out
              simp [results, Try.results26, go_sem, u0, u1, u2, u3, u4, u5, u6]
            · unfold OfPost
              rw [ho.out]
              exact ⟨rfl, hrI, hbf.out⟩
      · by_cases gb : bi = 0
        · subst gb
          have hst : Hid (stableS np f.blocks v = true) := hide (by rw [hstb.out]; simp [g0])
          have hfin := hide (set_heap (j := 6) (v := .bool true) (set_heap (j := 5) (v := .bool false) (set_heap (j := 4) (v := .bool known) (set_heap (j := 3) (v := .int .i64 off) (set_heap (j := 2) (v := .int .u64 v.bits) (set_heap (j := 1) (v := .int .i64 v.num) (set_heap (j := 0) (v := .int .i64 v.kind) (set_far (M := Z.heap.size) (j := 6) (v := .bool true) hR5Y.out hne2))))))))
          have hle : w.heap.size ≤ RB := by omega
          have hbf := hide ((((((((hbwY.out.setCell (p := ⟨Z.heap.size, 6, none⟩) (by show w.heap.size ≤ Z.heap.size; omega) (.bool true)).setCell (p := ⟨RB, 0, none⟩) hle (.int .i64 v.kind)).setCell (p := ⟨RB, 1, none⟩) hle (.int .i64 v.num)).setCell (p := ⟨RB, 2, none⟩) hle (.int .u64 v.bits)).setCell (p := ⟨RB, 3, none⟩) hle (.int .i64 off)).setCell (p := ⟨RB, 4, none⟩) hle (.bool known)).setCell (p := ⟨RB, 5, none⟩) hle (.bool false)).setCell (p := ⟨RB, 6, none⟩) hle (.bool true))
          have ho := hide (hofs.out false true hal.out hst.out)
          go_wp2
          refine bodyPost_ret (v := rtV ⟨v, off, known, false, true⟩) ?_ rfl ?_
          · obtain ⟨u0, u1, u2, u3, u4, u5, u6⟩ := seven_cells hfin.out
            simp [results, Try.results26, go_sem, u0, u1, u2, u3, u4, u5, u6]
          · unfold OfPost
            rw [ho.out]
            exact ⟨rfl, hrI, hbf.out⟩
        · have gb' : ((bi : Int) == 0) = false := by rw [beq_eq_false_iff_ne]; omega
          have hst : Hid (stableS np f.blocks v = false) := hide (by rw [hstb.out]; simp [g0, gb])
          have hfin := hide (set_heap (j := 6) (v := .bool false) (set_heap (j := 5) (v := .bool false) (set_heap (j := 4) (v := .bool known) (set_heap (j := 3) (v := .int .i64 off) (set_heap (j := 2) (v := .int .u64 v.bits) (set_heap (j := 1) (v := .int .i64 v.num) (set_heap (j := 0) (v := .int .i64 v.kind) (set_far (M := Z.heap.size) (j := 6) (v := .bool false) hR5Y.out hne2))))))))
          have hle : w.heap.size ≤ RB := by omega
          have hbf := hide ((((((((hbwY.out.setCell (p := ⟨Z.heap.size, 6, none⟩) (by show w.heap.size ≤ Z.heap.size; omega) (.bool false)).setCell (p := ⟨RB, 0, none⟩) hle (.int .i64 v.kind)).setCell (p := ⟨RB, 1, none⟩) hle (.int .i64 v.num)).setCell (p := ⟨RB, 2, none⟩) hle (.int .u64 v.bits)).setCell (p := ⟨RB, 3, none⟩) hle (.int .i64 off)).setCell (p := ⟨RB, 4, none⟩) hle (.bool known)).setCell (p := ⟨RB, 5, none⟩) hle (.bool false)).setCell (p := ⟨RB, 6, none⟩) hle (.bool false))
          have ho := hide (hofs.out false false hal.out hst.out)
          replace gb := hide gb
          go_wp2
          refine bodyPost_ret (v := rtV ⟨v, off, known, false, false⟩) ?_ rfl ?_
          · obtain ⟨u0, u1, u2, u3, u4, u5, u6⟩ := seven_cells hfin.out
            simp [results, Try.results26, go_sem, u0, u1, u2, u3, u4, u5, u6]
          · unfold OfPost
            rw [ho.out]
            exact ⟨rfl, hrI, hbf.out⟩
end Go.Proofs.Ytamjcafjdioidaa
