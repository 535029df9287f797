/- alias.maker. No condition but sizes. -/
import Derived.Test.YtaljdbmmjgmbbaaAlA
import Derived.Test.YtaljdbmmjgmbbaaHm
import Derived.Test.YtaljdbmmjgmbbaaIrF
import Derived.Test.YtaljdbmmjgmbbaaStq
namespace Go.Proofs.Ytaljdbmmjgmbbaa
open Go.RowKit
set_option linter.unusedSimpArgs false
set_option linter.unusedVariables false

def zero7 (w : World) (g o : Nat) (a : Int) : World := ((((((w.setCell ⟨g, o, none⟩ (.int .i64 a)).setCell ⟨g, o + 1, none⟩ (.int .i64 0)).setCell ⟨g, o + 2, none⟩ (.int .i64 0)).setCell ⟨g, o + 3, none⟩ (.int .i64 0)).setCell ⟨g, o + 4, none⟩ (.int .i64 0)).setCell ⟨g, o + 5, none⟩ (.slice none 0 0)).setCell ⟨g, o + 6, none⟩ (.slice none 0 0)
def MakerPost (bs : List (List Ins)) (v : Opd) (w : World) (e : Ending) (w' : World) : Prop := Below w.heap.size w w' ∧
  ((makerS bs v = none ∧ e = .returned (.tuple #[.agg #[.int .i64 0, .int .i64 0, .int .i64 0, .int .i64 0, .int .i64 0, .slice none 0 0, .slice none 0 0], .int .i64 0, .bool false])) ∨
   ∃ ins i c d, makerS bs v = some (ins, i) ∧ e = .returned (.tuple #[.agg #[.int .i64 ins.op, .int .i64 ins.reg, .int .i64 ins.ty, .int .i64 ins.num, .int .i64 ins.flags, c, d], .int .i64 (i : Nat), .bool true]) ∧
     RIns.rep w' w'.heap.size [.int .i64 ins.op, .int .i64 ins.reg, .int .i64 ins.ty, .int .i64 ins.num, .int .i64 ins.flags, c, d] ins)
theorem seven_cells {w : World} {N : Nat} {u0 u1 u2 u3 u4 u5 u6 : Value} {t : TypeId} (h : w.heap[N]? = some (.cells #[u0, u1, u2, u3, u4, u5, u6] t (0, 0))) : w.cell? ⟨N, 0, none⟩ = some u0 ∧ w.cell? ⟨N, 1, none⟩ = some u1 ∧ w.cell? ⟨N, 2, none⟩ = some u2 ∧ w.cell? ⟨N, 3, none⟩ = some u3 ∧ w.cell? ⟨N, 4, none⟩ = some u4 ∧ w.cell? ⟨N, 5, none⟩ = some u5 ∧ w.cell? ⟨N, 6, none⟩ = some u6 := by simp [World.cell?, h]
set_option maxRecDepth 100000 in
set_option maxHeartbeats 6400000 in
theorem maker_any (f : Fun) (v : Opd) (c1 c2 : Value) (w : World) (B : Nat) (hB : B ≤ w.heap.size) (hf : RFun.rep w B [.string f.name, c1, .int .i64 f.ret, c2] f) (hs : Small f) :
    Calls Try.prog 56 #[f.v c1 c2, .agg #[.int .i64 v.kind, .int .i64 v.num, .int .u64 v.bits]] w (MakerPost f.blocks v w) := by
  obtain ⟨hp, hb⟩ := fun_open (RFun.later hf (Below.refl _ _) hB)
  obtain ⟨A1, k1, h1, -, -⟩ := Rp.slice1_open hp
  obtain ⟨A2, k2, h2, hm2, gb⟩ := Rp.slice1_open hb
  cases h1; cases h2
  replace gb := hide gb
  replace hp := hide hp
  replace hb := hide hb
  obtain ⟨n, hn⟩ : ∃ n, Hid (n = f.blocks.length) := ⟨_, hide rfl⟩
  have hnle : n ≤ 2000000 := by rw [hn.out]; exact hs.blocks
  rw [← hn.out] at hf hm2 hb ⊢
  obtain ⟨W, hW, hwW, hWs, hx0, hx1, hx2⟩ := boxes3 w #[.string f.name, .slice A1 f.params.length k1, .int .i64 f.ret, .slice A2 n k2] #[.int .i64 v.kind, .int .i64 v.num, .int .u64 v.bits] #[.int .i64 0, .int .i64 0, .int .i64 0, .int .i64 0, .int .i64 0, .slice none 0 0, .slice none 0 0] 25 28 44
  have hN0 : Hid (W.heap[w.heap.size + 1 + 1]? = some (.cells #[.int .i64 0, .int .i64 0, .int .i64 0, .int .i64 0, .int .i64 0, .slice none 0 0, .slice none 0 0] 44 (0, 0))) := hide (by rw [← hW]; exact box_at _ (by simp))
  have q0 : ∀ w', Below W.heap.size W w' → w'.cell? ⟨w.heap.size, 0, none⟩ = some (.string f.name) := hx0 0 _ rfl
  have q1 : ∀ w', Below W.heap.size W w' → w'.cell? ⟨w.heap.size, 1, none⟩ = some (.slice A1 f.params.length k1) := hx0 1 _ rfl
  have q2 : ∀ w', Below W.heap.size W w' → w'.cell? ⟨w.heap.size, 2, none⟩ = some (.int .i64 f.ret) := hx0 2 _ rfl
  have q3 : ∀ w', Below W.heap.size W w' → w'.cell? ⟨w.heap.size, 3, none⟩ = some (.slice A2 n k2) := hx0 3 _ rfl
  have v0 : ∀ w', Below W.heap.size W w' → w'.cell? ⟨w.heap.size + 1, 0, none⟩ = some (.int .i64 v.kind) := hx1 0 _ rfl
  have v1 : ∀ w', Below W.heap.size W w' → w'.cell? ⟨w.heap.size + 1, 1, none⟩ = some (.int .i64 v.num) := hx1 1 _ rfl
  clear hx0 hx1 hx2
  have hws : w.heap.size ≤ W.heap.size := by omega
  have hNW : w.heap.size + 1 + 1 < W.heap.size := by omega
  replace hWs := hide hWs
  have hself := Below.refl W.heap.size W
  have cD : Hid (∀ w', Below W.heap.size W w' → Calls Try.prog 34 #[f.v (.slice A1 f.params.length k1) (.slice A2 n k2), .int .i64 v.num] w' (DefPost f v.num w')) := hide (fun w' h => def_any f v.num (.slice A1 f.params.length k1) (.slice A2 n k2) w' w'.heap.size (Nat.le_refl _) (RInts.later hp.out (hwW.trans (h.mono hws)) (hwW.trans (h.mono hws)).size) (RBlks.later hb.out (hwW.trans (h.mono hws)) (hwW.trans (h.mono hws)).size))
  replace hs := hide hs
  replace hf := hide hf
  replace hwW := hide hwW
  by_cases hk : v.kind = 1
  · have hk1 : (v.kind != 1) = false := by rw [hk]; rfl
    have hk0 := hide hk
    replace hk := hide hk
    go_enter Try.func56, Try.ntmps56
    go_wp2_with (fail)
    refine (cD.out _ hself).mono ?_
    rintro e w4 ⟨i, j, fd, rfl, hb4, hd1, hd2⟩
    have hs4 := hb4.size
    replace hd1 := hide hd1
    replace hd2 := hide hd2
    cases fd with
    | false =>
      obtain ⟨rfl, rfl, hno⟩ := hd2.out rfl
      have hmk : Hid (makerS f.blocks v = none) := hide (makerS_no hno)
      obtain ⟨Y, hY, hwY, hYs, hy⟩ := boxes1 w4 #[.int .i64 0, .int .i64 0, .int .i64 0] 58
      have hbY : Below W.heap.size W Y := hb4.trans (hwY.mono hs4)
      have hNY : Hid (Y.heap[w.heap.size + 1 + 1]? = some (.cells #[.int .i64 0, .int .i64 0, .int .i64 0, .int .i64 0, .int .i64 0, .slice none 0 0, .slice none 0 0] 44 (0, 0))) := hide ((hbY.block _ hNW).trans hN0.out)
      have hbw : Hid (Below w.heap.size w Y) := hide (hwW.out.trans (hbY.mono hws))
      clear hd1 hd2 hno hy
      have hb4' := hide hb4
      replace hwY := hide hwY
      replace hYs := hide hYs
      clear hb4
      obtain ⟨z0, z1, z2, z3, z4, z5, z6⟩ := seven_cells hNY.out
      have g0 := one_free (j := 0) hNY.out
      have g1 := one_free (j := 1) hNY.out
      have g2 := one_free (j := 2) hNY.out
      have g3 := one_free (j := 3) hNY.out
      have g4 := one_free (j := 4) hNY.out
      have g5 := one_free (j := 5) hNY.out
      have g6 := one_free (j := 6) hNY.out
      replace hY := hide hY
      go_upto_region 4 with (fail)
      rw [hY.out]
      clear hY
      have hfin : Hid ((zero7 Y (w.heap.size + 1 + 1) 0 0).heap[w.heap.size + 1 + 1]? = some (.cells #[.int .i64 0, .int .i64 0, .int .i64 0, .int .i64 0, .int .i64 0, .slice none 0 0, .slice none 0 0] 44 (0, 0))) := hide (set_heap (j := 6) (set_heap (j := 5) (set_heap (j := 4) (set_heap (j := 3) (set_heap (j := 2) (set_heap (j := 1) (set_heap (j := 0) hNY.out)))))))
      have hbf : Hid (Below w.heap.size w (zero7 Y (w.heap.size + 1 + 1) 0 0)) := hide (((((((hbw.out.setCell (by show w.heap.size ≤ w.heap.size + 1 + 1; omega) _).setCell (by show w.heap.size ≤ w.heap.size + 1 + 1; omega) _).setCell (by show w.heap.size ≤ w.heap.size + 1 + 1; omega) _).setCell (by show w.heap.size ≤ w.heap.size + 1 + 1; omega) _).setCell (by show w.heap.size ≤ w.heap.size + 1 + 1; omega) _).setCell (by show w.heap.size ≤ w.heap.size + 1 + 1; omega) _).setCell (by show w.heap.size ≤ w.heap.size + 1 + 1; omega) _)
      go_wp2
      refine bodyPost_ret (v := .tuple #[.agg #[.int .i64 0, .int .i64 0, .int .i64 0, .int .i64 0, .int .i64 0, .slice none 0 0, .slice none 0 0], .int .i64 0, .bool false]) ?_ rfl ?_
      · obtain ⟨y0, y1, y2, y3, y4, y5, y6⟩ := seven_cells hfin.out
        unfold zero7 at y0 y1 y2 y3 y4 y5 y6
        simp only [Nat.zero_add] at y0 y1 y2 y3 y4 y5 y6
        simp [results, Try.results56, go_sem, y0, y1, y2, y3, y4, y5, y6]
      · have h9 := hbf.out
        unfold zero7 at h9
        simp only [Nat.zero_add] at h9
        exact ⟨h9, .inl ⟨hmk.out, rfl⟩⟩
    | true =>
      obtain ⟨x, ins, hx, hins, hdef, hnb⟩ := hd1.out rfl
      have hmk : Hid (makerS f.blocks v = some (ins, i)) := hide (makerS_some hk0.out hx hins ⟨x, ins, hx, hins, hdef, hnb⟩)
      obtain ⟨Y, hY, hwY, hYs, hy⟩ := boxes1 w4 #[.int .i64 0, .int .i64 i, .int .i64 j] 58
      have hbY : Below W.heap.size W Y := hb4.trans (hwY.mono hs4)
      have hNY : Hid (Y.heap[w.heap.size + 1 + 1]? = some (.cells #[.int .i64 0, .int .i64 0, .int .i64 0, .int .i64 0, .int .i64 0, .slice none 0 0, .slice none 0 0] 44 (0, 0))) := hide ((hbY.block _ hNW).trans hN0.out)
      have hbw : Hid (Below w.heap.size w Y) := hide (hwW.out.trans (hbY.mono hws))
      have hselfY := Below.refl Y.heap.size Y
      have hwY2 := hwW.out.trans (hbY.mono hws)
      have hw4s : W.heap.size ≤ w4.heap.size := hs4
      have hY4 : w4.heap.size < Y.heap.size := by omega
      have hYw : w.heap.size ≤ Y.heap.size := hwY2.size
      have up : ∀ {b o : Nat} {u : Value}, b ≠ w.heap.size + 1 + 1 → b < Y.heap.size → Y.cell? ⟨b, o, none⟩ = some u → ∀ w', Only (fun k => k = w.heap.size + 1 + 1) Y.heap.size Y w' → w'.cell? ⟨b, o, none⟩ = some u := fun {b o u} h1 h2 h3 w' h => (h.cell (p := ⟨b, o, none⟩) h2 h1).trans h3
      have low : ∀ {b o : Nat} {u : Value}, b < w.heap.size → w.cell? ⟨b, o, none⟩ = some u → ∀ w', Only (fun k => k = w.heap.size + 1 + 1) Y.heap.size Y w' → w'.cell? ⟨b, o, none⟩ = some u := fun {b o u} h1 h2 => up (by omega) (by omega) ((hwY2.cell (p := ⟨b, o, none⟩) h1).trans h2)
      have t1 := up (o := 1) (by omega) hY4 (hy 1 _ rfl Y hselfY)
      have t2 := up (o := 2) (by omega) hY4 (hy 2 _ rfl Y hselfY)
      have r3 := up (o := 3) (by omega) (by omega) (q3 Y hbY)
      have hin : i < n := by have := (List.getElem?_eq_some_iff.1 hx).1; have := hn.out; omega
      obtain ⟨A9, k9, h9, -, gb9⟩ := Rp.slice1_at hb.out
      cases h9
      obtain ⟨b1, o1, rfl, hb1w, he1⟩ := gb9 (by have := hn.out; omega)
      obtain ⟨d1, hr1, hd3⟩ := he1 i x hx
      obtain ⟨A3, c3, h3, hm3, ga3⟩ := Rp.slice_at hr1
      cases h3
      have hjx : j < x.length := (List.getElem?_eq_some_iff.1 hins).1
      obtain ⟨b3, o3, rfl, hb3w, he3⟩ := ga3 (by omega)
      obtain ⟨es, hes, hri, hc⟩ := he3 j ins hins
      obtain ⟨a1, a2, rfl, ha, hto, hok⟩ := id hri
      obtain ⟨A5, k5, h5, -, -⟩ := Rp.slice_at ha
      obtain ⟨A6, k6, h6, -, -⟩ := Rp.slice1_at hto
      cases h5; cases h6
      have r4 := low (by omega) hd3
      have e0 := low (by omega) (hc 0 _ rfl)
      have e1 := low (by omega) (hc 1 _ rfl)
      have e2 := low (by omega) (hc 2 _ rfl)
      have e3 := low (by omega) (hc 3 _ rfl)
      have e4 := low (by omega) (hc 4 _ rfl)
      have e5 := low (by omega) (hc 5 _ rfl)
      have e6 := low (by omega) (hc 6 _ rfl)
      simp only [Nat.add_zero] at e0
      have hri2 := hide hri
      have hon : Only (fun k => k = w.heap.size + 1 + 1) Y.heap.size Y Y := Only.refl _ _ _
      clear hd1 hd2 hy hdef hnb he1 hr1 hd3 ga3 gb9 he3 hc ha hto hok hri hes q0 q1 q2 q3 v0 v1 hselfY hself up low
      replace hx := hide hx
      replace hins := hide hins
      replace hwY := hide hwY
      replace hYs := hide hYs
      replace hwY2 := hide hwY2
      have hb4' := hide hb4
      clear hb4
      obtain ⟨z0, z1, z2, z3, z4, z5, z6⟩ := seven_cells hNY.out
      have g0 := one_free (j := 0) hNY.out
      have g1 := one_free (j := 1) hNY.out
      have g2 := one_free (j := 2) hNY.out
      have g3 := one_free (j := 3) hNY.out
      have g4 := one_free (j := 4) hNY.out
      have g5 := one_free (j := 5) hNY.out
      have g6 := one_free (j := 6) hNY.out
      replace hY := hide hY
      go_upto_region 4 with (fail)
      rw [hY.out]
      clear hY
      go_wp2
      (first | go_region_held3 (fun w' => Only (fun k => k = w.heap.size + 1 + 1) Y.heap.size Y w') (first | (with_reducible exact hon.drew) | (with_reducible exact (((((((hon.setCell (.inl rfl) _).setCell (.inl rfl) _).setCell (.inl rfl) _).setCell (.inl rfl) _).setCell (.inl rfl) _).setCell (.inl rfl) _).setCell (.inl rfl) _).drew)) (fail) | fail)
      go_wp2
      have hfin := set_heap (j := 6) (v := .slice A6 ins.to.length k6) (set_heap (j := 5) (v := .slice A5 ins.args.length k5) (set_heap (j := 4) (v := .int .i64 ins.flags) (set_heap (j := 3) (v := .int .i64 ins.num) (set_heap (j := 2) (v := .int .i64 ins.ty) (set_heap (j := 1) (v := .int .i64 ins.reg) (set_heap (j := 0) (v := .int .i64 ins.op) hNY.out))))))
      have hle : w.heap.size ≤ w.heap.size + 1 + 1 := by omega
      have hbf := (((((((hbw.out.setCell (p := ⟨w.heap.size + 1 + 1, 0, none⟩) hle (.int .i64 ins.op)).setCell (p := ⟨w.heap.size + 1 + 1, 1, none⟩) hle (.int .i64 ins.reg)).setCell (p := ⟨w.heap.size + 1 + 1, 2, none⟩) hle (.int .i64 ins.ty)).setCell (p := ⟨w.heap.size + 1 + 1, 3, none⟩) hle (.int .i64 ins.num)).setCell (p := ⟨w.heap.size + 1 + 1, 4, none⟩) hle (.int .i64 ins.flags)).setCell (p := ⟨w.heap.size + 1 + 1, 5, none⟩) hle (.slice A5 ins.args.length k5)).setCell (p := ⟨w.heap.size + 1 + 1, 6, none⟩) hle (.slice A6 ins.to.length k6)).drew
      refine bodyPost_ret (v := .tuple #[.agg #[.int .i64 ins.op, .int .i64 ins.reg, .int .i64 ins.ty, .int .i64 ins.num, .int .i64 ins.flags, .slice A5 ins.args.length k5, .slice A6 ins.to.length k6], .int .i64 i, .bool true]) ?_ rfl ?_
      · obtain ⟨y0, y1, y2, y3, y4, y5, y6⟩ := seven_cells hfin
        simp [results, Try.results56, go_sem, y0, y1, y2, y3, y4, y5, y6]
      · exact ⟨hbf, .inr ⟨ins, i, _, _, hmk.out, rfl, RIns.later hri2.out (hbf.mono (by omega)) (Nat.le_trans (by omega) hbf.size)⟩⟩
  · have hk1 : (v.kind != 1) = true := by rw [bne_iff_ne]; exact hk
    have hmk : Hid (makerS f.blocks v = none) := hide (makerS_kind hk)
    replace hk := hide hk
    have hbw : Hid (Below w.heap.size w W) := hwW
    clear cD gb hp hb
    obtain ⟨z0, z1, z2, z3, z4, z5, z6⟩ := seven_cells hN0.out
    have g0 := one_free (j := 0) hN0.out
    have g1 := one_free (j := 1) hN0.out
    have g2 := one_free (j := 2) hN0.out
    have g3 := one_free (j := 3) hN0.out
    have g4 := one_free (j := 4) hN0.out
    have g5 := one_free (j := 5) hN0.out
    have g6 := one_free (j := 6) hN0.out
    have hfin : Hid ((zero7 W (w.heap.size + 1 + 1) 0 0).heap[w.heap.size + 1 + 1]? = some (.cells #[.int .i64 0, .int .i64 0, .int .i64 0, .int .i64 0, .int .i64 0, .slice none 0 0, .slice none 0 0] 44 (0, 0))) := hide (set_heap (j := 6) (set_heap (j := 5) (set_heap (j := 4) (set_heap (j := 3) (set_heap (j := 2) (set_heap (j := 1) (set_heap (j := 0) hN0.out)))))))
    have hbf : Hid (Below w.heap.size w (zero7 W (w.heap.size + 1 + 1) 0 0)) := hide (((((((hbw.out.setCell (by show w.heap.size ≤ w.heap.size + 1 + 1; omega) _).setCell (by show w.heap.size ≤ w.heap.size + 1 + 1; omega) _).setCell (by show w.heap.size ≤ w.heap.size + 1 + 1; omega) _).setCell (by show w.heap.size ≤ w.heap.size + 1 + 1; omega) _).setCell (by show w.heap.size ≤ w.heap.size + 1 + 1; omega) _).setCell (by show w.heap.size ≤ w.heap.size + 1 + 1; omega) _).setCell (by show w.heap.size ≤ w.heap.size + 1 + 1; omega) _)
    go_enter Try.func56, Try.ntmps56
    go_wp2
    refine bodyPost_ret (v := .tuple #[.agg #[.int .i64 0, .int .i64 0, .int .i64 0, .int .i64 0, .int .i64 0, .slice none 0 0, .slice none 0 0], .int .i64 0, .bool false]) ?_ rfl ?_
    · obtain ⟨y0, y1, y2, y3, y4, y5, y6⟩ := seven_cells hfin.out
      unfold zero7 at y0 y1 y2 y3 y4 y5 y6
      simp only [Nat.zero_add] at y0 y1 y2 y3 y4 y5 y6
      simp [results, Try.results56, go_sem, y0, y1, y2, y3, y4, y5, y6]
    · have h9 := hbf.out
      unfold zero7 at h9
      simp only [Nat.zero_add] at h9
      exact ⟨h9, .inl ⟨hmk.out, rfl⟩⟩
end Go.Proofs.Ytaljdbmmjgmbbaa
