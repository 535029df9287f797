/- lathelaw02.SpoilAll: it writes over the set's blocks alone. No condition. -/
import Derived.Test.YtaljdbmmjgmbbaaSpA
namespace Go.Proofs.Ytaljdbmmjgmbbaa
open Go.RowKit
set_option linter.unusedSimpArgs false
set_option linter.unusedVariables false

set_option maxRecDepth 100000 in
set_option maxHeartbeats 12800000 in
theorem spoilall_any (A1 : Option Addr) (nv k1 : Nat) (A2 : Option Addr) (nx k2 : Nat) (A3 : Option Addr) (nf k3 : Nat) (S : Nat → Nat → Prop) (w : World) (hSh : Sh S w) (hv : SlOk S w 115 2 (.slice A1 nv k1)) (hx : SlOk S w 91 3 (.slice A2 nx k2)) (hf : SlOk S w 25 4 (.slice A3 nf k3)) :
    Calls Try.prog 49 #[.agg #[.slice A1 nv k1, .slice A2 nx k2, .slice A3 nf k3]] w (SpoilPost S w) := by
  have hnv8 : nv ≤ 2000000 := by obtain ⟨_, _, _, e, h, -⟩ := hv; cases e; exact h
  have hnx8 : nx ≤ 2000000 := by obtain ⟨_, _, _, e, h, -⟩ := hx; cases e; exact h
  have hnf8 : nf ≤ 2000000 := by obtain ⟨_, _, _, e, h, -⟩ := hf; cases e; exact h
  obtain ⟨W, hW, hwW, hWs, hb⟩ := boxes1 w #[.slice A1 nv k1, .slice A2 nx k2, .slice A3 nf k3] 37
  have hNf : ¬ Dm S w.heap.size := fun h => by have := hSh.lt h; omega
  have z0 : ∀ w', Only (Dm S) W.heap.size W w' → w'.cell? ⟨w.heap.size, 0, none⟩ = some (.slice A1 nv k1) := Only.fact (hb 0 _ rfl W (Below.refl _ _)) (by omega) hNf
  have z1 : ∀ w', Only (Dm S) W.heap.size W w' → w'.cell? ⟨w.heap.size, 1, none⟩ = some (.slice A2 nx k2) := Only.fact (hb 1 _ rfl W (Below.refl _ _)) (by omega) hNf
  have z2 : ∀ w', Only (Dm S) W.heap.size W w' → w'.cell? ⟨w.heap.size, 2, none⟩ = some (.slice A3 nf k3) := Only.fact (hb 2 _ rfl W (Below.refl _ _)) (by omega) hNf
  have hkW : ∀ k, Dm S k → W.heap[k]? = w.heap[k]? := fun k hk => hwW.block k (hSh.lt hk)
  have hShW := hide (hSh.kept hkW)
  have hTyW := hide (Ty.refl S W)
  have hTw := hide ((Ty.refl S w).heap hkW)
  have hV := hide (hv.later ((Ty.refl S w).heap hkW))
  have hX := hide (hx.later ((Ty.refl S w).heap hkW))
  have hF := hide (hf.later ((Ty.refl S w).heap hkW))
  have hself := Only.refl (Dm S) W.heap.size W
  have hwWh := hide hwW
  replace hWs := hide hWs
  clear hb hSh hv hx hf hNf hkW hwW
  go_enter Try.func49, Try.ntmps49
  go_wp2
  go_loopw [9] (fun u wr => ∃ i : Nat, u = .int .i64 i ∧ i ≤ nv ∧ Hid (Sh S wr) ∧ Hid (Ty S W wr) ∧ Only (Dm S) W.heap.size W wr) (fun u _ => nv - (intOf u).toNat)
  case atStart => exact ⟨0, rfl, Nat.zero_le _, hShW, hTyW, hself⟩
  case round =>
    clear hShW hTyW hself
    obtain ⟨i, rfl, hi, hSh, hTy, hon⟩ := hrel
    by_cases hlt : i < nv
    · have hii : (i : Int) < (nv : Int) := by omega
      obtain ⟨_, _, _, he, -, g⟩ := hV.out.later hTy.out
      cases he
      obtain ⟨gV, mV, rfl, hs, hm, c, hc⟩ := g (by omega)
      obtain ⟨u0, r0, -⟩ := (hSh.out.cells hs hc).2 (i * 2) (by omega)
      obtain ⟨u1, r1, -⟩ := (hSh.out.cells hs hc).2 (i * 2 + 1) (by omega)
      have f0 : wr.frozen? ⟨gV, i * 2, none⟩ = false := one_free hc
      have f1 : wr.frozen? ⟨gV, i * 2 + 1, none⟩ = false := one_free hc
      have hSh2 := hide ((hSh.out.set (j := i * 2) (v := .string ⟨#[]⟩) hc cellOk_var).set (j := i * 2 + 1) (v := .int .i64 (-5)) (set_heap hc) cellOk_var)
      have hTy2 := hide ((hTy.out.setCell gV (i * 2) (.string ⟨#[]⟩)).setCell gV (i * 2 + 1) (.int .i64 (-5)))
      have hon2 := hide ((hon.setCell (p := ⟨gV, i * 2, none⟩) (.inl ⟨mV, hs⟩) (.string ⟨#[]⟩)).setCell (p := ⟨gV, i * 2 + 1, none⟩) (.inl ⟨mV, hs⟩) (.int .i64 (-5)))
      clear hs hm hc g hSh hTy
      go_wp2
      go_roundw
      case rel => exact ⟨i + 1, by go_num, hlt, hide (hSh2.out.kept fun _ _ => rfl), hide (hTy2.out.heap fun _ _ => rfl), (by first | exact hon2.out | exact hon2.out.drew)⟩
      case measure => simp [intOf]; omega
    · obtain rfl : i = nv := by omega
      rename World => Y0
      go_wp2
      go_loopw [21] (fun u wr => ∃ i : Nat, u = .int .i64 i ∧ i ≤ nx ∧ Hid (Sh S wr) ∧ Hid (Ty S W wr) ∧ Only (Dm S) W.heap.size W wr) (fun u _ => nx - (intOf u).toNat)
      case atStart => exact ⟨0, rfl, Nat.zero_le _, hSh, hTy, hon⟩
      case round =>
        clear hSh hTy hon
        obtain ⟨i, rfl, hi, hSh, hTy, hon⟩ := hrel
        by_cases hlt : i < nx
        · have hii : (i : Int) < (nx : Int) := by omega
          obtain ⟨_, _, _, he, -, g⟩ := hX.out.later hTy.out
          cases he
          obtain ⟨gB, mB, rfl, hsB, hmB, cB, hcB⟩ := g (by omega)
          obtain ⟨uB, rB, hok⟩ := (hSh.out.cells hsB hcB).2 (i * 3 + 1) (by omega)
          obtain ⟨uA, rA, -⟩ := (hSh.out.cells hsB hcB).2 (i * 3) (by omega)
          obtain ⟨uC, rC, -⟩ := (hSh.out.cells hsB hcB).2 (i * 3 + 2) (by omega)
          have hCo := hok.2.2.2 rfl (by omega)
          obtain ⟨Ac, nc, Cc, rfl, hnc8, -⟩ := id hCo
          rename World => Y
          have hgB : gB < Y.heap.size := (Array.getElem?_eq_some_iff.1 hcB).1
          have yB : ∀ w', Only (fun k => Dm S k ∧ k ≠ gB) Y.heap.size Y w' → w'.cell? ⟨gB, i * 3 + 1, none⟩ = some (.slice Ac nc Cc) := Only.fact rB hgB (fun h => h.2 rfl)
          have yA : Hid (∀ w', Only (fun k => Dm S k ∧ k ≠ gB) Y.heap.size Y w' → w'.cell? ⟨gB, i * 3, none⟩ = some uA) := hide (Only.fact rA hgB (fun h => h.2 rfl))
          have yC : Hid (∀ w', Only (fun k => Dm S k ∧ k ≠ gB) Y.heap.size Y w' → w'.cell? ⟨gB, i * 3 + 2, none⟩ = some uC) := hide (Only.fact rC hgB (fun h => h.2 rfl))
          have yF : ∀ (j : Nat), ∀ w', Only (fun k => Dm S k ∧ k ≠ gB) Y.heap.size Y w' → w'.frozen? ⟨gB, j, none⟩ = false := fun j => Only.free (one_free hcB) hgB (fun h => h.2 rfl)
          replace yF := hide yF
          have hselfY := Only.refl (fun k => Dm S k ∧ k ≠ gB) Y.heap.size Y
          have honY := hide hon
          have hTyY := hide (Ty.refl S Y)
          have hYs := hon.size
          replace hsB := hide hsB
          replace hcB := hide hcB
          replace hCo := hide hCo
          clear hok hmB g rB rA rC
          go_wp2
          go_loopw [31] (fun u wr => ∃ k : Nat, u = .int .i64 k ∧ k ≤ nc ∧ Hid (Sh S wr) ∧ Hid (Ty S Y wr) ∧ Only (fun k => Dm S k ∧ k ≠ gB) Y.heap.size Y wr) (fun u _ => nc - (intOf u).toNat)
          case atStart => exact ⟨0, rfl, Nat.zero_le _, hSh, hTyY, hselfY⟩
          case round =>
            clear hSh hselfY hTyY hon
            obtain ⟨k, rfl, hk, hSh, hTyk, honB⟩ := hrel
            have hon : Only (Dm S) W.heap.size W wr := honY.out.trans ((honB.more fun _ _ h => h.1).mono hYs)
            by_cases hlt2 : k < nc
            · have hki : (k : Int) < (nc : Int) := by omega
              obtain ⟨_, _, _, he, -, g⟩ := hCo.out.later hTyk.out
              cases he
              obtain ⟨gA, mA, rfl, hsA, hmA, cA, hcA⟩ := g (by omega)
              obtain ⟨v0, r0, -⟩ := (hSh.out.cells hsA hcA).2 k (by omega)
              have f0 : wr.frozen? ⟨gA, k, none⟩ = false := one_free hcA
              obtain ⟨cB1, hcB1, -⟩ := hTyk.out gB mB hsB.out cB _ hcB.out
              have hQ : Dm S gA ∧ gA ≠ gB := ⟨⟨mA, hsA⟩, type_ne hcA hcB1 (by decide)⟩
              have hSh2 := hide (hSh.out.set (j := k) (v := .int .i64 (-5)) hcA cellOk_int)
              have hTy2 := hide (hTyk.out.setCell gA k (.int .i64 (-5)))
              have hon2 := hide (honB.setCell (p := ⟨gA, k, none⟩) (.inl hQ) (.int .i64 (-5)))
              clear hsA hmA hcA g hSh hTyk hcB1 hQ
              go_wp2
              go_roundw
              case rel => exact ⟨k + 1, by go_num, hlt2, hide (hSh2.out.kept fun _ _ => rfl), hide (hTy2.out.heap fun _ _ => rfl), (by first | exact hon2.out | exact hon2.out.drew)⟩
              case measure => simp [intOf]; omega
            · obtain rfl : k = nc := by omega
              have r0 := yA.out wr honB
              have r1 := yB wr honB
              have r2 := yC.out wr honB
              have f0 := yF.out (i * 3) wr honB
              have f1 := yF.out (i * 3 + 1) wr honB
              have f2 := yF.out (i * 3 + 2) wr honB
              obtain ⟨cB1, hcB1, -⟩ := hTyk.out gB mB hsB.out cB _ hcB.out
              have hSh2 := hide (((hSh.out.set (j := i * 3) (v := .string ⟨#[]⟩) hcB1 (cellOk_extern fun e => by omega)).set (j := i * 3 + 1) (v := .slice none 0 0) (set_heap hcB1) (cellOk_extern fun e => .none_)).set (j := i * 3 + 2) (v := .int .i64 (-5)) (set_heap (set_heap hcB1)) (cellOk_extern fun e => by omega))
              have hTy2 := hide ((((hTy.out.trans hTyk.out).setCell gB (i * 3) (.string ⟨#[]⟩)).setCell gB (i * 3 + 1) (.slice none 0 0)).setCell gB (i * 3 + 2) (.int .i64 (-5)))
              have hon2 := hide (((hon.setCell (p := ⟨gB, i * 3, none⟩) (.inl ⟨mB, hsB.out⟩) (.string ⟨#[]⟩)).setCell (p := ⟨gB, i * 3 + 1, none⟩) (.inl ⟨mB, hsB.out⟩) (.slice none 0 0)).setCell (p := ⟨gB, i * 3 + 2, none⟩) (.inl ⟨mB, hsB.out⟩) (.int .i64 (-5)))
              clear hcB1 hSh hTyk yB
              go_wp2
              go_roundw
              case rel => exact ⟨i + 1, by go_num, hlt, hide (hSh2.out.kept fun _ _ => rfl), hide (hTy2.out.heap fun _ _ => rfl), (by first | exact hon2.out | exact hon2.out.drew)⟩
              case measure => simp [intOf]; omega
        · obtain rfl : i = nx := by omega
          rename World => Y2
          go_wp2
          go_loopw [52] (fun u wr => ∃ i : Nat, u = .int .i64 i ∧ i ≤ nf ∧ Hid (Sh S wr) ∧ Hid (Ty S W wr) ∧ Only (Dm S) W.heap.size W wr) (fun u _ => nf - (intOf u).toNat)
          case atStart => exact ⟨0, rfl, Nat.zero_le _, hSh, hTy, hon⟩
          case round =>
            clear hSh hTy hon
            obtain ⟨i, rfl, hi, hSh, hTy, hon⟩ := hrel
            by_cases hlt : i < nf
            · have hii : (i : Int) < (nf : Int) := by omega
              obtain ⟨_, _, _, he, -, g⟩ := hF.out.later hTy.out
              cases he
              obtain ⟨gB, mB, rfl, hsB, hmB, cB, hcB⟩ := g (by omega)
              obtain ⟨q0, r0, o0⟩ := (hSh.out.cells hsB hcB).2 (i * 4) (by omega)
              obtain ⟨q1, r1, o1⟩ := (hSh.out.cells hsB hcB).2 (i * 4 + 1) (by omega)
              obtain ⟨q2, r2, o2⟩ := (hSh.out.cells hsB hcB).2 (i * 4 + 2) (by omega)
              obtain ⟨q3, r3, o3⟩ := (hSh.out.cells hsB hcB).2 (i * 4 + 3) (by omega)
              obtain ⟨nm, rfl⟩ := (o0.2.2.1 rfl).2.2.1 (by omega)
              obtain ⟨rt, rfl⟩ := (o2.2.2.1 rfl).2.2.2 (by omega)
              have oP := (o1.2.2.1 rfl).1 (by omega)
              have oB := (o3.2.2.1 rfl).2.1 (by omega)
              obtain ⟨Ap, np, Cp, rfl, -⟩ := id oP
              obtain ⟨Ab, nb, Cb, rfl, -⟩ := id oB
              have cS := hide (spoil_any nm rt Ap np Cp Ab nb Cb S wr hSh.out oP oB)
              replace hsB := hide hsB
              replace hcB := hide hcB
              replace hmB := hide hmB
              clear o0 o1 o2 o3 oP oB g hSh
              go_wp2_with (fail)
              refine cS.out.mono ?_
              rintro e w5 ⟨rfl, ho5, hSh5, hTy5⟩
              have hon5 : Only (Dm S) W.heap.size W w5 := hon.trans (ho5.mono hon.size)
              clear r0 r1 r2 r3 cS hon
              obtain ⟨c5, hc5, -⟩ := hTy5 gB mB hsB.out cB _ hcB.out
              obtain ⟨-, hce⟩ := hSh5.cells hsB.out hc5
              obtain ⟨s0, t0, -⟩ := hce (i * 4) (by have := hmB.out; omega)
              obtain ⟨s1, t1, -⟩ := hce (i * 4 + 1) (by have := hmB.out; omega)
              obtain ⟨s2, t2, -⟩ := hce (i * 4 + 2) (by have := hmB.out; omega)
              obtain ⟨s3, t3, -⟩ := hce (i * 4 + 3) (by have := hmB.out; omega)
              have f0 : w5.frozen? ⟨gB, i * 4, none⟩ = false := one_free hc5
              have f1 : w5.frozen? ⟨gB, i * 4 + 1, none⟩ = false := one_free hc5
              have f2 : w5.frozen? ⟨gB, i * 4 + 2, none⟩ = false := one_free hc5
              have f3 : w5.frozen? ⟨gB, i * 4 + 3, none⟩ = false := one_free hc5
              have hSh2 := hide ((((hSh5.set (j := i * 4) (v := .string ⟨#[]⟩) hc5 (cellOk_func (fun e => by omega) (fun e => by omega) (fun _ => ⟨_, rfl⟩) (fun e => by omega))).set (j := i * 4 + 1) (v := .slice none 0 0) (set_heap hc5) (cellOk_func (fun e => .none_) (fun e => by omega) (fun e => by omega) (fun e => by omega))).set (j := i * 4 + 2) (v := .int .i64 (-5)) (set_heap (set_heap hc5)) (cellOk_func (fun e => by omega) (fun e => by omega) (fun e => by omega) (fun _ => ⟨_, rfl⟩))).set (j := i * 4 + 3) (v := .slice none 0 0) (set_heap (set_heap (set_heap hc5))) (cellOk_func (fun e => by omega) (fun e => .none_) (fun e => by omega) (fun e => by omega)))
              have hTy2 := hide (((((hTy.out.trans hTy5).setCell gB (i * 4) (.string ⟨#[]⟩)).setCell gB (i * 4 + 1) (.slice none 0 0)).setCell gB (i * 4 + 2) (.int .i64 (-5))).setCell gB (i * 4 + 3) (.slice none 0 0))
              have hon2 := hide ((((hon5.setCell (p := ⟨gB, i * 4, none⟩) (.inl ⟨mB, hsB.out⟩) (.string ⟨#[]⟩)).setCell (p := ⟨gB, i * 4 + 1, none⟩) (.inl ⟨mB, hsB.out⟩) (.slice none 0 0)).setCell (p := ⟨gB, i * 4 + 2, none⟩) (.inl ⟨mB, hsB.out⟩) (.int .i64 (-5))).setCell (p := ⟨gB, i * 4 + 3, none⟩) (.inl ⟨mB, hsB.out⟩) (.slice none 0 0))
              clear hce hc5 hSh5 hTy5 hTy ho5
              go_wp2
              go_roundw
              case rel => exact ⟨i + 1, by go_num, hlt, hide (hSh2.out.kept fun _ _ => rfl), hide (hTy2.out.heap fun _ _ => rfl), (by first | exact hon2.out | exact hon2.out.drew)⟩
              case measure => simp [intOf]; omega
            · obtain rfl : i = nf := by omega
              go_wp2
              go_end0
              exact ⟨rfl, (Only.of_below hwWh.out).trans (hon.mono hwWh.out.size), hSh.out, hTw.out.trans hTy.out⟩
end Go.Proofs.Ytaljdbmmjgmbbaa
