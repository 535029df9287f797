/- ir.Replace. No condition but sizes. -/
import Derived.Test.YtaljdbmmjgmbbaaIcE
namespace Go.Proofs.Ytaljdbmmjgmbbaa
open Go.RowKit
set_option linter.unusedSimpArgs false
set_option linter.unusedVariables false

def TreePost (f : Fun) (bs : List (List Ins)) (w : World) (e : Ending) (w' : World) : Prop := ∃ c d L, e = .returned (f.v c d) ∧ OwnI w' w.heap.size c f.params ∧ (∀ k, c.ownBlock = some k → k < L) ∧ OwnK2 w' L d bs ∧ w.heap.size ≤ L ∧ Below w.heap.size w w'
set_option maxRecDepth 100000 in
set_option maxHeartbeats 6400000 in
theorem replace_any (f : Fun) (reg : Int) (v : Opd) (hv64 : I64 v.kind ∧ I64 v.num) (c1 c2 : Value) (w : World) (B : Nat) (hB : B ≤ w.heap.size) (hf : RFun.rep w B [.string f.name, c1, .int .i64 f.ret, c2] f) (hs : Small f) :
    Calls Try.prog 24 #[f.v c1 c2, .int .i64 reg, .agg #[.int .i64 v.kind, .int .i64 v.num, .int .u64 v.bits]] w (TreePost f (subAll (rsub reg v) f.blocks) w) := by
  obtain ⟨hp, hb⟩ := fun_open (RFun.later hf (Below.refl _ _) hB)
  obtain ⟨A1, k1, h1, -, -⟩ := Rp.slice1_open hp
  obtain ⟨A2, k2, h2, hm2, -⟩ := Rp.slice1_open hb
  cases h1; cases h2
  clear hp hb
  obtain ⟨n, hn⟩ : ∃ n, Hid (n = f.blocks.length) := ⟨_, hide rfl⟩
  obtain ⟨np, hnp⟩ : ∃ n, Hid (n = f.params.length) := ⟨_, hide rfl⟩
  have hnle : n ≤ 2000000 := by rw [hn.out]; exact hs.blocks
  rw [← hn.out, ← hnp.out] at hf
  rw [← hn.out] at hm2
  rw [← hn.out, ← hnp.out]
  obtain ⟨W3, hW3, hwW3, hW3s, hx1, hx2, hx3⟩ := boxes3 w #[.string f.name, .slice A1 np k1, .int .i64 f.ret, .slice A2 n k2] #[.int .i64 reg] #[.int .i64 v.kind, .int .i64 v.num, .int .u64 v.bits] 25 3 28
  obtain ⟨W, hW⟩ : ∃ W, W3.alloc (.cells #[.string ⟨#[]⟩, .slice none 0 0, .int .i64 0, .slice none 0 0] 25) = W := ⟨_, rfl⟩
  have hR0 : W.heap[W3.heap.size]? = some (.cells #[.string ⟨#[]⟩, .slice none 0 0, .int .i64 0, .slice none 0 0] 25 (0, 0)) := by rw [← hW]; exact box_top _ _
  have hb3 : Below W3.heap.size W3 W := by rw [← hW]; exact (Below.refl _ _).alloc (Nat.le_refl _) _
  have hWs : W.heap.size = w.heap.size + 4 := by rw [← hW]; simp; omega
  have hF0 : W.heap[w.heap.size]? = some (.cells #[.string f.name, .slice A1 np k1, .int .i64 f.ret, .slice A2 n k2] 25 (0, 0)) := by
    rw [hb3.block _ (by omega), ← hW3]
    exact one_alloc (one_alloc (box_top _ _) _) _
  obtain ⟨N4, hN4⟩ : ∃ N4, N4 = W3.heap.size := ⟨_, rfl⟩
  rw [← hN4] at hR0
  have h4a : w.heap.size < N4 := by omega
  have h4b : N4 < W.heap.size := by omega
  have hwW : Below w.heap.size w W := hwW3.trans (hb3.mono (by omega))
  have hreg : W.cell? ⟨w.heap.size + 1, 0, none⟩ = some (.int .i64 reg) := hx2 0 _ rfl W hb3
  have hv0 : W.cell? ⟨w.heap.size + 1 + 1, 0, none⟩ = some (.int .i64 v.kind) := hx3 0 _ rfl W hb3
  have hv1 : W.cell? ⟨w.heap.size + 1 + 1, 1, none⟩ = some (.int .i64 v.num) := hx3 1 _ rfl W hb3
  have hv2 : W.cell? ⟨w.heap.size + 1 + 1, 2, none⟩ = some (.int .u64 v.bits) := hx3 2 _ rfl W hb3
  have cC := hide (icopytree_any f (.slice A1 np k1) (.slice A2 n k2) W B (by omega) (RFun.later hf (hwW.mono hB) (Nat.le_refl _)) hs)
  obtain ⟨q0, q1, q2, q3⟩ := box4 hF0
  replace hN4 := hide hN4
  replace hF0 := hide hF0
  replace hR0 := hide hR0
  replace hreg := hide hreg
  replace hv0 := hide hv0
  replace hv1 := hide hv1
  replace hv2 := hide hv2
  replace hs := hide hs
  replace hf := hide hf
  replace hwW := hide hwW
  replace hWs := hide hWs
  replace hW3s := hide hW3s
  clear hx1 hx2 hx3 hwW3 hb3
  go_enter Try.func24, Try.ntmps24
  go_wp2_with (fail)
  rw [← hN4.out]
  refine cC.out.mono ?_
  rintro e V ⟨c, d, L, rfl, hOI, hPL, hOK, hL0, hbV⟩
  obtain ⟨Am, Cm, hcm⟩ := row_form hOI.row
  subst hcm
  obtain ⟨Ad, Cd, hdm⟩ := hOK.form
  subst hdm
  rw [← hnp.out] at hOI hPL ⊢
  rw [← hn.out] at hOK ⊢
  obtain ⟨xs, ess, hK⟩ := hOK
  have hWso := hWs.out
  have hF1 := (hbV.block w.heap.size (by omega)).trans hF0.out
  obtain ⟨s0, s1, s2, s3⟩ := box4 hF1
  have g0 := one_free (j := 0) hF1
  have g1 := one_free (j := 1) hF1
  have g2 := one_free (j := 2) hF1
  have g3 := one_free (j := 3) hF1
  have hF2 := hide (set_heap (j := 3) (v := .slice Ad n Cd) (set_heap (j := 2) (v := .int .i64 f.ret) (set_heap (j := 1) (v := .slice Am np Cm) (set_heap (j := 0) (v := .string f.name) hF1))))
  have hbVh := hide hbV
  replace hF1 := hide hF1
  replace hWso := hide hWso
  have hOIh := hide hOI
  have hPLh := hide hPL
  have hKh := hide hK
  have hL0h := hide hL0
  clear hOI hPL hK hbV hL0
  go_upto_region 2 with (fail)
  obtain ⟨X, hX⟩ : ∃ X, X = (((V.setCell ⟨w.heap.size, 0, none⟩ (.string f.name)).setCell ⟨w.heap.size, 1, none⟩ (.slice Am np Cm)).setCell ⟨w.heap.size, 2, none⟩ (.int .i64 f.ret)).setCell ⟨w.heap.size, 3, none⟩ (.slice Ad n Cd) := ⟨_, rfl⟩
  rw [← hX]
  have hXfar : ∀ k, k ≠ w.heap.size → X.heap[k]? = V.heap[k]? := fun k hk => by rw [hX, Below.heap_setCell _ _ _ _ hk, Below.heap_setCell _ _ _ _ hk, Below.heap_setCell _ _ _ _ hk, Below.heap_setCell _ _ _ _ hk]
  have hXs : X.heap.size = V.heap.size := by rw [hX]; simp [World.setCell]
  have hwXb : Below w.heap.size w X := by
    rw [hX]
    have h0 := hwW.out.trans (hbVh.out.mono (by have := hWso.out; omega))
    exact (((h0.setCell (p := ⟨w.heap.size, 0, none⟩) (Nat.le_refl _) _).setCell (p := ⟨w.heap.size, 1, none⟩) (Nat.le_refl _) _).setCell (p := ⟨w.heap.size, 2, none⟩) (Nat.le_refl _) _).setCell (p := ⟨w.heap.size, 3, none⟩) (Nat.le_refl _) _
  have hF3 : X.heap[w.heap.size]? = some (.cells #[.string f.name, .slice Am np Cm, .int .i64 f.ret, .slice Ad n Cd] 25 (0, 0)) := by rw [hX]; simpa using hF2.out
  clear hX s0 s1 s2 s3 g0 g1 g2 g3 hF2 q0 q1 q2 q3
  have hWso' := hWso.out
  have hLo := hL0h.out
  have hsV := hbVh.out.size
  have hKX := hKh.out.kept (w' := X) fun k h1 _ => hXfar k (by omega)
  have hOIX := hide (hOIh.out.kept (w' := X) fun k h1 _ => hXfar k (by omega))
  have hold : ∀ (N j : Nat) (u : Value), N ≠ w.heap.size → N < W.heap.size → W.cell? ⟨N, j, none⟩ = some u → X.cell? ⟨N, j, none⟩ = some u := fun N j u h1 h2 h3 => by
    rw [World.cell?_of_block (a := ⟨N, j, none⟩) (hXfar N h1), hbVh.out.cell (p := ⟨N, j, none⟩) h2]; exact h3
  have hcall := hide (each_repl f.name f.ret Am np Cm reg v hv64 L (w.heap.size + 1) (w.heap.size + 1 + 1) Ad n Cd f.blocks xs ess X hn.out hKX hnle hs.out.code (by omega) (by omega) (by omega) (by omega) (hold _ _ _ (by omega) (by omega) hreg.out) (hold _ _ _ (by omega) (by omega) hv0.out) (hold _ _ _ (by omega) (by omega) hv1.out) (hold _ _ _ (by omega) (by omega) hv2.out))
  have hSL := hide (fun q (h : ArgB ess q) => (show L ≤ q from (by obtain ⟨e, he, hq⟩ := h; exact ((hKX.own_at he q).1 hq).1)))
  have hR3 : X.heap[N4]? = some (.cells #[.string ⟨#[]⟩, .slice none 0 0, .int .i64 0, .slice none 0 0] 25 (0, 0)) := (hXfar N4 (by omega)).trans ((hbVh.out.block N4 (by omega)).trans hR0.out)
  obtain ⟨s0, s1, s2, s3⟩ := box4 hF3
  have hX9 : W.heap.size ≤ X.heap.size := by omega
  have hF3h := hide hF3
  have hR3h := hide hR3
  have hwXh := hide hwXb
  have hXsh := hide hXs
  clear hKX hXfar hold hF3 hR3 hwXb hXs
  go_wp2_with (fail)
  refine hcall.out.mono ?_
  rintro e Z ⟨rfl, hKZ, honZ⟩
  have hNo : ∀ N, N < L → ¬ ArgB ess N := fun N h1 h2 => by have := hSL.out N h2; omega
  have hF4 := (honZ.block w.heap.size (by omega) (hNo _ (by omega))).trans hF3h.out
  have hR4 := (honZ.block N4 (by omega) (hNo _ (by omega))).trans hR3h.out
  have hOIZ := hide (show OwnI Z W.heap.size (.slice Am np Cm) f.params from ⟨row_kept hOIX.out.row fun k hk => honZ.block k (row_lt hOIX.out.row hk).2.1 (hNo k (hPLh.out k hk)), hOIX.out.ok⟩)
  have hwZ := hide (hwXh.out.trans (honZ.to_below (B' := w.heap.size) (fun k hk => by have := hSL.out k hk; omega) hwXh.out.size))
  clear s0 s1 s2 s3
  obtain ⟨s0, s1, s2, s3⟩ := box4 hF4
  obtain ⟨p0, p1, p2, p3⟩ := box4 hR4
  have g0 := one_free (j := 0) hR4
  have g1 := one_free (j := 1) hR4
  have g2 := one_free (j := 2) hR4
  have g3 := one_free (j := 3) hR4
  replace hKZ := hide hKZ
  replace hF4 := hide hF4
  replace hR4 := hide hR4
  clear hcall honZ hNo
  go_wp2
  have hkeep : ∀ (v0 v1 v2 v3 : Value) (k : Nat), W.heap.size ≤ k → ((((Z.setCell ⟨N4, 0, none⟩ v0).setCell ⟨N4, 1, none⟩ v1).setCell ⟨N4, 2, none⟩ v2).setCell ⟨N4, 3, none⟩ v3).heap[k]? = Z.heap[k]? := fun v0 v1 v2 v3 k hk => by
    have hne : k ≠ N4 := by omega
    rw [Below.heap_setCell _ _ _ _ hne, Below.heap_setCell _ _ _ _ hne, Below.heap_setCell _ _ _ _ hne, Below.heap_setCell _ _ _ _ hne]
  refine bodyPost_ret (v := f.v (.slice Am np Cm) (.slice Ad n Cd)) (by simp [results, Try.results24, go_sem, p0, p1, p2, p3, g0, g1, g2, g3]) rfl ⟨_, _, L, rfl, (hOIZ.out.kept fun k h1 _ => hkeep _ _ _ _ k h1).mono (by omega), fun k hk => hPLh.out k hk, ⟨xs, ess, hKZ.out.kept fun k h1 _ => hkeep _ _ _ _ k (by omega)⟩, by omega, ?_⟩
  exact (((hwZ.out.setCell (p := ⟨N4, 0, none⟩) (by show w.heap.size ≤ N4; omega) _).setCell (p := ⟨N4, 1, none⟩) (by show w.heap.size ≤ N4; omega) _).setCell (p := ⟨N4, 2, none⟩) (by show w.heap.size ≤ N4; omega) _).setCell (p := ⟨N4, 3, none⟩) (by show w.heap.size ≤ N4; omega) _
end Go.Proofs.Ytaljdbmmjgmbbaa
