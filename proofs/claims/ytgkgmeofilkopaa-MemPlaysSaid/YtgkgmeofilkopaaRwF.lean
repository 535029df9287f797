/- Layer 9's reference: Load, walked. No condition. -/
import Derived.Test.YtgkgmeofilkopaaRwE
import Derived.Test.YtgkgmeofilkopaaMmU
import Derived.Deep.RegionHeld3
namespace Go.Proofs.Ytgkgmeofilkopaa
open Go.RowKit
set_option linter.unusedSimpArgs false
set_option linter.unusedVariables false

theorem wrap_small {o n : Nat} (h : o + n ≤ 5000) : wrap64 ((o : Int) + (n : Int)) = (o : Int) + (n : Int) := by unfold wrap64; omega
theorem facts_small {o n c' : Nat} (h1 : o + n ≤ c') (h2 : o + n ≤ 5000) : IntKind.i64.wrap ((o : Int) + (n : Int)) = (o : Int) + (n : Int) ∧ (0 : Int) ≤ (o : Int) + (n : Int) ∧ (o : Int) + (n : Int) ≤ (c' : Int) ∧ ((o : Int) + (n : Int)).toNat = o + n := ⟨by have h := wrap_small h2; first | exact h | (simp [go_sem] at h ⊢; omega) | (simp [IntKind.wrap, IntKind.bits, IntKind.signed]; omega), by omega, by omega, by omega⟩
theorem slice_small {q o n m c' : Nat} (w' : World) (h1 : o + n ≤ c') (h2 : o + n ≤ 5000) (h3 : 0 < n) : (Instr.slice 48 (.slice (some ⟨q, 0, none⟩) m c') (some (.int .i64 (o : Int))) (some (.int .i64 (wrap64 ((o : Int) + (n : Int))))) none).run Try.prog w' = .ok (.slice (some ⟨q, o * 5, none⟩) n (c' - o)) w' := by
  rw [wrap_small h2]
  have hne : ¬ c' = o := by omega
  have h0I : (0 : Int) ≤ (o : Int) + (n : Int) := by omega
  have hcoI : (o : Int) + (n : Int) ≤ (c' : Int) := by omega
  have htn : ((o : Int) + (n : Int)).toNat = o + n := by omega
  go_simp
/-- an owned row as a slice of bytes -/
theorem BlkR.part {w : World} {B E q c o n d : Nat} {l : List Byt} (h : BlkR w B E (.slice (some ⟨q, 0, none⟩) l.length c) l) (hn : o + n ≤ l.length) (hd : n ≤ d) (hm : d ≤ maxLen) :
    (Rp.slice 5 RByu).rep w w.heap.size [.slice (some ⟨q, o * 5, none⟩) n d] ((l.drop o).take n) := by
  have hlen : ((l.drop o).take n).length = n := by rw [List.length_take, List.length_drop]; omega
  refine ⟨_, d, by rw [hlen], by omega, hm, fun _ => ⟨q, o * 5, rfl, (own_lt h.own (k := q) rfl).2, fun i b hb => ?_⟩⟩
  have hi : i < n := by have := (List.getElem?_eq_some_iff.1 hb).1; omega
  rw [List.getElem?_take_of_lt hi, List.getElem?_drop] at hb
  refine ⟨bc b, rfl, ⟨rfl, h.ok b (List.mem_of_getElem? hb)⟩, fun j u hu => ?_⟩
  have hj : j < 5 := (List.getElem?_eq_some_iff.1 hu).1
  have hoi := (List.getElem?_eq_some_iff.1 hb).1
  rw [World.ownsRow.cellAt h.own (o * 5 + (i * 5 + j)) (by omega), show o * 5 + (i * 5 + j) = (o + i) * 5 + j by omega, rowC_get, show ((o + i) * 5 + j) / 5 = o + i by omega, show ((o + i) * 5 + j) % 5 = j by omega, hb]
  exact hu
theorem BlkR.room {w : World} {B E q c : Nat} {l : List Byt} (h : BlkR w B E (.slice (some ⟨q, 0, none⟩) l.length c) l) : l.length ≤ c ∧ c ≤ maxLen := by
  rcases h.own.2 with ⟨e, h0⟩ | ⟨g, c', cur, e, _, _, h1, h2, _⟩
  · cases e
  · cases e; exact ⟨h1, h2⟩
theorem BlkR.some_ {w : World} {B E n c : Nat} {A : Option Addr} {l : List Byt} (h : BlkR w B E (.slice A n c) l) (hl : 0 < l.length) : ∃ q, A = some ⟨q, 0, none⟩ ∧ B ≤ q ∧ q < w.heap.size := by
  rcases h.own.2 with ⟨e, h0⟩ | ⟨g, c', cur, e, hb, hg, _⟩
  · omega
  · cases e; exact ⟨g, rfl, hb, (Array.getElem?_eq_some_iff.1 hg).1⟩
set_option maxRecDepth 100000 in
set_option maxHeartbeats 6400000 in
theorem rload_any (B E : Nat) (v : Value) (bs : MemS) (t : Int) (a : Val) (w : World) (h : RefM w B E v bs) :
    Calls Try.prog 94 #[v, .int .i64 t, vv a] w fun e w' => e = .returned (.tuple #[vv (loadS bs t a).1, .bool (loadS bs t a).2]) ∧ Below w.heap.size w w' := by
  obtain ⟨W, hW, hwW, hWs, q1, -⟩ := boxes2 w #[.int .i64 a.kind, .int .u64 a.bits, .int .i64 a.block, .int .i64 a.off] #[.int .i64 0, .int .u64 0, .int .i64 0, .int .i64 0] 47 47
  have hR : W.heap[w.heap.size + 1]? = some (.cells #[.int .i64 0, .int .u64 0, .int .i64 0, .int .i64 0] 47 (0, 0)) := by
    rw [← hW]
    have := box_top (w.alloc (.cells #[.int .i64 a.kind, .int .u64 a.bits, .int .i64 a.block, .int .i64 a.off] 47)) (.cells #[.int .i64 0, .int .u64 0, .int .i64 0, .int .i64 0] 47)
    simpa using this
  have y0 := q1 0 _ rfl
  have y1 := q1 1 _ rfl
  have y2 := q1 2 _ rfl
  have y3 := q1 3 _ rfl
  clear q1
  have hM := h.later hwW
  have hI := hide (inside_any B E v bs t a W hM)
  have hself := Below.refl W.heap.size W
  have hz : w.heap.size + 1 < W.heap.size := by omega
  replace hWs := hide hWs
  replace hR := hide hR
  replace hwW := hide hwW
  replace hW := hide hW
  cases hsp : spanS bs t a with
  | none =>
    rw [hsp] at hI
    have e0 : Hid (loadS bs t a = (noV, false)) := hide (by unfold loadS; rw [hsp])
    clear h hM hsp
    go_enter Try.func94, Try.ntmps94
    go_upto_region 1 with (fail)
    rw [hW.out]
    clear hW
    go_wp2_with fail
    refine hI.out.mono ?_
    rintro e w1 ⟨rfl, hb1⟩
    have hRx := hide ((hb1.block (w.heap.size + 1) hz).trans hR.out)
    obtain ⟨r0, r1, r2, r3⟩ := four_cells hRx.out
    have s0 := one_free (j := 0) hRx.out
    have s1 := one_free (j := 1) hRx.out
    have s2 := one_free (j := 2) hRx.out
    have s3 := one_free (j := 3) hRx.out
    replace hb1 := hide hb1
    go_wp2
    refine bodyPost_ret (v := .tuple #[vv ⟨0, 0, 0, 0⟩, .bool false]) (by simp [results, Try.results94, go_sem, r0, r1, r2, r3, s0, s1, s2, s3]) rfl ⟨by rw [e0.out], ?_⟩
    exact below_four (hwW.out.trans (hb1.out.mono (by omega))) (Nat.le_succ _)
  | some lo =>
    obtain ⟨l, o⟩ := lo
    obtain ⟨k, s1, s2, s3, s4, s5, s6⟩ := span_some hsp
    rw [hsp] at hI
    obtain ⟨n, hn⟩ : ∃ n : Nat, Hid (n = (countS t).toNat) := ⟨_, hide rfl⟩
    have hc0 := countS_le t
    have hn8 : 0 < n ∧ n ≤ 8 := by have := hn.out; omega
    rw [← hn.out] at s6
    have e0 : Hid (loadS bs t a = (unpackS t ((l.drop o).take n), true)) := hide (by unfold loadS; rw [hsp, hn.out])
    have cC : Hid (∀ W, Calls Try.prog 71 #[.int .i64 t] W fun e w' => e = .returned (.int .i64 (n : Int)) ∧ W = w') := hide (fun W => by
      have h1 := rcount_any t W
      rwa [show countS t = (n : Int) by have := hn.out; omega] at h1)
    have hk := (List.getElem?_eq_some_iff.1 s4).1
    obtain ⟨g, C', A', c', hv, -, hgE, -, e2, hx⟩ := hM.at_ s4
    have hgW : g < W.heap.size := Nat.lt_of_lt_of_le hgE hM.size
    rw [show (some l : Option (List Byt)).getD [] = l from rfl] at e2 hx
    obtain ⟨q, rfl, -, -⟩ := hx.some_ (by omega)
    obtain ⟨hr1, hr2⟩ := hx.room
    have hm8 := hx.len
    subst hv
    obtain ⟨m, hm⟩ : ∃ m, Hid (m = l.length) := ⟨_, hide rfl⟩
    rw [← hm.out] at e2 s6 hr1 hm8
    unfold maxLen at hr2
    obtain ⟨N1, hN1⟩ : ∃ N1, N1 = w.heap.size + 1 := ⟨_, rfl⟩
    have hEs := h.size
    have z0 : ∀ w', Below N1 W w' → w'.cell? ⟨w.heap.size, 0, none⟩ = some (.int .i64 a.kind) := fun w' hw => (hw.cell (p := ⟨w.heap.size, 0, none⟩) (by show w.heap.size < N1; omega)).trans (y0 W hself)
    have z1 : ∀ w', Below N1 W w' → w'.cell? ⟨w.heap.size, 1, none⟩ = some (.int .u64 a.bits) := fun w' hw => (hw.cell (p := ⟨w.heap.size, 1, none⟩) (by show w.heap.size < N1; omega)).trans (y1 W hself)
    have z2 : ∀ w', Below N1 W w' → w'.cell? ⟨w.heap.size, 2, none⟩ = some (.int .i64 a.block) := fun w' hw => (hw.cell (p := ⟨w.heap.size, 2, none⟩) (by show w.heap.size < N1; omega)).trans (y2 W hself)
    have z3 : ∀ w', Below N1 W w' → w'.cell? ⟨w.heap.size, 3, none⟩ = some (.int .i64 a.off) := fun w' hw => (hw.cell (p := ⟨w.heap.size, 3, none⟩) (by show w.heap.size < N1; omega)).trans (y3 W hself)
    clear y0 y1 y2 y3
    have d2 : ∀ w', Below N1 W w' → w'.cell? ⟨g, k * 2 + 1, none⟩ = some (.slice (some ⟨q, 0, none⟩) m c') := fun w' hw => (hw.cell (p := ⟨g, k * 2 + 1, none⟩) (by show g < N1; omega)).trans e2
    have hselfN : Below N1 W W := Below.refl _ _
    have cU : Hid (∀ W' n' d', n' = n → d' = c' - o → Below N1 W W' → Calls Try.prog 35 #[.int .i64 t, .slice (some ⟨q, o * 5, none⟩) n' d'] W' fun e w' => e = .returned (vv (unpackS t ((l.drop o).take n))) ∧ Below W'.heap.size W' w') := hide (fun W' n' d' hn' hd' h' => by
      rw [hn', hd']
      have hx' : BlkR W' B E (.slice (some ⟨q, 0, none⟩) l.length c') l := hx.kept (fun k _ hk => h'.block k (by omega)) (Nat.le_refl _)
      have := hx'.part (o := o) (n := n) (d := c' - o) (by rw [← hm.out]; exact s6) (by omega) (by unfold maxLen; omega)
      exact runpack_any t _ _ W' this)
    obtain ⟨u, hu⟩ : ∃ u, Hid (u = unpackS t ((l.drop o).take n)) := ⟨_, hide rfl⟩
    rw [← hu.out] at cU e0
    obtain ⟨N, hN⟩ : ∃ N, Hid (N = bs.length) := ⟨_, hide rfl⟩
    rw [← hN.out] at hk hI ⊢
    obtain ⟨kd, bt, bl, off⟩ := a
    simp only at s1 s3 s5 z0 z1 z2 z3
    subst s1 s3 s5
    replace s4 := hide s4
    have hco : o + n ≤ c' := by omega
    have hne : ¬ c' = o := by omega
    have hon : o + n ≤ 5000 := by omega
    obtain ⟨hw, h0I, hcoI, htn⟩ := facts_small hco hon
    have hNz : N1 < W.heap.size := by omega
    have hNw : w.heap.size ≤ N1 := by omega
    replace hN1 := hide hN1
    clear h hM hsp hx e2 s2
    go_enter Try.func94, Try.ntmps94
    go_upto_region 1 with (fail)
    rw [hW.out]
    clear hW
    go_wp2_with fail
    refine hI.out.mono ?_
    rintro e w1 ⟨rfl, hb1⟩
    have hz1 := Nat.lt_of_lt_of_le hz hb1.size
    have hRx := hide ((hb1.block (w.heap.size + 1) hz).trans hR.out)
    have hk1 : Below N1 W w1 := hb1.mono (by omega)
    rw [← hN1.out] at hRx hz1 ⊢
    have hN9 : N1 ≤ N1 := Nat.le_refl _
    have hN8 : N1 ≤ w1.heap.size := by omega
    clear hself hselfN hb1
    go_upto_region 5 with (fail)
    go_region_held3 (fun w' => Below N1 W w') (first | (with_reducible assumption) | exact hk1.drew | ((repeat' with_reducible (first | assumption | exact Nat.le_refl _ | refine Below.drew ?_ | refine Below.setCell ?_ ?_ _ | refine Below.alloc ?_ ?_ _)) <;> (first | omega | simp)))
      (first
        | (go_at_call 71; refine (cC.out _).mono ?_; rintro e w' ⟨rfl, rfl⟩)
        | (go_at_call 35
           refine (cU.out _ _ _ (by omega) (by omega) (by first | (with_reducible assumption) | exact hk1.drew)).mono ?_
           rintro e w5 ⟨rfl, hb5⟩
           have hR5 := hide ((hb5.block N1 hz1).trans hRx.out)
           obtain ⟨r0, r1, r2, r3⟩ := four_cells hR5.out
           have f0 := one_free (j := 0) hR5.out
           have f1 := one_free (j := 1) hR5.out
           have f2 := one_free (j := 2) hR5.out
           have f3 := one_free (j := 3) hR5.out
           have hk5 : Below N1 W w5 := hk1.drew.trans (hb5.mono hN8)
           clear hb5))
    have hS := set_four (a' := .int .i64 u.kind) (b' := .int .u64 u.bits) (c' := .int .i64 u.block) (d' := .int .i64 u.off) hR5.out
    have hb9 := hide (below_four (q := N1) (v0 := .int .i64 u.kind) (v1 := .int .u64 u.bits) (v2 := .int .i64 u.block) (v3 := .int .i64 u.off) hk5 hN9)
    obtain ⟨w9, hw9⟩ : ∃ w9, w9 = (((w5.setCell ⟨N1, 0, none⟩ (.int .i64 u.kind)).setCell ⟨N1, 1, none⟩ (.int .u64 u.bits)).setCell ⟨N1, 2, none⟩ (.int .i64 u.block)).setCell ⟨N1, 3, none⟩ (.int .i64 u.off) := ⟨_, rfl⟩
    rw [← hw9] at hS hb9 ⊢
    clear hw9 r0 r1 r2 r3 f0 f1 f2 f3 hk5
    obtain ⟨r0, r1, r2, r3⟩ := four_cells hS
    replace hS := hide hS
    go_wp2
    refine bodyPost_ret (v := .tuple #[vv u, .bool true]) (by simp [results, Try.results94, go_sem, r0, r1, r2, r3]) rfl ⟨by rw [e0.out], ?_⟩
    exact hwW.out.trans (hb9.out.mono hNw)
end Go.Proofs.Ytgkgmeofilkopaa
