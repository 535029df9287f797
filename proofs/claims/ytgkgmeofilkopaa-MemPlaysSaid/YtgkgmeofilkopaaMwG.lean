/- Layer 9: mem.Unpack, walked. No condition but bytes within their kind. -/
import Derived.Test.YtgkgmeofilkopaaMwB
import Derived.Test.YtgkgmeofilkopaaMmC
namespace Go.Proofs.Ytgkgmeofilkopaa
open Go.RowKit
set_option linter.unusedSimpArgs false
set_option linter.unusedVariables false

theorem slice5_parts {l : List Byt} {W : World} {A : Option Addr} {cap : Nat} (h : (Rp.slice 5 RByu).rep W W.heap.size [.slice A l.length cap] l) :
    OkB l ∧ l.length ≤ 9223372036854775807 ∧ (0 < l.length → ∃ q o, A = some ⟨q, o, none⟩ ∧ q < W.heap.size ∧ ∀ k b, l[k]? = some b → Cells W W.heap.size q (o + k * 5) (bc b)) := by
  obtain ⟨A', c', e, h2, h3, h4⟩ := h
  simp only [List.cons.injEq, and_true, Value.slice.injEq, true_and] at e
  obtain ⟨rfl, rfl⟩ := e
  unfold maxLen at h3
  have ok : ∀ (k : Nat) b, l[k]? = some b → 0 ≤ b.bits ∧ b.bits ≤ 255 := fun k b hb => by
    have hk := (List.getElem?_eq_some_iff.1 hb).1
    obtain ⟨q, o, _, _, he⟩ := h4 (by omega)
    obtain ⟨es, _, hr, _⟩ := he k b hb
    exact hr.2
  refine ⟨fun b hb => ?_, by omega, fun hp => ?_⟩
  · obtain ⟨k, hk⟩ := List.mem_iff_getElem?.1 hb
    exact ok k b hk
  · obtain ⟨q, o, hA, hq, he⟩ := h4 hp
    refine ⟨q, o, hA, hq, fun k b hb j u hu w' hw => ?_⟩
    obtain ⟨es, _, hr, hc⟩ := he k b hb
    have e : es = bc b := hr.1
    subst e
    rw [Nat.add_assoc]
    exact (hw.cell (p := ⟨q, o + (k * 5 + j), none⟩) hq).trans (hc j u hu)
theorem unpack_len {t : Int} {l : List Byt} (h : l.length = 0 ∨ countS t ≠ l.length) : unpackS t l = noV := by
  unfold unpackS
  rw [if_pos]
  have := countS_le t
  omega
set_option maxHeartbeats 1600000 in
theorem unpack_short (t : Int) (l : List Byt) (A : Option Addr) (cap : Nat) (w : World) (h : l.length = 0 ∨ countS t ≠ l.length) (hl : l.length ≤ 9223372036854775807) :
    Calls Try.prog 34 #[.int .i64 t, .slice A l.length cap] w fun e w' => e = .returned (vv (unpackS t l)) ∧ Below w.heap.size w w' := by
  rw [unpack_len h]
  obtain ⟨n, hn⟩ : ∃ n : Nat, n = l.length := ⟨_, rfl⟩
  rw [← hn] at h hl ⊢
  obtain ⟨c, hc⟩ : ∃ c, c = countS t := ⟨_, rfl⟩
  have cC : Hid (∀ W, Calls Try.prog 70 #[.int .i64 t] W fun e w' => e = .returned (.int .i64 c) ∧ W = w') := hide (fun W => by rw [hc]; exact count_any t W)
  rw [← hc] at h
  clear hc hn
  by_cases h0 : n = 0
  · subst h0
    go_enter Try.func34, Try.ntmps34
    go_wp2
    refine bodyPost_ret (v := vv ⟨0, 0, 0, 0⟩) (by simp [results, Try.results34, go_sem]) rfl ⟨rfl, ?_⟩
    exact (Below.refl _ _).alloc (Nat.le_refl _) _
  · have h1 : ((n : Int) == 0) = false := beq_eq_false_iff_ne.2 (by omega)
    have h2 : ((n : Int) != c) = true := bne_iff_ne.2 (by omega)
    replace h := hide h
    replace h0 := hide h0
    go_enter Try.func34, Try.ntmps34
    go_wp2_with (go_at_call 70; refine (cC.out _).mono ?_; rintro e w' ⟨rfl, rfl⟩)
    refine bodyPost_ret (v := vv ⟨0, 0, 0, 0⟩) (by simp [results, Try.results34, go_sem]) rfl ⟨rfl, ?_⟩
    exact (Below.refl _ _).alloc (Nat.le_refl _) _
set_option maxRecDepth 100000 in
set_option maxHeartbeats 8000000 in
theorem unpack_full (t : Int) (l : List Byt) (A : Option Addr) (cap : Nat) (w : World) (hc : countS t = l.length) (h0 : l.length ≠ 0) (hr : (Rp.slice 5 RByu).rep w w.heap.size [.slice A l.length cap] l) :
    Calls Try.prog 34 #[.int .i64 t, .slice A l.length cap] w fun e w' => e = .returned (vv (unpackS t l)) ∧ Below w.heap.size w w' := by
  obtain ⟨hok, hl9, hcells⟩ := slice5_parts hr
  obtain ⟨q, o, rfl, hq, hcells⟩ := hcells (by omega)
  replace hcells := hide hcells
  replace hok := hide hok
  clear hr
  obtain ⟨n, hn⟩ : ∃ n : Nat, Hid (n = l.length) := ⟨_, hide rfl⟩
  rw [← hn.out] at hl9 ⊢
  have hn0 : Hid (n ≠ 0) := hide (by rw [hn.out]; exact h0)
  have hn8 : n ≤ 8 := by have := countS_le t; have := hn.out; omega
  have cC : Hid (∀ W, Calls Try.prog 70 #[.int .i64 t] W fun e w' => e = .returned (.int .i64 (n : Int)) ∧ W = w') := hide (fun W => by
    have h1 := count_any t W
    rwa [hc, ← hn.out] at h1)
  replace hc := hide hc
  replace h0 := hide h0
  have h1 : ((n : Int) == 0) = false := beq_eq_false_iff_ne.2 (by have := hn0.out; omega)
  have h2 : ((n : Int) != (n : Int)) = false := by simp
  go_enter Try.func34, Try.ntmps34
  go_wp2_with (go_at_call 70; refine (cC.out _).mono ?_; rintro e w' ⟨rfl, rfl⟩)
  obtain ⟨W, hW, hwW, hWs, -, -⟩ := boxes2 w #[.int .i64 0, .int .u64 0, .int .i64 0, .int .i64 0] #[.int .i64 0, .int .u64 0, .int .i64 0, .int .i64 0] 47 47
  have hR : W.heap[w.heap.size]? = some (.cells #[.int .i64 0, .int .u64 0, .int .i64 0, .int .i64 0] 47 (0, 0)) := by rw [← hW]; exact box_under _ _ _
  have hV : W.heap[w.heap.size + 1]? = some (.cells #[.int .i64 0, .int .u64 0, .int .i64 0, .int .i64 0] 47 (0, 0)) := by
    rw [← hW]
    have := box_top (w.alloc (.cells #[.int .i64 0, .int .u64 0, .int .i64 0, .int .i64 0] 47)) (.cells #[.int .i64 0, .int .u64 0, .int .i64 0, .int .i64 0] 47)
    simpa using this
  rw [hW]
  clear hW
  have hz : w.heap.size + 1 < W.heap.size := by omega
  replace hWs := hide hWs
  replace hV := hide hV
  replace hR := hide hR
  go_loopw [21] (fun s wr => ∃ (k : Nat) (v : Val), k ≤ n ∧ s = .int .i64 k ∧ Hid (Inv t l k v) ∧ Hid (wr.heap[w.heap.size + 1]? = some (.cells #[.int .i64 v.kind, .int .u64 v.bits, .int .i64 v.block, .int .i64 v.off] 47 (0, 0))) ∧ Below (w.heap.size + 1) W wr) (fun s _ => n - (intOf s).toNat)
  case atStart => exact ⟨0, noV, Nat.zero_le _, rfl, hide (inv_zero t l), hV, Below.refl _ _⟩
  case round =>
    obtain ⟨k, v, hk, rfl, hinv, hvb, hbel⟩ := hrel
    clear hV
    have hbs := hbel.size
    by_cases hlt : k < n
    · obtain ⟨b, hb⟩ := get_ex (l := l) (k := k) (by rw [← hn.out]; exact hlt)
      obtain ⟨b0, b1, b2, b3, b4⟩ := Cells.five (hcells.out k b hb.out)
      have c0 := b0 wr (hwW.trans (hbel.mono (Nat.le_succ _)))
      have c1 := b1 wr (hwW.trans (hbel.mono (Nat.le_succ _)))
      have c2 := b2 wr (hwW.trans (hbel.mono (Nat.le_succ _)))
      have c3 := b3 wr (hwW.trans (hbel.mono (Nat.le_succ _)))
      have c4 := b4 wr (hwW.trans (hbel.mono (Nat.le_succ _)))
      clear b0 b1 b2 b3 b4
      have hbb := hok.out b (List.mem_of_getElem? hb.out)
      go_upto_region 8 with (fail)
      have hvx := hide (one_alloc hvb.out (.cells #[.int .i64 b.kind, .int .u8 b.bits, .int .i64 b.block, .int .i64 b.off, .int .i64 b.i] 54))
      have hxx := hide (box_top wr (.cells #[.int .i64 b.kind, .int .u8 b.bits, .int .i64 b.block, .int .i64 b.off, .int .i64 b.i] 54))
      have hbx := hbel.alloc (by omega) (.cells #[.int .i64 b.kind, .int .u8 b.bits, .int .i64 b.block, .int .i64 b.off, .int .i64 b.i] 54)
      have hvx1 : w.heap.size + 1 < wr.heap.size := by omega
      obtain ⟨wx, hwx⟩ : ∃ wx, wx = wr.alloc (.cells #[.int .i64 b.kind, .int .u8 b.bits, .int .i64 b.block, .int .i64 b.off, .int .i64 b.i] 54) := ⟨_, rfl⟩
      rw [← hwx] at hvx hxx hbx ⊢
      obtain ⟨N, hN⟩ : ∃ N, N = wr.heap.size := ⟨_, rfl⟩
      rw [← hN] at hxx hvx1 hbs ⊢
      clear c0 c1 c2 c3 c4 hwx hbel hvb hN
      obtain ⟨z0, z1, z2, z3⟩ := four_cells hvx.out
      have f0 := one_free (j := 0) hvx.out
      have f1 := one_free (j := 1) hvx.out
      have f2 := one_free (j := 2) hvx.out
      have f3 := one_free (j := 3) hvx.out
      obtain ⟨c0, c1, c2, c3, c4⟩ := Row.cells (l := [b]) (k := 0) (b := b) hxx.out rfl
      simp only [Nat.zero_mul, Nat.zero_add] at c0 c1 c2 c3 c4
      by_cases h65 : t = 65
      · subst h65
        have m65 : ((65 : Int) != 65) = false := by decide
        by_cases a1 : b.kind = 2
        · by_cases a2 : b.i = (k : Int)
          · by_cases k0 : k = 0
            · have hI := hide (inv_addr hinv.out rfl hb.out a1 a2 (.inl k0))
              have e0 : ((k : Int) == 0) = true := beq_iff_eq.2 (by omega)
              replace k0 := hide k0
              go_wp2
              go_roundw
              case rel => exact ⟨k + 1, _, by omega, by go_num, hI, hide (set_four (a' := .int .i64 2) (b' := .int .u64 0) (c' := .int .i64 b.block) (d' := .int .i64 b.off) hvx.out), below_four hbx (Nat.le_refl _)⟩
              case measure => simp [intOf]; omega
            · have k0' : ((k : Int) == 0) = false := beq_eq_false_iff_ne.2 (by omega)
              by_cases a3 : b.block = v.block
              · by_cases a4 : b.off = v.off
                · have hI := hide (inv_addr hinv.out rfl hb.out a1 a2 (.inr ⟨a3, a4⟩))
                  have e3 : (b.block == v.block) = true := beq_iff_eq.2 a3
                  have e4 : (b.off == v.off) = true := beq_iff_eq.2 a4
                  replace a3 := hide a3
                  replace a4 := hide a4
                  go_wp2
                  go_roundw
                  case rel => exact ⟨k + 1, _, by omega, by go_num, hI, hide (set_four (a' := .int .i64 2) (b' := .int .u64 0) (c' := .int .i64 b.block) (d' := .int .i64 b.off) hvx.out), below_four hbx (Nat.le_refl _)⟩
                  case measure => simp [intOf]; omega
                · have e4 : (b.off == v.off) = false := beq_eq_false_iff_ne.2 a4
                  have hB := hide (unpack_bad_adr hinv.out rfl hb.out (.inr (.inr ⟨k0, .inr a4⟩)))
                  clear hcells
                  have hRx := hide ((hbx.block w.heap.size (by omega)).trans hR.out)
                  obtain ⟨r0, r1, r2, r3⟩ := four_cells hRx.out
                  have s0 := one_free (j := 0) hRx.out
                  have s1 := one_free (j := 1) hRx.out
                  have s2 := one_free (j := 2) hRx.out
                  have s3 := one_free (j := 3) hRx.out
                  go_wp2
                  refine bodyPost_ret (v := vv ⟨0, 0, 0, 0⟩) (by simp [results, Try.results34, go_sem, r0, r1, r2, r3, s0, s1, s2, s3]) rfl ⟨by rw [hB.out], ?_⟩
                  exact below_four (hwW.trans (hbx.mono (by omega))) (Nat.le_refl _)
              · have e3 : (b.block == v.block) = false := beq_eq_false_iff_ne.2 a3
                have hB := hide (unpack_bad_adr hinv.out rfl hb.out (.inr (.inr ⟨k0, .inl a3⟩)))
                clear hcells
                have hRx := hide ((hbx.block w.heap.size (by omega)).trans hR.out)
                obtain ⟨r0, r1, r2, r3⟩ := four_cells hRx.out
                have s0 := one_free (j := 0) hRx.out
                have s1 := one_free (j := 1) hRx.out
                have s2 := one_free (j := 2) hRx.out
                have s3 := one_free (j := 3) hRx.out
                go_wp2
                refine bodyPost_ret (v := vv ⟨0, 0, 0, 0⟩) (by simp [results, Try.results34, go_sem, r0, r1, r2, r3, s0, s1, s2, s3]) rfl ⟨by rw [hB.out], ?_⟩
                exact below_four (hwW.trans (hbx.mono (by omega))) (Nat.le_refl _)
          · have e2 : (b.i == (k : Int)) = false := beq_eq_false_iff_ne.2 a2
            have hB := hide (unpack_bad_adr hinv.out rfl hb.out (.inr (.inl a2)))
            clear hcells
            have hRx := hide ((hbx.block w.heap.size (by omega)).trans hR.out)
            obtain ⟨r0, r1, r2, r3⟩ := four_cells hRx.out
            have s0 := one_free (j := 0) hRx.out
            have s1 := one_free (j := 1) hRx.out
            have s2 := one_free (j := 2) hRx.out
            have s3 := one_free (j := 3) hRx.out
            go_wp2
            refine bodyPost_ret (v := vv ⟨0, 0, 0, 0⟩) (by simp [results, Try.results34, go_sem, r0, r1, r2, r3, s0, s1, s2, s3]) rfl ⟨by rw [hB.out], ?_⟩
            exact below_four (hwW.trans (hbx.mono (by omega))) (Nat.le_refl _)
        · have e1 : (b.kind == 2) = false := beq_eq_false_iff_ne.2 a1
          have hB := hide (unpack_bad_adr hinv.out rfl hb.out (.inl a1))
          clear hcells
          have hRx := hide ((hbx.block w.heap.size (by omega)).trans hR.out)
          obtain ⟨r0, r1, r2, r3⟩ := four_cells hRx.out
          have s0 := one_free (j := 0) hRx.out
          have s1 := one_free (j := 1) hRx.out
          have s2 := one_free (j := 2) hRx.out
          have s3 := one_free (j := 3) hRx.out
          go_wp2
          refine bodyPost_ret (v := vv ⟨0, 0, 0, 0⟩) (by simp [results, Try.results34, go_sem, r0, r1, r2, r3, s0, s1, s2, s3]) rfl ⟨by rw [hB.out], ?_⟩
          exact below_four (hwW.trans (hbx.mono (by omega))) (Nat.le_refl _)
      · have g65 : (t != 65) = true := bne_iff_ne.2 h65
        by_cases k1 : b.kind = 1
        · have hI := hide (inv_one hinv.out h65 hb.out k1 hok.out (by omega))
          replace h65 := hide h65
          obtain ⟨M, hM⟩ : ∃ M, Hid (M = max v.kind 1) := ⟨_, hide rfl⟩
          have hM1 : (if v.kind < 1 then (1 : Int) else v.kind) = M := by rw [hM.out]; split <;> omega
          rw [← hM.out] at hI
          have hk2 : (0 : Int) ≤ 8 * k := by omega
          have hw1 : IntKind.u64.wrap b.bits = b.bits := by rw [wrap_u]; omega
          have hw2 : IntKind.i64.wrap (8 * (k : Int)) = 8 * k := by rw [IntKind.wrap_i64]; omega
          obtain ⟨R, hR1⟩ : ∃ R, Hid (R = b.bits * 2 ^ (8 * k) % 18446744073709551616) := ⟨_, hide rfl⟩
          have hw3 : IntKind.u64.wrap (b.bits * 2 ^ (8 * (k : Int)).toNat) = R := by rw [wrap_u, hR1.out, show (8 * (k : Int)).toNat = 8 * k by omega]
          obtain ⟨Z, hZ⟩ : ∃ Z, Hid (Z = bits .or .u64 v.bits R) := ⟨_, hide rfl⟩
          have hw4 : bits .or .u64 v.bits R = Z := hZ.out.symm
          rw [← hR1.out, ← hZ.out] at hI
          go_upto_region 10 with (fail)
          go_region_with (fail)
          all_goals clear hw1 hw2 hM1 hk2 hw3 hw4
          all_goals go_wp2_with fail
          all_goals go_roundw
          case rel => exact ⟨k + 1, _, by omega, by go_num, hI, hide (set4_1 (u := .int .u64 Z) (set4_0 (u := .int .i64 M) hvx.out)), ((hbx.setCell (Nat.le_refl _) _).setCell (Nat.le_refl _) _).drew⟩
          case measure => simp [intOf]; omega
          case rel => exact ⟨k + 1, _, by omega, by go_num, hI, hide (set4_1 (u := .int .u64 Z) (set4_0 (u := .int .i64 M) hvx.out)), ((hbx.setCell (Nat.le_refl _) _).setCell (Nat.le_refl _) _).drew⟩
          case measure => simp [intOf]; omega
        · by_cases k3 : b.kind = 3
          · have hI := hide (inv_three hinv.out h65 hb.out k3)
            replace h65 := hide h65
            replace k1 := hide k1
            go_wp2
            go_roundw
            case rel => exact ⟨k + 1, _, by omega, by go_num, hI, hide (set4_0 (u := .int .i64 3) hvx.out), hbx.setCell (Nat.le_refl _) _⟩
            case measure => simp [intOf]; omega
          · have hB := unpack_bad_num h65 hb.out k1 k3
            have e1 : (b.kind == 1) = false := beq_eq_false_iff_ne.2 k1
            have e3 : (b.kind == 3) = false := beq_eq_false_iff_ne.2 k3
            have g65' : (t == 65) = false := beq_eq_false_iff_ne.2 h65
            replace hB := hide hB
            replace h65 := hide h65
            replace k1 := hide k1
            replace k3 := hide k3
            have hRx := hide ((hbx.block w.heap.size (by omega)).trans hR.out)
            obtain ⟨r0, r1, r2, r3⟩ := four_cells hRx.out
            have s0 := one_free (j := 0) hRx.out
            have s1 := one_free (j := 1) hRx.out
            have s2 := one_free (j := 2) hRx.out
            have s3 := one_free (j := 3) hRx.out
            go_wp2
            refine bodyPost_ret (v := vv ⟨0, 0, 0, 0⟩) (by simp [results, Try.results34, go_sem, r0, r1, r2, r3, s0, s1, s2, s3]) rfl ⟨by rw [hB.out], ?_⟩
            exact below_four (hwW.trans (hbx.mono (by omega))) (Nat.le_refl _)
    · clear hcells
      obtain rfl : k = n := by omega
      have hbits := hide (inv_bits hinv.out)
      have hI := hinv.out
      rw [hn.out] at hI
      have hD := hide (inv_done hI hc.out h0.out hok.out)
      clear hI
      obtain ⟨z0, z1, z2, z3⟩ := four_cells hvb.out
      go_wp2_with fail
      refine (norm_any t v _ hbits.out).mono ?_
      rintro e w3 ⟨rfl, hb3⟩
      rw [hD.out]
      obtain ⟨u, hu⟩ : ∃ u, Hid (u = unpackS t l) := ⟨_, hide rfl⟩
      rw [← hu.out]
      have hRx := hide ((hb3.block w.heap.size (by omega)).trans ((hbel.block w.heap.size (by omega)).trans hR.out))
      have hb4 := hbel.trans (hb3.mono (by omega))
      clear hb3 z0 z1 z2 z3
      obtain ⟨r0, r1, r2, r3⟩ := four_cells hRx.out
      have s0 := one_free (j := 0) hRx.out
      have s1 := one_free (j := 1) hRx.out
      have s2 := one_free (j := 2) hRx.out
      have s3 := one_free (j := 3) hRx.out
      go_wp2
      refine bodyPost_ret (v := vv u) (by simp [results, Try.results34, go_sem, r0, r1, r2, r3, s0, s1, s2, s3]) rfl ⟨by rw [hu.out], ?_⟩
      exact below_four (hwW.trans (hb4.mono (by omega))) (Nat.le_refl _)
theorem unpack_any (t : Int) (l : List Byt) (c : Value) (w : World) (hr : (Rp.slice 5 RByu).rep w w.heap.size [c] l) :
    Calls Try.prog 34 #[.int .i64 t, c] w fun e w' => e = .returned (vv (unpackS t l)) ∧ Below w.heap.size w w' := by
  obtain ⟨A, cap, hc, h9, -⟩ := Rp.slice_open hr
  cases hc
  by_cases h : l.length = 0 ∨ countS t ≠ l.length
  · exact unpack_short t l A cap w h h9
  · exact unpack_full t l A cap w (by omega) (by omega) hr
end Go.Proofs.Ytgkgmeofilkopaa
