/- Layer 9: latheref09.Unpack, walked. No condition but bytes within their kind. -/
import Derived.Test.YtgkgmeofilkopaaMwG
namespace Go.Proofs.Ytgkgmeofilkopaa
open Go.RowKit
set_option linter.unusedSimpArgs false
set_option linter.unusedVariables false

set_option maxRecDepth 100000 in
set_option maxHeartbeats 1600000 in
theorem runpack_short (t : Int) (l : List Byt) (A : Option Addr) (cap : Nat) (w : World) (h : countS t = 0 ∨ countS t ≠ l.length) (hl : l.length ≤ 9223372036854775807) :
    Calls Try.prog 35 #[.int .i64 t, .slice A l.length cap] w fun e w' => e = .returned (vv (unpackS t l)) ∧ Below w.heap.size w w' := by
  have e0 : Hid (unpackS t l = noV) := hide (by unfold unpackS; rw [if_pos h])
  obtain ⟨n, hn⟩ : ∃ n : Nat, Hid (n = l.length) := ⟨_, hide rfl⟩
  rw [← hn.out] at h hl ⊢
  obtain ⟨c, hc⟩ : ∃ c, Hid (c = countS t) := ⟨_, hide rfl⟩
  have cC : Hid (∀ W, Calls Try.prog 71 #[.int .i64 t] W fun e w' => e = .returned (.int .i64 c) ∧ W = w') := hide (fun W => by rw [hc.out]; exact rcount_any t W)
  rw [← hc.out] at h
  by_cases h0 : c = 0
  · subst h0
    replace h := hide h
    go_enter Try.func35, Try.ntmps35
    go_wp2_with (go_at_call 71; refine (cC.out _).mono ?_; rintro e w' ⟨rfl, rfl⟩)
    refine bodyPost_ret (v := vv ⟨0, 0, 0, 0⟩) (by simp [results, Try.results35, go_sem]) rfl ⟨by rw [e0.out], ?_⟩
    exact (Below.refl _ _).alloc (Nat.le_refl _) _
  · have h1 : (c == 0) = false := beq_eq_false_iff_ne.2 h0
    have h2 : (c != (n : Int)) = true := bne_iff_ne.2 (by omega)
    replace h := hide h
    replace h0 := hide h0
    go_enter Try.func35, Try.ntmps35
    go_wp2_with (go_at_call 71; refine (cC.out _).mono ?_; rintro e w' ⟨rfl, rfl⟩)
    refine bodyPost_ret (v := vv ⟨0, 0, 0, 0⟩) (by simp [results, Try.results35, go_sem]) rfl ⟨by rw [e0.out], ?_⟩
    exact (Below.refl _ _).alloc (Nat.le_refl _) _
theorem adr_ne {x y : Byt} {k : Nat} (h : ¬ (x.kind = 2 ∧ x.block = y.block ∧ x.off = y.off ∧ x.i = k)) : ¬ x.kind = 2 ∨ (x.kind = 2 ∧ ¬ x.block = y.block) ∨ (x.kind = 2 ∧ x.block = y.block ∧ ¬ x.off = y.off) ∨
    (x.kind = 2 ∧ x.block = y.block ∧ x.off = y.off ∧ ¬ x.i = k) := by omega
theorem okAddr_step {l : List Byt} {k : Nat} {x y : Byt} (hy : l.headD default = y) (h : okAddr y 0 (l.take k) = true) (hx : l[k]? = some x) (hxx : x.kind = 2 ∧ x.block = y.block ∧ x.off = y.off ∧ x.i = k) : okAddr y 0 (l.take (k + 1)) = true := by
  have hlt := (List.getElem?_eq_some_iff.1 hx).1
  rw [take_snoc hx, okAddr_snoc, h, List.length_take, Nat.min_eq_left (by omega), hxx.1, hxx.2.1, hxx.2.2.1, hxx.2.2.2]
  simp
theorem okAddr_stop {l : List Byt} {k : Nat} {x y : Byt} (hx : l[k]? = some x) (hxx : ¬ (x.kind = 2 ∧ x.block = y.block ∧ x.off = y.off ∧ x.i = k)) : okAddr y 0 l = false := by
  have hlt := (List.getElem?_eq_some_iff.1 hx).1
  refine okAddr_part _ _ _ (k + 1) ?_
  rw [take_snoc hx, okAddr_snoc, List.length_take, Nat.min_eq_left (by omega), Nat.zero_add, Bool.and_eq_false_iff]
  refine .inr ?_
  rw [Bool.eq_false_iff]
  intro h
  simp only [Bool.and_eq_true, beq_iff_eq] at h
  exact hxx ⟨h.1.1.1, h.1.1.2, h.1.2, h.2⟩
set_option maxRecDepth 100000 in
set_option maxHeartbeats 6400000 in
theorem runpack_adr (l : List Byt) (A : Option Addr) (cap : Nat) (w : World) (hc : (8 : Int) = l.length) (hr : (Rp.slice 5 RByu).rep w w.heap.size [.slice A l.length cap] l) :
    Calls Try.prog 35 #[.int .i64 65, .slice A l.length cap] w fun e w' => e = .returned (vv (unpackS 65 l)) ∧ Below w.heap.size w w' := by
  obtain ⟨hok, hl9, hcells⟩ := slice5_parts hr
  obtain ⟨q, o, rfl, hq, hcells⟩ := hcells (by omega)
  have hn8 : l.length = 8 := by omega
  rw [hn8]
  obtain ⟨y, hy⟩ := get_ex (l := l) (k := 0) (by omega)
  have hyd : Hid (l.headD default = y) := hide (by cases l with | nil => simp at hn8 | cons a r => have := hy.out; simp at this; exact this)
  obtain ⟨u0, u1, u2, u3, u4⟩ := Cells.five (hcells 0 y hy.out)
  simp only [Nat.zero_mul, Nat.add_zero] at u0 u1 u2 u3 u4
  have hsp : Hid (unpackS 65 l = if okAddr y 0 l = true then ⟨2, 0, y.block, y.off⟩ else noV) := hide (by unfold unpackS; rw [if_neg (by rw [hn8]; decide), if_pos rfl, hyd.out])
  replace hcells := hide hcells
  replace hok := hide hok
  replace hc := hide hc
  clear hr hl9
  have cC : Hid (∀ W, Calls Try.prog 71 #[.int .i64 65] W fun e w' => e = .returned (.int .i64 8) ∧ W = w') := hide (fun W => rcount_any 65 W)
  obtain ⟨W, hW, hwW, hWs, -⟩ := boxes1 w #[.int .i64 0, .int .u64 0, .int .i64 0, .int .i64 0] 47
  have hR : Hid (W.heap[w.heap.size]? = some (.cells #[.int .i64 0, .int .u64 0, .int .i64 0, .int .i64 0] 47 (0, 0))) := hide (by rw [← hW]; exact box_top _ _)
  have hws : w.heap.size < W.heap.size := by omega
  have hws2 : w.heap.size ≤ W.heap.size := by omega
  replace hW := hide hW
  replace hWs := hide hWs
  have hself := Below.refl W.heap.size W
  go_enter Try.func35, Try.ntmps35
  go_wp2_with (go_at_call 71; refine (cC.out _).mono ?_; rintro e w' ⟨rfl, rfl⟩)
  rw [hW.out]
  go_loopw [6] (fun s wr => ∃ k : Nat, k ≤ 8 ∧ s = .int .i64 k ∧ Hid (okAddr y 0 (l.take k) = true) ∧ Below W.heap.size W wr) (fun s _ => 8 - (intOf s).toNat)
  case atStart => exact ⟨0, by omega, rfl, hide rfl, hself⟩
  case round =>
    obtain ⟨k, hk, rfl, hs, hbel⟩ := hrel
    have hRr := hide ((hbel.block w.heap.size hws).trans hR.out)
    obtain ⟨r0, r1, r2, r3⟩ := four_cells hRr.out
    have s0 := one_free (j := 0) hRr.out
    have s1 := one_free (j := 1) hRr.out
    have s2 := one_free (j := 2) hRr.out
    have s3 := one_free (j := 3) hRr.out
    have hbw := hwW.trans (hbel.mono hws2)
    by_cases hlt : k < 8
    · obtain ⟨x, hx⟩ := get_ex (l := l) (k := k) (by omega)
      obtain ⟨v0, v1, v2, v3, v4⟩ := Cells.five (hcells.out k x hx.out)
      by_cases hxy : x.kind = 2 ∧ x.block = y.block ∧ x.off = y.off ∧ x.i = k
      · have hst := hide (okAddr_step hyd.out hs.out hx.out hxy)
        obtain ⟨g0, g1, g2, g3⟩ := hxy
        go_wp2_with fail
        go_quiet (fail)
        go_wp2
        go_roundw
        case rel => exact ⟨k + 1, by omega, by go_num, hst, hbel.trans ((below_drewN (Below.refl _ _) _).mono (by first | exact hbel.size | exact Nat.le_refl _))⟩
        case measure => simp [intOf]; omega
      · have e0 : Hid (unpackS 65 l = noV) := hide (by rw [hsp.out, okAddr_stop hx.out hxy]; rfl)
        rcases adr_ne hxy with g0 | ⟨g0, g1⟩ | ⟨g0, g1, g2⟩ | ⟨g0, g1, g2, g3⟩
        all_goals
          replace hxy := hide hxy
          go_wp2_with fail
          go_quiet (fail)
          go_wp2
          refine bodyPost_ret (v := vv ⟨0, 0, 0, 0⟩) (by simp [results, Try.results35, go_sem, r0, r1, r2, r3, s0, s1, s2, s3]) rfl ⟨by rw [e0.out], ?_⟩
          exact below_four (hbw.trans ((below_drewN (Below.refl _ _) _).mono hbw.size)) (Nat.le_refl _)
    · obtain rfl : k = 8 := by omega
      have e0 : Hid (unpackS 65 l = ⟨2, 0, y.block, y.off⟩) := hide (by
        have := hs.out
        rw [List.take_of_length_le (by omega)] at this
        rw [hsp.out, if_pos this])
      go_wp2_with fail
      go_region
      all_goals go_wp2
      all_goals refine bodyPost_ret (v := vv ⟨2, 0, y.block, y.off⟩) (by simp [results, Try.results35, go_sem, r0, r1, r2, r3, s0, s1, s2, s3]) rfl ⟨by rw [e0.out], ?_⟩
      all_goals exact (below_four hbw (Nat.le_refl _)).drew
theorem drop_cons {l : List Byt} {j : Nat} {x : Byt} (h : l[j]? = some x) : l.drop j = x :: l.drop (j + 1) := by
  obtain ⟨hl, rfl⟩ := List.getElem?_eq_some_iff.1 h
  exact List.drop_eq_getElem_cons hl
theorem bits_drop {l : List Byt} {k : Nat} (h : OkB l) (hl : l.length ≤ 8) (hk : 1 ≤ k) : 0 ≤ bitsOf (l.drop k) ∧ bitsOf (l.drop k) ≤ 72057594037927935 := by
  have h1 := bitsOf_bound (l := l.drop k) (fun b hb => h b (List.mem_of_mem_drop hb))
  have h2 : (256 : Int) ^ (l.drop k).length ≤ 256 ^ 7 := by
    have e : ∀ n : Nat, (256 : Int) ^ n = ((256 ^ n : Nat) : Int) := fun n => (Int.natCast_pow 256 n).symm
    rw [e, e]
    exact Int.ofNat_le.2 (Nat.pow_le_pow_right (by decide) (by rw [List.length_drop]; omega))
  have h3 : (256 : Int) ^ 7 = 72057594037927936 := by decide
  omega
set_option maxRecDepth 100000 in
set_option maxHeartbeats 6400000 in
theorem runpack_num (t : Int) (l : List Byt) (A : Option Addr) (cap : Nat) (w : World) (ht : 1 ≤ t ∧ t ≤ 64) (hc : countS t = l.length) (hr : (Rp.slice 5 RByu).rep w w.heap.size [.slice A l.length cap] l) :
    Calls Try.prog 35 #[.int .i64 t, .slice A l.length cap] w fun e w' => e = .returned (vv (unpackS t l)) ∧ Below w.heap.size w w' := by
  obtain ⟨hok, hl9, hcells⟩ := slice5_parts hr
  have h8 := countS_le t
  have h0 := countS_pos ht.1 (show t ≤ 65 by omega)
  obtain ⟨q, o, rfl, hq, hcells⟩ := hcells (by omega)
  have hl8 : Hid (l.length ≤ 8) := hide (by omega)
  obtain ⟨n, hn⟩ : ∃ n : Nat, Hid (n = l.length) := ⟨_, hide rfl⟩
  rw [← hn.out] at hl9 ⊢
  have hn0 : 1 ≤ n := by rw [hn.out]; omega
  have hn8 : n ≤ 8 := by rw [hn.out]; omega
  have hsp : Hid (unpackS t l = if all13 l = true then (if any3 l = true then ⟨3, 0, 0, 0⟩ else ⟨1, bitsOf l % pw t, 0, 0⟩) else noV) := hide (by unfold unpackS all13 any3; rw [if_neg (by omega), if_neg (by omega)])
  have cC : Hid (∀ W, Calls Try.prog 71 #[.int .i64 t] W fun e w' => e = .returned (.int .i64 (n : Int)) ∧ W = w') := hide (fun W => by
    have h1 := rcount_any t W
    rwa [hc, ← hn.out] at h1)
  have cK : Hid (∀ u W, 0 ≤ u → u ≤ 18446744073709551615 → Calls Try.prog 72 #[.int .i64 t, .int .u64 u] W fun e w' => e = .returned (.int .u64 (u % pw t)) ∧ W = w') := hide (fun u W h1 h2 => by
    have h3 := rcut_any t u W (by omega) ⟨h1, h2⟩
    rwa [rcut_eq ht.2 h1 (by omega)] at h3)
  have g65 : (t == 65) = false := beq_eq_false_iff_ne.2 (by omega)
  have g0 : ((n : Int) == 0) = false := beq_eq_false_iff_ne.2 (by omega)
  replace hcells := hide hcells
  replace hok := hide hok
  replace hc := hide hc
  replace ht := hide ht
  clear hr h8 h0
  obtain ⟨W, hW, hwW, hWs, -⟩ := boxes1 w #[.int .i64 0, .int .u64 0, .int .i64 0, .int .i64 0] 47
  have hR : Hid (W.heap[w.heap.size]? = some (.cells #[.int .i64 0, .int .u64 0, .int .i64 0, .int .i64 0] 47 (0, 0))) := hide (by rw [← hW]; exact box_top _ _)
  have hws : w.heap.size < W.heap.size := by omega
  have hws2 : w.heap.size ≤ W.heap.size := by omega
  replace hW := hide hW
  replace hWs := hide hWs
  have hself := Below.refl W.heap.size W
  go_enter Try.func35, Try.ntmps35
  go_wp2_with (go_at_call 71; refine (cC.out _).mono ?_; rintro e w' ⟨rfl, rfl⟩)
  rw [hW.out]
  go_loopw [7, 8, 9] (fun v a i wr => ∃ k : Nat, k ≤ n ∧ i = .int .i64 ((k : Int) - 1) ∧ v = .int .u64 (bitsOf (l.drop k)) ∧ a = .bool (any3 (l.drop k)) ∧ Hid (all13 (l.drop k) = true) ∧ Below W.heap.size W wr) (fun _ _ i _ => (intOf i + 1).toNat)
  case atStart => exact ⟨n, Nat.le_refl _, rfl, by rw [List.drop_of_length_le (by rw [hn.out]; exact Nat.le_refl _)]; rfl, by rw [List.drop_of_length_le (by rw [hn.out]; exact Nat.le_refl _)]; rfl, hide (by rw [List.drop_of_length_le (by rw [hn.out]; exact Nat.le_refl _)]; rfl), hself⟩
  case round =>
    obtain ⟨k, hk, rfl, rfl, rfl, hs, hbel⟩ := hrel
    have hRr := hide ((hbel.block w.heap.size hws).trans hR.out)
    obtain ⟨r0, r1, r2, r3⟩ := four_cells hRr.out
    have s0 := one_free (j := 0) hRr.out
    have s1 := one_free (j := 1) hRr.out
    have s2 := one_free (j := 2) hRr.out
    have s3 := one_free (j := 3) hRr.out
    have hbw := hwW.trans (hbel.mono hws2)
    by_cases hk0 : k = 0
    · subst hk0
      have hs' := hs.out
      rw [List.drop_zero] at hs' ⊢
      have hbb := bitsOf_bound hok.out
      have h64 : (256 : Int) ^ l.length ≤ 256 ^ 8 := by
        have e : ∀ n : Nat, (256 : Int) ^ n = ((256 ^ n : Nat) : Int) := fun n => (Int.natCast_pow 256 n).symm
        rw [e, e]
        exact Int.ofNat_le.2 (Nat.pow_le_pow_right (by decide) hl8.out)
      have h65 : (256 : Int) ^ 8 = 18446744073709551616 := by decide
      have hbu : 0 ≤ bitsOf l ∧ bitsOf l ≤ 18446744073709551615 := by omega
      have hsp2 := hsp.out
      rw [if_pos hs'] at hsp2
      clear h64 h65 hbb hs' hs hsp
      obtain ⟨V, hV⟩ : ∃ V, Hid (bitsOf l = V) := ⟨_, hide rfl⟩
      rw [hV.out] at hbu hsp2 ⊢
      cases ha : any3 l with
      | true =>
        rw [ha, if_pos rfl] at hsp2
        replace hsp2 := hide hsp2
        clear ha hbu
        go_wp2
        refine bodyPost_ret (v := vv ⟨3, 0, 0, 0⟩) (by simp [results, Try.results35, go_sem, r0, r1, r2, r3, s0, s1, s2, s3]) rfl ⟨by rw [hsp2.out], ?_⟩
        exact below_four hbw (Nat.le_refl _)
      | false =>
        rw [ha, if_neg (by decide)] at hsp2
        obtain ⟨Z, hZ⟩ : ∃ Z, Hid (V % pw t = Z) := ⟨_, hide rfl⟩
        have cZ := hide (fun W => cK.out V W hbu.1 hbu.2)
        rw [hZ.out] at hsp2 cZ
        replace hsp2 := hide hsp2
        clear ha hbu cK
        go_wp2_with (go_at_call 72; refine (cZ.out _).mono ?_; rintro e w' ⟨rfl, rfl⟩)
        refine bodyPost_ret (v := vv ⟨1, Z, 0, 0⟩) (by simp [results, Try.results35, go_sem, r0, r1, r2, r3, s0, s1, s2, s3]) rfl ⟨by rw [hsp2.out], ?_⟩
        exact below_four hbw (Nat.le_refl _)
    · obtain ⟨j, rfl⟩ : ∃ j, k = j + 1 := ⟨k - 1, by omega⟩
      obtain ⟨x, hx⟩ := get_ex (l := l) (k := j) (by rw [← hn.out]; omega)
      obtain ⟨v0, v1, v2, v3, v4⟩ := Cells.five (hcells.out j x hx.out)
      clear v2 v3 v4
      have hdr := hide (drop_cons hx.out)
      have hV := bits_drop hok.out hl8.out (show 1 ≤ j + 1 by omega)
      have hxb := hok.out x (List.mem_of_getElem? hx.out)
      obtain ⟨V, hVe⟩ : ∃ V, Hid (bitsOf (l.drop (j + 1)) = V) := ⟨_, hide rfl⟩
      obtain ⟨a, hae⟩ : ∃ a, Hid (any3 (l.drop (j + 1)) = a) := ⟨_, hide rfl⟩
      rw [hVe.out] at hV ⊢
      rw [hae.out]
      have hi1 : ((j + 1 : Nat) : Int) - 1 = (j : Int) := by omega
      rw [hi1]
      have hsn : Hid (bitsOf (l.drop j) = V * 256 + x.bits) := hide (by rw [hdr.out, bitsOf, hVe.out]; omega)
      have e1 : IntKind.u64.wrap (V * 256) = V * 256 := by rw [wrap_u]; omega
      have e2 : IntKind.u64.wrap (V * 256 + x.bits) = V * 256 + x.bits := by rw [wrap_u]; omega
      have e3 : IntKind.u64.wrap x.bits = x.bits := by rw [wrap_u]; omega
      replace hk0 := hide hk0
      replace hV := hide hV
      replace hxb := hide hxb
      by_cases k1 : x.kind = 1
      · have han : Hid (any3 (l.drop j) = a) := hide (by rw [hdr.out, ← hae.out]; simp [any3, k1])
        have hal : Hid (all13 (l.drop j) = true) := hide (by have := hs.out; rw [hdr.out]; simp only [all13, List.all_cons, k1] at this ⊢; exact this)
        cases a
        all_goals
          go_wp2
          go_roundw
          case rel => exact ⟨j, by omega, by go_num, by rw [hsn.out], by rw [han.out], hal, hbel⟩
          case measure => simp [intOf]
      · by_cases k3 : x.kind = 3
        · have han : Hid (any3 (l.drop j) = true) := hide (by rw [hdr.out]; simp [any3, k3])
          have hal : Hid (all13 (l.drop j) = true) := hide (by have := hs.out; rw [hdr.out]; simp only [all13, List.all_cons, k3] at this ⊢; exact this)
          replace k1 := hide k1
          cases a
          all_goals
            go_wp2
            go_roundw
            case rel => exact ⟨j, by omega, by go_num, by rw [hsn.out], by rw [han.out], hal, hbel⟩
            case measure => simp [intOf]
        · have hB := hide (unpack_bad_num (t := t) (by have := ht.out; omega) hx.out k1 k3)
          have f1 : (x.kind != 1) = true := bne_iff_ne.2 k1
          have f3 : (x.kind != 3) = true := bne_iff_ne.2 k3
          replace k1 := hide k1
          replace k3 := hide k3
          go_wp2
          refine bodyPost_ret (v := vv ⟨0, 0, 0, 0⟩) (by simp [results, Try.results35, go_sem, r0, r1, r2, r3, s0, s1, s2, s3]) rfl ⟨by rw [hB.out], ?_⟩
          exact below_four hbw (Nat.le_refl _)
theorem runpack_any (t : Int) (l : List Byt) (c : Value) (w : World) (hr : (Rp.slice 5 RByu).rep w w.heap.size [c] l) :
    Calls Try.prog 35 #[.int .i64 t, c] w fun e w' => e = .returned (vv (unpackS t l)) ∧ Below w.heap.size w w' := by
  obtain ⟨A, cap, hc, h9, -⟩ := Rp.slice_open hr
  cases hc
  by_cases h : countS t = 0 ∨ countS t ≠ l.length
  · exact runpack_short t l A cap w h h9
  · by_cases h65 : t = 65
    · subst h65
      exact runpack_adr l A cap w (by have : countS 65 = 8 := by decide
                                      omega) hr
    · refine runpack_num t l A cap w ?_ (by omega) hr
      have h1 : ¬ countS t = 0 := fun e => h (.inl e)
      unfold countS at h1
      rw [if_neg h65] at h1
      by_cases g : 1 ≤ t ∧ t ≤ 64
      · exact g
      · rw [if_neg g] at h1; exact absurd rfl h1
end Go.Proofs.Ytgkgmeofilkopaa
