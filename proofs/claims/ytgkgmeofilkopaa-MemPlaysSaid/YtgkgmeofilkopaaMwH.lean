/- Layer 9: Memory.alive, span, Load, walked over any memory. No condition but numbers within their kinds. -/
import Derived.Test.YtgkgmeofilkopaaMwG
import Derived.Test.YtgkgmeofilkopaaMmD
namespace Go.Proofs.Ytgkgmeofilkopaa
open Go.RowKit
set_option linter.unusedSimpArgs false
set_option linter.unusedVariables false

theorem alive_any (g : Nat) (F : Nat → Prop) (bs : MemS) (i : Int) (w W : World) (h : MemIs w g F bs) (hw : Below w.heap.size w W) :
    Calls Try.prog 84 #[.pointer (some ⟨g, 0, none⟩), .int .i64 i] W fun e w' => e = .returned (.bool (bytesAt bs i).isSome) ∧ W = w' := by
  cases hb : bytesAt bs i with
  | none =>
    rcases bytesAt_none hb with h0 | ⟨k, rfl, h0 | h0⟩
    · clear h hw hb
      have e : (i ≥ 0) = False := by simp; omega
      go_enter Try.func84, Try.ntmps84
      go_wp2
      go_ret
      exact ⟨rfl, rfl⟩
    · obtain ⟨hg, A, C, h1⟩ := h.empty
      have c1 := h1 W hw
      clear h hw hb h1
      have h2 : ¬ ((k : Int) < (bs.length : Int)) := by omega
      replace h0 := hide h0
      replace hg := hide hg
      obtain ⟨n, hn⟩ : ∃ n, n = bs.length := ⟨_, rfl⟩
      rw [← hn] at c1 h2
      clear hn
      go_enter Try.func84, Try.ntmps84
      go_wp2
      go_ret
      exact ⟨rfl, rfl⟩
    · have hk := (List.getElem?_eq_some_iff.1 h0).1
      obtain ⟨B, C, -, -, -, -, -, h1, h2⟩ := h.head (by omega)
      obtain ⟨x, hx, -, h3⟩ := h2 k _ h0
      have c1 := h1 W hw
      have c2 := h3 W hw
      cases hx
      clear h h1 h2 h3 hb h0 hw
      obtain ⟨n, hn⟩ : ∃ n, n = bs.length := ⟨_, rfl⟩
      rw [← hn] at c1 hk
      clear hn
      go_enter Try.func84, Try.ntmps84
      go_wp2
      go_ret
      exact ⟨rfl, rfl⟩
  | some l =>
    obtain ⟨k, rfl, h0⟩ := bytesAt_some hb
    have hk := (List.getElem?_eq_some_iff.1 h0).1
    obtain ⟨B, C, -, -, -, -, -, h1, h2⟩ := h.head (by omega)
    obtain ⟨x, ⟨-, -, q, rfl, -⟩, -, h3⟩ := h2 k _ h0
    have c1 := h1 W hw
    have c2 := h3 W hw
    clear h h1 h2 h3 hb h0 hw
    obtain ⟨n, hn⟩ : ∃ n, n = bs.length := ⟨_, rfl⟩
    rw [← hn] at c1 hk
    clear hn
    go_enter Try.func84, Try.ntmps84
    go_wp2
    go_ret
    exact ⟨rfl, rfl⟩
/-- what span answers -/
def SpanPost (g : Nat) (F : Nat → Prop) (bs : MemS) (t : Int) (a : Val) (W : World) (e : Ending) (w' : World) : Prop :=
  (match spanS bs t a with
    | none => e = .returned (.tuple #[.slice none 0 0, .bool false])
    | some (l, o) => ∃ q x, bs[a.block.toNat]? = some (some l) ∧ (0 ≤ a.block ∧ F q ∧ BlkAt W g bs a.block.toNat x) ∧ x = .slice (some ⟨q, 0, none⟩) l.length l.length ∧ SlV W x (some l) ∧ o + (countS t).toNat ≤ l.length ∧ e = .returned (.tuple #[.slice (some ⟨q, o * 5, none⟩) (countS t).toNat (l.length - o), .bool true])) ∧ Below W.heap.size W w'
theorem span_none {g : Nat} {F : Nat → Prop} {bs : MemS} {t : Int} {a : Val} {W : World} {e : Ending} {w' : World} (h : spanS bs t a = none) (he : e = .returned (.tuple #[.slice none 0 0, .bool false])) (hb : Below W.heap.size W w') : SpanPost g F bs t a W e w' := by
  unfold SpanPost; rw [h]; exact ⟨he, hb⟩
set_option maxHeartbeats 3200000 in
theorem span_any (g : Nat) (F : Nat → Prop) (bs : MemS) (t : Int) (a : Val) (W : World) (h : MemIs W g F bs) :
    Calls Try.prog 83 #[.pointer (some ⟨g, 0, none⟩), .int .i64 t, vv a] W (SpanPost g F bs t a W) := by
  obtain ⟨kd, bt, bl, off⟩ := a
  have hself := Below.refl W.heap.size W
  have hbx := (Below.refl W.heap.size W).alloc (Nat.le_refl _) (.cells #[.int .i64 kd, .int .u64 bt, .int .i64 bl, .int .i64 off] 47)
  obtain ⟨c, hc⟩ : ∃ c, Hid (countS t = c) := ⟨_, hide rfl⟩
  have hc8 : 0 ≤ c ∧ c ≤ 8 := by have := countS_le t; have := hc.out; omega
  have cC : Hid (∀ W, Calls Try.prog 70 #[.int .i64 t] W fun e w' => e = .returned (.int .i64 c) ∧ W = w') := hide (fun W => by rw [← hc.out]; exact count_any t W)
  have hal : Hid (∀ W', Below W.heap.size W W' → Calls Try.prog 84 #[.pointer (some ⟨g, 0, none⟩), .int .i64 bl] W' fun e w' => e = .returned (.bool (bytesAt bs bl).isSome) ∧ W' = w') := hide (fun W' hw => alive_any g F bs bl W W' h hw)
  by_cases k2 : kd = 2
  · subst k2
    have k2 : (2 : Int) = 2 := rfl
    replace k2 := hide k2
    by_cases c0 : c = 0
    · subst c0
      have e : Hid (spanS bs t ⟨2, bt, bl, off⟩ = none) := hide (by unfold spanS; rw [if_neg (by rw [hc.out]; simp)])
      clear h
      go_enter Try.func83, Try.ntmps83
      go_wp2_with (go_at_call 70; refine (cC.out _).mono ?_; rintro e w' ⟨rfl, rfl⟩)
      go_ret2
      exact span_none e.out rfl hbx
    · have c0' : (c == 0) = false := beq_eq_false_iff_ne.2 c0
      replace c0 := hide c0
      cases hb : bytesAt bs bl with
      | none =>
        have e : Hid (spanS bs t ⟨2, bt, bl, off⟩ = none) := hide (by unfold spanS; rw [if_pos ⟨rfl, by rw [hc.out]; exact c0.out⟩]; simp only; rw [hb])
        rw [hb] at hal
        clear h hb
        go_enter Try.func83, Try.ntmps83
        go_wp2_with (first | (go_at_call 70; refine (cC.out _).mono ?_; rintro e w' ⟨rfl, rfl⟩) | (go_at_call 84; refine (hal.out _ hbx).mono ?_; rintro e w' ⟨rfl, rfl⟩))
        go_ret2
        exact span_none e.out rfl hbx
      | some l =>
        rw [hb] at hal
        obtain ⟨k, rfl, h0⟩ := bytesAt_some hb
        have hk := (List.getElem?_eq_some_iff.1 h0).1
        obtain ⟨B, C, hg, hB, -, -, -, h1, h2⟩ := h.head (by omega)
        obtain ⟨x, ⟨hok, h40, q, rfl, hrow⟩, hat, h3⟩ := h2 k _ h0
        replace hat := hide hat
        replace h0 := hide h0
        obtain ⟨n, hn⟩ : ∃ n, Hid (n = bs.length) := ⟨_, hide rfl⟩
        rw [← hn.out] at h1 hk
        obtain ⟨m, hm⟩ : ∃ m, Hid (m = l.length) := ⟨_, hide rfl⟩
        rw [← hm.out] at h3 h40
        have hsp : Hid (spanS bs t ⟨2, bt, k, off⟩ = if 0 ≤ off ∧ off + c ≤ m then some (l, off.toNat) else none) := hide (by unfold spanS; rw [if_pos ⟨rfl, by rw [hc.out]; exact c0.out⟩]; simp only; rw [hb, hc.out, hm.out])
        replace hok := hide hok
        replace hrow := hide hrow
        clear h h2 hb
        by_cases o0 : 0 ≤ off
        · by_cases o1 : off ≤ (m : Int) - c
          · obtain ⟨o, rfl⟩ := Int.eq_ofNat_of_zero_le o0
            obtain ⟨d, rfl⟩ := Int.eq_ofNat_of_zero_le hc8.1
            have d1 : 0 < d := by have := c0.out; omega
            have hne : ¬ m = o := by omega
            have e8 : ¬ ((m : Int) - d < o) := by omega
            go_enter Try.func83, Try.ntmps83
            go_wp2_with (first | (go_at_call 70; refine (cC.out _).mono ?_; rintro e w' ⟨rfl, rfl⟩) | (go_at_call 84; refine (hal.out _ hbx).mono ?_; rintro e w' ⟨rfl, rfl⟩))
            go_quiet (fail)
            go_wp2
            go_ret2
            have hsm : spanS bs t ⟨2, bt, k, o⟩ = some (l, o) := by rw [hsp.out, if_pos (by omega)]; rfl
            unfold SpanPost
            rw [hsm]
            refine ⟨⟨q, .slice (some ⟨q, 0, none⟩) l.length l.length, by simpa using h0.out, ⟨by show (0 : Int) ≤ k; omega, hat.out.1 q rfl, by simpa using hat.out.2⟩, rfl, ⟨hok.out, by rw [← hm.out]; exact h40, q, rfl, hrow.out⟩, by rw [hc.out, ← hm.out]; omega, ?_⟩, hbx.trans ((below_drewN (Below.refl _ _) _).mono hbx.size)⟩
            rw [hc.out, ← hm.out]
            show Ending.returned (.tuple #[.slice (some ⟨q, o * 5, none⟩) (o + d - o) (m - o), .bool true]) = _
            rw [Nat.add_sub_cancel_left]
            rfl
          · have e : Hid (spanS bs t ⟨2, bt, k, off⟩ = none) := hide (by rw [hsp.out, if_neg (by omega)])
            go_enter Try.func83, Try.ntmps83
            go_wp2_with (first | (go_at_call 70; refine (cC.out _).mono ?_; rintro e w' ⟨rfl, rfl⟩) | (go_at_call 84; refine (hal.out _ hbx).mono ?_; rintro e w' ⟨rfl, rfl⟩))
            go_quiet (fail)
            go_wp2
            go_ret2
            exact span_none e.out rfl (hbx.trans ((below_drewN (Below.refl _ _) _).mono hbx.size))
        · have e : Hid (spanS bs t ⟨2, bt, k, off⟩ = none) := hide (by rw [hsp.out, if_neg (by omega)])
          go_enter Try.func83, Try.ntmps83
          go_wp2_with (first | (go_at_call 70; refine (cC.out _).mono ?_; rintro e w' ⟨rfl, rfl⟩) | (go_at_call 84; refine (hal.out _ hbx).mono ?_; rintro e w' ⟨rfl, rfl⟩))
          go_quiet (fail)
          go_wp2
          go_ret2
          exact span_none e.out rfl (hbx.trans ((below_drewN (Below.refl _ _) _).mono hbx.size))
  · have k2' : (kd != 2) = true := bne_iff_ne.2 k2
    have e : Hid (spanS bs t ⟨kd, bt, bl, off⟩ = none) := hide (by unfold spanS; rw [if_neg (by simp only; omega)])
    replace k2 := hide k2
    clear h
    go_enter Try.func83, Try.ntmps83
    go_wp2_with (go_at_call 70; refine (cC.out _).mono ?_; rintro e w' ⟨rfl, rfl⟩)
    go_ret2
    exact span_none e.out rfl hbx
set_option maxHeartbeats 3200000 in
theorem load_any (g : Nat) (F : Nat → Prop) (bs : MemS) (t : Int) (a : Val) (w : World) (h : MemIs w g F bs) :
    Calls Try.prog 53 #[.pointer (some ⟨g, 0, none⟩), .int .i64 t, vv a] w fun e w' => e = .returned (.tuple #[vv (loadS bs t a).1, .bool (loadS bs t a).2]) ∧ Below w.heap.size w w' := by
  obtain ⟨W, hW, hwW, hWs, -, -⟩ := boxes2 w #[.int .i64 a.kind, .int .u64 a.bits, .int .i64 a.block, .int .i64 a.off] #[.int .i64 0, .int .u64 0, .int .i64 0, .int .i64 0] 47 47
  have hR : W.heap[w.heap.size + 1]? = some (.cells #[.int .i64 0, .int .u64 0, .int .i64 0, .int .i64 0] 47 (0, 0)) := by
    rw [← hW]
    have := box_top (w.alloc (.cells #[.int .i64 a.kind, .int .u64 a.bits, .int .i64 a.block, .int .i64 a.off] 47)) (.cells #[.int .i64 0, .int .u64 0, .int .i64 0, .int .i64 0] 47)
    simpa using this
  have hM := h.later hwW
  have hS := hide (span_any g F bs t a W hM)
  have hz : w.heap.size + 1 < W.heap.size := by omega
  replace hWs := hide hWs
  replace hR := hide hR
  have hwW' := hide hwW
  clear hwW
  replace hW := hide hW
  go_enter Try.func53, Try.ntmps53
  go_wp2_with fail
  rw [hW.out]
  clear hW
  refine hS.out.mono ?_
  intro e w1 hp
  unfold SpanPost at hp
  cases hsp : spanS bs t a with
  | none =>
    rw [hsp] at hp
    have e0 : Hid (loadS bs t a = (noV, false)) := hide (by unfold loadS; rw [hsp])
    obtain ⟨rfl, hb1⟩ := hp
    have hRx := hide ((hb1.block (w.heap.size + 1) (by omega)).trans hR.out)
    obtain ⟨r0, r1, r2, r3⟩ := four_cells hRx.out
    have s0 := one_free (j := 0) hRx.out
    have s1 := one_free (j := 1) hRx.out
    have s2 := one_free (j := 2) hRx.out
    have s3 := one_free (j := 3) hRx.out
    clear hsp
    go_wp2
    refine bodyPost_ret (v := .tuple #[vv ⟨0, 0, 0, 0⟩, .bool false]) (by simp [results, Try.results53, go_sem, r0, r1, r2, r3, s0, s1, s2, s3]) rfl ⟨by rw [e0.out], ?_⟩
    exact below_four (hwW'.out.trans (hb1.mono (by omega))) (Nat.le_succ _)
  | some lo =>
    obtain ⟨l, o⟩ := lo
    rw [hsp] at hp
    obtain ⟨⟨q, x, p1, p2, rfl, p3, p4, rfl⟩, hb1⟩ := hp
    obtain ⟨p5, p6, q', hq', hrow⟩ := p3
    cases hq'
    have hr := (Row.below hrow hb1 hrow.lt).rep (B := w1.heap.size) (o := o) (n := (countS t).toNat) (c := l.length - o) p5 (Nat.lt_of_lt_of_le hrow.lt hb1.size) p4 (by omega) (by unfold maxLen; omega)
    have e0 : Hid (loadS bs t a = (unpackS t ((l.drop o).take (countS t).toNat), true)) := hide (by unfold loadS; rw [hsp])
    have hlen : ((l.drop o).take (countS t).toNat).length = (countS t).toNat := by rw [List.length_take, List.length_drop]; omega
    obtain ⟨z, hz'⟩ : ∃ z, z = (l.drop o).take (countS t).toNat := ⟨_, rfl⟩
    rw [← hz'] at hr e0 hlen
    have hU := hide (unpack_any t z _ w1 hr)
    clear hr hsp hz'
    obtain ⟨u, hu⟩ : ∃ u, Hid (u = unpackS t z) := ⟨_, hide rfl⟩
    rw [← hu.out] at hU e0
    have hRx := hide ((hb1.block (w.heap.size + 1) (by omega)).trans hR.out)
    have hz2 := hb1.size
    replace hb1 := hide hb1
    replace p1 := hide p1
    clear p4 p5 p6 hrow
    go_wp2_with fail
    refine hU.out.mono ?_
    rintro e w3 ⟨rfl, hb3⟩
    have hRy := hide ((hb3.block (w.heap.size + 1) (by omega)).trans hRx.out)
    obtain ⟨r0, r1, r2, r3⟩ := four_cells hRy.out
    have s0 := one_free (j := 0) hRy.out
    have s1 := one_free (j := 1) hRy.out
    have s2 := one_free (j := 2) hRy.out
    have s3 := one_free (j := 3) hRy.out
    have hb4 := hide (hb1.out.trans (hb3.mono hz2))
    clear hb3
    go_wp2
    refine bodyPost_ret (v := .tuple #[vv u, .bool true]) (by simp [results, Try.results53, go_sem, r0, r1, r2, r3, s0, s1, s2, s3]) rfl ⟨by rw [e0.out], ?_⟩
    exact below_four (hwW'.out.trans (hb4.out.mono (by omega))) (Nat.le_succ _)
end Go.Proofs.Ytgkgmeofilkopaa
