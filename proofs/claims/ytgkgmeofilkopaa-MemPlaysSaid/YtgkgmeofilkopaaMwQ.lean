/- Layer 9: Memory.Set, walked over any memory. No condition but a byte within its kind. -/
import Derived.Test.YtgkgmeofilkopaaMwP
namespace Go.Proofs.Ytgkgmeofilkopaa
open Go.RowKit
set_option linter.unusedSimpArgs false
set_option linter.unusedVariables false

def SetPost (g : Nat) (F : Nat → Prop) (bs : MemS) (i a b : Int) (w : World) (e : Ending) (w' : World) : Prop :=
  e = .returned (.bool (setS bs i a b).2) ∧ MemIs w' g F (setS bs i a b).1 ∧ Upd F w w'
set_option maxRecDepth 100000 in
set_option maxHeartbeats 3200000 in
theorem set_any (g : Nat) (F : Nat → Prop) (bs : MemS) (i a b : Int) (w : World) (h : MemIs w g F bs) (hbt : 0 ≤ b ∧ b ≤ 255) :
    Calls Try.prog 54 #[.pointer (some ⟨g, 0, none⟩), .int .i64 i, .int .i64 a, .int .u8 b] w (SetPost g F bs i a b w) := by
  have hal := hide (alive_any g F bs i w w h (Below.refl _ _))
  have hM := hide h
  cases hb : bytesAt bs i with
  | none =>
    rw [hb] at hal
    have e0 : Hid (setS bs i a b = (bs, false)) := hide (by unfold setS; rw [hb])
    clear h hb
    go_enter Try.func54, Try.ntmps54
    go_wp2_with (go_at_call 84; refine hal.out.mono ?_; rintro e w' ⟨rfl, rfl⟩)
    go_ret
    unfold SetPost
    rw [e0.out]
    exact ⟨rfl, hM.out, Upd.of_below (Below.refl _ _)⟩
  | some l =>
    rw [hb] at hal
    have e0 : Hid (setS bs i a b = if 0 ≤ a ∧ a < l.length then (bs.set i.toNat (some (l.set a.toNat ⟨1, b, 0, 0, 0⟩)), true) else (bs, false)) := hide (by unfold setS; rw [hb])
    obtain ⟨k, rfl, h0⟩ := bytesAt_some hb
    have hk := (List.getElem?_eq_some_iff.1 h0).1
    obtain ⟨B, C, hgl, -, -, -, -, h1, h2⟩ := h.head (by omega)
    obtain ⟨x, hsl, ⟨hqF, hat⟩, h3⟩ := h2 k _ h0
    obtain ⟨hok, hm, q, rfl, hrow⟩ := id hsl
    have c1 := h1 w (Below.refl _ _)
    have c2 := h3 w (Below.refl _ _)
    replace hsl := hide hsl
    replace hqF := hide hqF
    replace hat := hide hat
    replace hok := hide hok
    replace hrow := hide hrow
    replace h0 := hide h0
    clear h h1 h2 h3 hb
    obtain ⟨n, hn⟩ : ∃ n, n = bs.length := ⟨_, rfl⟩
    rw [← hn] at c1 hk
    clear hn
    obtain ⟨m, hm'⟩ : ∃ m, Hid (m = l.length) := ⟨_, hide rfl⟩
    rw [← hm'.out] at c2 hm e0
    by_cases a0 : a < 0
    · rw [if_neg (by omega)] at e0
      go_enter Try.func54, Try.ntmps54
      go_wp2_with (go_at_call 84; refine hal.out.mono ?_; rintro e w' ⟨rfl, rfl⟩)
      go_ret
      unfold SetPost
      rw [e0.out]
      exact ⟨rfl, hM.out, Upd.of_below (Below.refl _ _)⟩
    · by_cases a1 : a < (m : Int)
      · rw [if_pos (by omega)] at e0
        obtain ⟨j, rfl⟩ := Int.eq_ofNat_of_zero_le (show 0 ≤ a by omega)
        have hjm : j < m := by omega
        have hjl : j < l.length := by rw [← hm'.out]; exact hjm
        obtain ⟨c0, hc0⟩ := get_ex (l := l) (k := j) hjl
        obtain ⟨y0, y1, y2, y3, y4⟩ := hrow.out.cells hc0.out
        have f0 := one_free (j := j * 5) hrow.out
        have f1 := one_free (j := j * 5 + 1) hrow.out
        have f2 := one_free (j := j * 5 + 2) hrow.out
        have f3 := one_free (j := j * 5 + 3) hrow.out
        have f4 := one_free (j := j * 5 + 4) hrow.out
        have hput := hide (MemIs.put (k := k) (l' := l.set j ⟨1, b, 0, 0, 0⟩) hM.out h0.out hsl.out hat.out (hrow.out.put hjl ⟨1, b, 0, 0, 0⟩) (by simp) (okB_set hok.out hbt) (fun i hi hne => by
          rw [Below.heap_setCell _ _ _ _ hne, Below.heap_setCell _ _ _ _ hne, Below.heap_setCell _ _ _ _ hne, Below.heap_setCell _ _ _ _ hne, Below.heap_setCell _ _ _ _ hne]) (by simp [World.setCell]))
        have hup : Hid (Upd F w (((((w.setCell ⟨q, j * 5, none⟩ (.int .i64 1)).setCell ⟨q, j * 5 + 1, none⟩ (.int .u8 b)).setCell ⟨q, j * 5 + 2, none⟩ (.int .i64 0)).setCell ⟨q, j * 5 + 3, none⟩ (.int .i64 0)).setCell ⟨q, j * 5 + 4, none⟩ (.int .i64 0))) := hide ⟨rfl, rfl, rfl, by simp [World.setCell], fun i hi hF => by
          have hne : i ≠ q := fun e => hF (e ▸ hqF.out q rfl)
          rw [Below.heap_setCell _ _ _ _ hne, Below.heap_setCell _ _ _ _ hne, Below.heap_setCell _ _ _ _ hne, Below.heap_setCell _ _ _ _ hne, Below.heap_setCell _ _ _ _ hne]⟩
        clear hjl
        go_enter Try.func54, Try.ntmps54
        go_wp2_with (go_at_call 84; refine hal.out.mono ?_; rintro e w' ⟨rfl, rfl⟩)
        go_ret
        unfold SetPost
        rw [e0.out]
        exact ⟨rfl, by simpa using hput.out, hup.out⟩
      · rw [if_neg (by omega)] at e0
        go_enter Try.func54, Try.ntmps54
        go_wp2_with (go_at_call 84; refine hal.out.mono ?_; rintro e w' ⟨rfl, rfl⟩)
        go_ret
        unfold SetPost
        rw [e0.out]
        exact ⟨rfl, hM.out, Upd.of_below (Below.refl _ _)⟩
end Go.Proofs.Ytgkgmeofilkopaa
