/- Layer 9's reference: inside, walked. No condition. -/
import Derived.Test.YtgkgmeofilkopaaRwC
import Derived.Test.YtgkgmeofilkopaaMwO
namespace Go.Proofs.Ytgkgmeofilkopaa
open Go.RowKit
set_option linter.unusedSimpArgs false
set_option linter.unusedVariables false

set_option maxRecDepth 100000 in
set_option maxHeartbeats 6400000 in
theorem inside_any (B E : Nat) (v : Value) (bs : MemS) (t : Int) (a : Val) (w : World) (h : RefM w B E v bs) :
    Calls Try.prog 112 #[v, .int .i64 t, vv a] w fun e w' => e = .returned (.bool (spanS bs t a).isSome) ∧ Below w.heap.size w w' := by
  obtain ⟨kd, bt, bl, off⟩ := a
  obtain ⟨c, hc⟩ : ∃ c, Hid (countS t = c) := ⟨_, hide rfl⟩
  have hc8 : 0 ≤ c ∧ c ≤ 8 := by have := countS_le t; have := hc.out; omega
  have cC : Hid (∀ W, Calls Try.prog 71 #[.int .i64 t] W fun e w' => e = .returned (.int .i64 c) ∧ W = w') := hide (fun W => by rw [← hc.out]; exact rcount_any t W)
  obtain ⟨W, hW, hwW, hWs, q1⟩ := boxes1 w #[.int .i64 kd, .int .u64 bt, .int .i64 bl, .int .i64 off] 47
  have hself := Below.refl W.heap.size W
  have y0 := q1 0 _ rfl
  have y1 := q1 1 _ rfl
  have y2 := q1 2 _ rfl
  have y3 := q1 3 _ rfl
  clear q1
  have hM := h.later hwW
  have hal := hide (ralive_any B E v bs bl W hM)
  replace hWs := hide hWs
  have hbx := hide hwW
  replace hW := hide hW
  clear hwW
  by_cases k2 : kd = 2
  · subst k2
    have k2 : (2 : Int) = 2 := rfl
    replace k2 := hide k2
    by_cases c0 : c = 0
    · subst c0
      have e0 : Hid ((spanS bs t ⟨2, bt, bl, off⟩).isSome = false) := hide (by unfold spanS; rw [if_neg (by rw [hc.out]; simp)]; rfl)
      clear h hM
      go_enter Try.func112, Try.ntmps112
      go_upto_region 1 with (fail)
      rw [hW.out]
      clear hW
      go_wp2_with (go_at_call 71; refine (cC.out _).mono ?_; rintro e w' ⟨rfl, rfl⟩)
      go_ret
      exact ⟨by rw [e0.out]; rfl, hbx.out⟩
    · have c0' : (c == 0) = false := beq_eq_false_iff_ne.2 c0
      replace c0 := hide c0
      cases hb : bytesAt bs bl with
      | none =>
        have e0 : Hid ((spanS bs t ⟨2, bt, bl, off⟩).isSome = false) := hide (by unfold spanS; rw [if_pos ⟨rfl, by rw [hc.out]; exact c0.out⟩]; simp only; rw [hb]; rfl)
        rw [hb] at hal
        clear h hb hM
        go_enter Try.func112, Try.ntmps112
        go_upto_region 1 with (fail)
        rw [hW.out]
        clear hW
        go_wp2_with (first | (go_at_call 71; refine (cC.out _).mono ?_; rintro e w' ⟨rfl, rfl⟩) | (go_at_call 111; refine hal.out.mono ?_; rintro e w' ⟨rfl, rfl⟩))
        go_ret
        exact ⟨by rw [e0.out]; rfl, hbx.out⟩
      | some l =>
        rw [hb] at hal
        obtain ⟨k, rfl, h0⟩ := bytesAt_some hb
        have hk := (List.getElem?_eq_some_iff.1 h0).1
        obtain ⟨g, C', A', c', hv, -, -, -, e2, hx⟩ := hM.at_ h0
        rw [show (some l : Option (List Byt)).getD [] = l from rfl] at e2 hx
        subst hv
        have h40 := hx.len
        replace h0 := hide h0
        obtain ⟨n, hn⟩ : ∃ n, Hid (n = bs.length) := ⟨_, hide rfl⟩
        rw [← hn.out] at hk hal ⊢
        obtain ⟨m, hm⟩ : ∃ m, Hid (m = l.length) := ⟨_, hide rfl⟩
        rw [← hm.out] at e2 h40
        have hsp : Hid ((spanS bs t ⟨2, bt, k, off⟩).isSome = decide (0 ≤ off ∧ off + c ≤ m)) := hide (by
          unfold spanS
          rw [if_pos ⟨rfl, by rw [hc.out]; exact c0.out⟩]
          simp only
          rw [hb, hc.out, hm.out]
          by_cases q : 0 ≤ off ∧ off + c ≤ l.length
          · simp [q]
          · simp [q])
        clear h hb hM hx
        by_cases o0 : 0 ≤ off
        · by_cases o1 : off ≤ 4096
          · have e0 : Hid ((spanS bs t ⟨2, bt, k, off⟩).isSome = decide (off + c ≤ (m : Int))) := hide (by rw [hsp.out]; simp [o0])
            go_enter Try.func112, Try.ntmps112
            go_upto_region 1 with (fail)
            rw [hW.out]
            clear hW
            go_wp2_with (first | (go_at_call 71; refine (cC.out _).mono ?_; rintro e w' ⟨rfl, rfl⟩) | (go_at_call 111; refine hal.out.mono ?_; rintro e w' ⟨rfl, rfl⟩))
            go_quiet (fail)
            go_wp2
            go_ret
            exact ⟨by rw [e0.out]; rfl, below_drewN hbx.out _⟩
          · have e0 : Hid ((spanS bs t ⟨2, bt, k, off⟩).isSome = false) := hide (by rw [hsp.out]; exact decide_eq_false (by omega))
            go_enter Try.func112, Try.ntmps112
            go_upto_region 1 with (fail)
            rw [hW.out]
            clear hW
            go_wp2_with (first | (go_at_call 71; refine (cC.out _).mono ?_; rintro e w' ⟨rfl, rfl⟩) | (go_at_call 111; refine hal.out.mono ?_; rintro e w' ⟨rfl, rfl⟩))
            go_ret
            exact ⟨by rw [e0.out]; rfl, hbx.out⟩
        · have e0 : Hid ((spanS bs t ⟨2, bt, k, off⟩).isSome = false) := hide (by rw [hsp.out]; exact decide_eq_false (by omega))
          go_enter Try.func112, Try.ntmps112
          go_upto_region 1 with (fail)
          rw [hW.out]
          clear hW
          go_wp2_with (first | (go_at_call 71; refine (cC.out _).mono ?_; rintro e w' ⟨rfl, rfl⟩) | (go_at_call 111; refine hal.out.mono ?_; rintro e w' ⟨rfl, rfl⟩))
          go_ret
          exact ⟨by rw [e0.out]; rfl, hbx.out⟩
  · have k2' : (kd != 2) = true := bne_iff_ne.2 k2
    have e0 : Hid ((spanS bs t ⟨kd, bt, bl, off⟩).isSome = false) := hide (by unfold spanS; rw [if_neg (by simp only; omega)]; rfl)
    replace k2 := hide k2
    clear h hM
    go_enter Try.func112, Try.ntmps112
    go_upto_region 1 with (fail)
    rw [hW.out]
    clear hW
    go_wp2_with (go_at_call 71; refine (cC.out _).mono ?_; rintro e w' ⟨rfl, rfl⟩)
    go_ret
    exact ⟨by rw [e0.out]; rfl, hbx.out⟩
end Go.Proofs.Ytgkgmeofilkopaa
