/- Layer 9's reference: Set, Free, walked. No condition but a byte within its kind. -/
import Derived.Test.YtgkgmeofilkopaaRwG
namespace Go.Proofs.Ytgkgmeofilkopaa
open Go.RowKit
set_option linter.unusedSimpArgs false
set_option linter.unusedVariables false

def RSetPost (bs : MemS) (i a b : Int) (w : World) (e : Ending) (w' : World) : Prop := ∃ c, e = .returned (.tuple #[c, .bool (setS bs i a b).2]) ∧ RefM w' w.heap.size w'.heap.size c (setS bs i a b).1 ∧ Below w.heap.size w w'
theorem below_five {B q k : Nat} {a w : World} {v0 v1 v2 v3 v4 : Value} (h : Below B a w) (hq : B ≤ q) : Below B a (((((w.setCell ⟨q, k * 5, none⟩ v0).setCell ⟨q, k * 5 + 1, none⟩ v1).setCell ⟨q, k * 5 + 2, none⟩ v2).setCell ⟨q, k * 5 + 3, none⟩ v3).setCell ⟨q, k * 5 + 4, none⟩ v4) := below_put h hq
set_option maxRecDepth 100000 in
set_option maxHeartbeats 6400000 in
theorem rset_any (B E : Nat) (c : Value) (bs : MemS) (i a b : Int) (w : World) (h : RefM w B E c bs) (hs : bs.length ≤ 100000) (hbt : 0 ≤ b ∧ b ≤ 255) :
    Calls Try.prog 96 #[c, .int .i64 i, .int .i64 a, .int .u8 b] w (RSetPost bs i a b w) := by
  have hC := hide (rcopy_any B E c bs w h hs)
  obtain ⟨z, hz⟩ : ∃ z, Hid (sizeS bs i = z) := ⟨_, hide rfl⟩
  have cS : Hid (∀ W', Below w.heap.size w W' → Calls Try.prog 97 #[c, .int .i64 i] W' fun e w' => e = .returned (.int .i64 z) ∧ W' = w') := hide (fun W' h' => by rw [← hz.out]; exact rsize_any B E c bs i W' (h.later h'))
  clear h
  by_cases hin : 0 ≤ a ∧ a < z
  · cases hb : bytesAt bs i with
    | none => exfalso; have h1 := hz.out; unfold sizeS at h1; rw [hb] at h1; simp only at h1; omega
    | some l =>
      obtain ⟨k, rfl, h0⟩ := bytesAt_some hb
      have hk := (List.getElem?_eq_some_iff.1 h0).1
      have hzl : z = (l.length : Int) := by have h1 := hz.out; unfold sizeS at h1; rw [hb] at h1; exact h1.symm
      obtain ⟨j, rfl⟩ := Int.eq_ofNat_of_zero_le hin.1
      have e0 : Hid (setS bs k j b = (bs.set k (some (l.set j ⟨1, b, 0, 0, 0⟩)), true)) := hide (by unfold setS; rw [hb]; simp only; rw [if_pos (by omega)]; rfl)
      obtain ⟨N, hN⟩ : ∃ N, Hid (N = bs.length) := ⟨_, hide rfl⟩
      rw [← hN.out] at hk hs
      obtain ⟨m, hm⟩ : ∃ m, Hid (m = l.length) := ⟨_, hide rfl⟩
      rw [← hm.out] at hzl
      have hjm : j < m := by omega
      have hnl : ¬ ((j : Int) < 0) := by omega
      have hnz : ¬ (z ≤ (j : Int)) := by omega
      replace h0 := hide h0
      replace hin := hide hin
      replace hzl := hide hzl
      clear hb
      go_enter Try.func96, Try.ntmps96
      go_wp2_with fail
      refine hC.out.mono ?_
      rintro e w1 ⟨c1, rfl, hR1, hb1⟩
      obtain ⟨g, C1, A', c', hcc, hg0, hg1, -, e2, hx⟩ := hR1.at_ h0.out
      rw [show (some l : Option (List Byt)).getD [] = l from rfl] at e2 hx
      have hm8 := hx.len
      rw [← hm.out] at e2 hm8
      obtain ⟨q, rfl, hq0, hq1⟩ := hx.some_ (by rw [← hm.out]; omega)
      rw [← hN.out] at hcc
      subst hcc
      obtain ⟨b0, hb0⟩ := get_ex (l := l) (k := j) (by rw [← hm.out]; exact hjm)
      obtain ⟨q', hq', -, -, r0, r1, r2, r3, r4⟩ := hx.own.at_ (k := j) hb0.out
      cases hq'
      have f : ∀ i, w1.frozen? ⟨q, i, none⟩ = false := fun i => World.ownsRow.frozenAt hx.own i
      have f0 := f (j * 5)
      have f1 := f (j * 5 + 1)
      have f2 := f (j * 5 + 2)
      have f3 := f (j * 5 + 3)
      have f4 := f (j * 5 + 4)
      have hput := RefM.byte (j := j) (b := ⟨1, b, 0, 0, 0⟩) (q := q) (c := c') hR1 h0.out ⟨g, C1, by rw [← hN.out], by rw [← hm.out]; exact e2⟩ (by rw [← hm.out]; exact hjm) hbt rfl
      have hbf := hide (below_five (q := q) (k := j) (v0 := .int .i64 1) (v1 := .int .u8 b) (v2 := .int .i64 0) (v3 := .int .i64 0) (v4 := .int .i64 0) hb1 hput.2)
      replace hput := hide hput.1
      clear f hx hR1
      go_wp2_with (go_at_call 97; refine (cS.out w1 hb1).mono ?_; rintro e w' ⟨rfl, rfl⟩)
      go_ret2
      exact ⟨_, by rw [e0.out]; rfl, by rw [e0.out]; exact hput.out.mono (Nat.le_refl _), hbf.out⟩
  · have e0 : Hid (setS bs i a b = (bs, false)) := hide (by
      unfold setS
      cases hb : bytesAt bs i with
      | none => rfl
      | some l =>
        have hzl : z = (l.length : Int) := by have h1 := hz.out; unfold sizeS at h1; rw [hb] at h1; exact h1.symm
        simp only
        rw [if_neg (by omega)])
    by_cases h0 : a < 0
    · replace hin := hide hin
      go_enter Try.func96, Try.ntmps96
      go_wp2_with fail
      refine hC.out.mono ?_
      rintro e w1 ⟨c1, rfl, hR1, hb1⟩
      replace hR1 := hide hR1
      replace hb1 := hide hb1
      go_wp2
      go_ret2
      exact ⟨_, by rw [e0.out]; rfl, by rw [e0.out]; exact hR1.out, hb1.out⟩
    · have h1 : z ≤ a := by omega
      replace hin := hide hin
      go_enter Try.func96, Try.ntmps96
      go_wp2_with fail
      refine hC.out.mono ?_
      rintro e w1 ⟨c1, rfl, hR1, hb1⟩
      replace hR1 := hide hR1
      go_wp2_with (go_at_call 97; refine (cS.out w1 hb1).mono ?_; rintro e w' ⟨rfl, rfl⟩)
      go_ret2
      exact ⟨_, by rw [e0.out]; rfl, by rw [e0.out]; exact hR1.out, hb1⟩
set_option maxRecDepth 100000 in
set_option maxHeartbeats 6400000 in
theorem rfree_any (B E : Nat) (c : Value) (bs : MemS) (i : Int) (w : World) (h : RefM w B E c bs) (hs : bs.length ≤ 100000) :
    Calls Try.prog 93 #[c, .int .i64 i] w (RNewPost (freeS bs i) w) := by
  have hC := hide (rcopy_any B E c bs w h hs)
  have cA : Hid (∀ W', Below w.heap.size w W' → Calls Try.prog 111 #[c, .int .i64 i] W' fun e w' => e = .returned (.bool (bytesAt bs i).isSome) ∧ W' = w') := hide (fun W' h' => ralive_any B E c bs i W' (h.later h'))
  clear h
  cases hb : bytesAt bs i with
  | none =>
    rw [hb] at cA
    have e0 : Hid (freeS bs i = bs) := hide (by unfold freeS; rw [hb])
    clear hb
    go_enter Try.func93, Try.ntmps93
    go_wp2_with fail
    refine hC.out.mono ?_
    rintro e w1 ⟨c1, rfl, hR1, hb1⟩
    replace hR1 := hide hR1
    go_wp2_with (go_at_call 111; refine (cA.out w1 hb1).mono ?_; rintro e w' ⟨rfl, rfl⟩)
    go_ret
    exact ⟨c1, rfl, by rw [e0.out]; exact hR1.out, hb1⟩
  | some l =>
    rw [hb] at cA
    have e0 : Hid (freeS bs i = (bs.set i.toNat none).map (Option.map (List.map (cleanB i)))) := hide (by unfold freeS; rw [hb])
    obtain ⟨k, rfl, h0⟩ := bytesAt_some hb
    have hk := (List.getElem?_eq_some_iff.1 h0).1
    obtain ⟨N, hN⟩ : ∃ N, Hid (N = bs.length) := ⟨_, hide rfl⟩
    rw [← hN.out] at hk hs
    obtain ⟨bs1, hbs1⟩ : ∃ bs1, Hid (bs1 = bs.set k none) := ⟨_, hide rfl⟩
    have hl1 : Hid (bs1.length = N) := hide (by rw [hbs1.out, List.length_set, hN.out])
    replace h0 := hide h0
    clear hb
    go_enter Try.func93, Try.ntmps93
    go_wp2_with fail
    refine hC.out.mono ?_
    rintro e w1 ⟨c1, rfl, hR1, hb1⟩
    obtain ⟨g, C1, A', c', hcc, hg0, hg1, x0, x1, -⟩ := hR1.at_ h0.out
    subst hcc
    have f0 := hR1.free_ (k * 2)
    have f1 := hR1.free_ (k * 2 + 1)
    obtain ⟨hR2, -⟩ := hR1.drop (k := k) (by rw [← hN.out]; exact hk)
    rw [← hbs1.out, ← hN.out] at hR2
    have hb2 := hide ((hb1.setCell (p := ⟨g, k * 2, none⟩) hg0 (.bool false)).setCell (p := ⟨g, k * 2 + 1, none⟩) hg0 (.slice none 0 0))
    replace hR2 := hide hR2
    rw [← hN.out]
    obtain ⟨E1, hE1⟩ : ∃ E1, Hid (E1 = w1.heap.size) := ⟨_, hide rfl⟩
    rw [← hE1.out] at hR2
    clear hR1
    go_upto_region 6 with (go_at_call 111; refine (cA.out w1 hb1).mono ?_; rintro e w' ⟨rfl, rfl⟩)
    obtain ⟨w2, hw2⟩ : ∃ w2, w2 = (w1.setCell ⟨g, k * 2, none⟩ (.bool false)).setCell ⟨g, k * 2 + 1, none⟩ (.slice none 0 0) := ⟨_, rfl⟩
    rw [← hw2] at hb2 hR2 ⊢
    clear hw2 x0 x1 f0 f1 hb1
    go_wp2_with fail
    go_loopw [7] (fun u7 wr => ∃ j : Nat, j ≤ N ∧ u7 = .int .i64 j ∧ Hid (RefM wr w.heap.size E1 (.slice (some ⟨g, 0, none⟩) N C1) (freeTo k j bs1)) ∧ Hid (Below w.heap.size w wr)) (fun u7 _ => N - (intOf u7).toNat)
    case atStart => exact ⟨0, Nat.zero_le _, rfl, hide (by rw [freeTo_zero]; exact hR2.out), hb2⟩
    case round =>
      obtain ⟨k2, hk2, rfl, hR, hbel⟩ := hrel
      by_cases hlt : k2 < N
      · obtain ⟨y, hy⟩ := get_ex (l := bs1) (k := k2) (by rw [hl1.out]; exact hlt)
        have hy2 := freeTo_at (i := k) (k := k2) hy.out
        cases y with
        | none =>
          obtain ⟨g', C', A', c', hcc, -, -, -, x1, -⟩ := hR.out.at_ hy2
          cases hcc
          rw [show ((none : Option (List Byt)).getD []).length = 0 from rfl] at x1
          have hft := hide (freeTo_none (i := k) hy.out)
          replace hy2 := hide hy2
          go_wp2_with fail
          go_loopw [8] (fun u8 w' => u8 = .int .i64 0 ∧ w' = wr) (fun _ _ => 0)
          case atStart => exact ⟨rfl, rfl⟩
          case round =>
            obtain ⟨rfl, rfl⟩ := hrel
            go_wp2
            go_roundw
            case rel => exact ⟨k2 + 1, by omega, by go_num, by rw [hft.out]; exact hR, hbel⟩
            case measure => simp [intOf]; omega
        | some l2 =>
          have hst := hide (freeTo_set (i := k) hy.out)
          obtain ⟨m, hm⟩ : ∃ m, Hid (m = l2.length) := ⟨_, hide rfl⟩
          rw [← hm.out] at hst
          have hR3 : Hid (RefM wr w.heap.size E1 (.slice (some ⟨g, 0, none⟩) N C1) ((freeTo k k2 bs1).set k2 (some (cleanTo k 0 l2)))) := hide (by rw [cleanTo_zero, set_self hy2]; exact hR.out)
          have hget : Hid (∀ x, ((freeTo k k2 bs1).set k2 (some x))[k2]? = some (some x)) := hide (fun x => List.getElem?_set_self (by rw [freeTo_len, hl1.out]; exact hlt))
          have hlen : Hid (∀ x, ((freeTo k k2 bs1).set k2 (some x)).length = N) := hide (fun x => by rw [List.length_set, freeTo_len, hl1.out])
          replace hy2 := hide hy2
          go_wp2_with fail
          go_loopw [8] (fun u8 wr => ∃ j : Nat, j ≤ m ∧ u8 = .int .i64 j ∧ Hid (RefM wr w.heap.size E1 (.slice (some ⟨g, 0, none⟩) N C1) ((freeTo k k2 bs1).set k2 (some (cleanTo k j l2)))) ∧ Hid (Below w.heap.size w wr)) (fun u8 _ => m - (intOf u8).toNat)
          case atStart => exact ⟨0, Nat.zero_le _, rfl, hR3, hbel⟩
          case round =>
            clear hR3 hR
            obtain ⟨j, hj, rfl, hR4, hb4⟩ := hrel
            obtain ⟨g', C', A', c', hcc, hg0', -, -, x1, hx⟩ := hR4.out.at_ (hget.out _)
            rw [hlen.out] at hcc
            cases hcc
            rw [show (some (cleanTo k j l2) : Option (List Byt)).getD [] = cleanTo k j l2 from rfl] at x1 hx
            have hclen : Hid ((cleanTo k j l2).length = m) := hide (by rw [cleanTo_len, hm.out])
            have hm8 := hx.len
            rw [hclen.out] at x1 hm8
            by_cases hlt2 : j < m
            · obtain ⟨d, hd⟩ := get_ex (l := l2) (k := j) (by rw [← hm.out]; exact hlt2)
              obtain ⟨q, hq, -, -, r0, r1, r2, r3, r4⟩ := hx.own.at_ (cleanTo_at (i := k) hd.out)
              subst hq
              by_cases t1 : d.kind = 2
              · by_cases t2 : d.block = k
                · have f : ∀ i, wr.frozen? ⟨q, i, none⟩ = false := fun i => World.ownsRow.frozenAt hx.own i
                  have f0 := f (j * 5)
                  have f1 := f (j * 5 + 1)
                  have f2 := f (j * 5 + 2)
                  have f3 := f (j * 5 + 3)
                  have f4 := f (j * 5 + 4)
                  have hput := RefM.byte (j := j) (b := zb) (q := q) (c := c') hR4.out (hget.out _) ⟨g, C1, by rw [hlen.out], by rw [hclen.out]; exact x1⟩ (by rw [hclen.out]; exact hlt2) (okB_zb _ rfl) rfl
                  rw [List.set_set, ← cleanTo_put hd.out ⟨t1, t2⟩] at hput
                  have hbf := hide (below_five (q := q) (k := j) (v0 := .int .i64 0) (v1 := .int .u8 0) (v2 := .int .i64 0) (v3 := .int .i64 0) (v4 := .int .i64 0) hb4.out hput.2)
                  replace hput := hide hput.1
                  have g1 : (d.kind == 2) = true := beq_iff_eq.2 t1
                  have g2 : (d.block == (k : Int)) = true := beq_iff_eq.2 t2
                  replace t1 := hide t1
                  replace t2 := hide t2
                  clear f hx
                  go_wp2
                  go_roundw
                  case rel => exact ⟨j + 1, by omega, by go_num, hput, hbf⟩
                  case measure => simp [intOf]; omega
                · have hsk := hide (cleanTo_skip hd.out (fun hh => t2 hh.2) : cleanTo k (j + 1) l2 = cleanTo k j l2)
                  have g1 : (d.kind == 2) = true := beq_iff_eq.2 t1
                  have g2 : (d.block == (k : Int)) = false := beq_eq_false_iff_ne.2 t2
                  replace t1 := hide t1
                  replace t2 := hide t2
                  clear hx
                  go_wp2
                  go_roundw
                  case rel => exact ⟨j + 1, by omega, by go_num, by rw [hsk.out]; exact hR4, hb4⟩
                  case measure => simp [intOf]; omega
              · have hsk := hide (cleanTo_skip hd.out (fun hh => t1 hh.1) : cleanTo k (j + 1) l2 = cleanTo k j l2)
                have g1 : (d.kind == 2) = false := beq_eq_false_iff_ne.2 t1
                replace t1 := hide t1
                clear hx
                go_wp2
                go_roundw
                case rel => exact ⟨j + 1, by omega, by go_num, by rw [hsk.out]; exact hR4, hb4⟩
                case measure => simp [intOf]; omega
            · obtain rfl : j = m := by omega
              rw [hst.out] at hR4
              clear hx
              go_wp2
              go_roundw
              case rel => exact ⟨k2 + 1, by omega, by go_num, hR4, hb4⟩
              case measure => simp [intOf]; omega
      · obtain rfl : k2 = N := by omega
        rw [← hl1.out, freeTo_full, hbs1.out] at hR
        rw [← hbs1.out, hl1.out] at hR
        go_wp2
        go_ret
        exact ⟨_, rfl, by rw [e0.out, Int.toNat_natCast, ← hbs1.out]; exact hR.out.mono (Nat.le_refl _), hbel.out⟩
end Go.Proofs.Ytgkgmeofilkopaa
