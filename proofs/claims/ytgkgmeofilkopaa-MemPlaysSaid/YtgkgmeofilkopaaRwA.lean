/- Layer 9's reference: bound, filled, Alive, Size, Bytes, walked. No condition but numbers within their kinds. -/
import Derived.Test.YtgkgmeofilkopaaRm
namespace Go.Proofs.Ytgkgmeofilkopaa
open Go.RowKit
set_option linter.unusedSimpArgs false
set_option linter.unusedVariables false

theorem bound_any (n : Int) (W : World) : Calls Try.prog 109 #[.int .i64 n] W fun e w' => e = .returned (.int .i64 (sizedS n)) ∧ W = w' := by
  by_cases h0 : n < 0
  · have e : Hid (sizedS n = 0) := hide (by unfold sizedS; omega)
    go_enter Try.func109, Try.ntmps109
    go_wp2
    all_goals go_ret
    all_goals exact ⟨ret_int (by rw [e.out]; try omega), rfl⟩
  · by_cases h1 : 4096 < n
    · have e : Hid (sizedS n = 4096) := hide (by unfold sizedS; omega)
      go_enter Try.func109, Try.ntmps109
      go_wp2
      all_goals go_ret
      all_goals exact ⟨ret_int (by rw [e.out]; try omega), rfl⟩
    · have e : Hid (sizedS n = n) := hide (by unfold sizedS; omega)
      go_enter Try.func109, Try.ntmps109
      go_wp2
      all_goals go_ret
      all_goals exact ⟨ret_int (by rw [e.out]; try omega), rfl⟩
/-- a block of m bytes b -/
def FillPost (m : Nat) (b : Byt) (w : World) (e : Ending) (w' : World) : Prop := ∃ A c, e = .returned (.agg #[.bool true, .slice A m c]) ∧ OwnB w' w.heap.size (.slice A m c) (List.replicate m b) ∧ Below w.heap.size w w'
set_option maxRecDepth 100000 in
set_option maxHeartbeats 3200000 in
theorem filled_any (n : Int) (b : Byt) (w : World) : Calls Try.prog 91 #[.int .i64 n, .agg #[.int .i64 b.kind, .int .u8 b.bits, .int .i64 b.block, .int .i64 b.off, .int .i64 b.i]] w (FillPost (sizedS n).toNat b w) := by
  obtain ⟨m, hm⟩ : ∃ m : Nat, Hid ((sizedS n).toNat = m) := ⟨_, hide rfl⟩
  have hm8 : m ≤ 4096 := by have := hm.out; unfold sizedS at this; omega
  have cS : Hid (∀ W, Calls Try.prog 109 #[.int .i64 n] W fun e w' => e = .returned (.int .i64 (m : Int)) ∧ W = w') := hide (fun W => by
    have h1 := bound_any n W
    have h2 : sizedS n = (m : Int) := by have := hm.out; unfold sizedS at *; omega
    rwa [h2] at h1)
  rw [hm.out]
  obtain ⟨W, hW, hwW, hWs, q1, q2⟩ := boxes2 w #[.int .i64 b.kind, .int .u8 b.bits, .int .i64 b.block, .int .i64 b.off, .int .i64 b.i] #[.bool false, .slice none 0 0] 54 137
  have hR : W.heap[w.heap.size + 1]? = some (.cells #[.bool false, .slice none 0 0] 137 (0, 0)) := by
    rw [← hW]
    have := box_top (w.alloc (.cells #[.int .i64 b.kind, .int .u8 b.bits, .int .i64 b.block, .int .i64 b.off, .int .i64 b.i] 54)) (.cells #[.bool false, .slice none 0 0] 137)
    simpa using this
  have y0 := q1 0 _ rfl
  have y1 := q1 1 _ rfl
  have y2 := q1 2 _ rfl
  have y3 := q1 3 _ rfl
  have y4 := q1 4 _ rfl
  clear q1 q2
  have hws : w.heap.size + 1 < W.heap.size := by omega
  replace hWs := hide hWs
  replace hR := hide hR
  replace hwW := hide hwW
  replace hW := hide hW
  obtain ⟨i0, hi0, hz0, hz1, hz2⟩ := info_parts info_Byte
  replace hi0 := hide hi0
  replace hz0 := hide hz0
  replace hz1 := hide hz1
  replace hz2 := hide hz2
  have hself := Below.refl W.heap.size W
  go_enter Try.func91, Try.ntmps91
  go_upto_region 1 with (fail)
  rw [hW.out]
  clear hW
  go_wp2_with fail
  go_loopw [5, 6] (fun u5 u6 wr => ∃ k : Nat, k ≤ m ∧ u6 = .int .i64 k ∧ Hid (OwnB wr W.heap.size u5 (List.replicate k b)) ∧ Below W.heap.size W wr) (fun _ u6 _ => m - (intOf u6).toNat)
  case atStart => exact ⟨0, Nat.zero_le _, rfl, hide ⟨rfl, .inl ⟨rfl, rfl⟩⟩, hself⟩
  case round =>
    clear hself
    obtain ⟨k, hk, rfl, hO, hbel⟩ := hrel
    by_cases hlt : k < m
    · have hown := hO.out
      unfold OwnB at hown
      rw [List.length_replicate] at hown
      replace hown := hide hown
      have hsn : Hid ((List.replicate k b).flatMap bc ++ bc b = (List.replicate (k + 1) b).flatMap bc) := hide (by rw [List.replicate_succ', List.flatMap_append]; simp)
      have hbs := hbel.size
      go_wp2_with (first
        | (go_at_call 109; refine (cS.out _).mono ?_; rintro e w' ⟨rfl, rfl⟩)
        | (at_builtin
           refine wpList_append_own _ rfl (.tmp 13) (.tmp 15) _ rfl W.heap.size 54 i0 _ 5 40 Try.underlying48 hi0.out hz0.out hz1.out hz2.out rfl (by omega) u5 _ _ rfl (hown.out.alloc _) ⟨wr.heap.size, 0, none⟩ 1 1 (bc b) rfl rfl ?c1 ?c2 ?c3 ?c4 ?c5 ?_
           case c1 => exact World.news_of_block (cs := #[.int .i64 b.kind, .int .u8 b.bits, .int .i64 b.block, .int .i64 b.off, .int .i64 b.i]) (t := 54) (fr := (0, 0)) (heap_alloc_new wr _)
           case c2 => simp [Value.oneCell', bc]
           case c3 => unfold maxLen; omega
           case c4 => omega
           case c5 => simp; omega
           intro v1 w1 hown1 hg1 _
           rw [hsn.out] at hown1
           have hb1 : Below W.heap.size W w1 := (hbel.alloc hbs _).grown hg1 (by simp; omega) (fun j hj => (own_lt hown.out hj).1)
           have hO1 : Hid (OwnB w1 W.heap.size v1 (List.replicate (k + 1) b)) := hide (by unfold OwnB; rw [List.length_replicate]; exact hown1)
           clear hown1 hg1))
      go_roundw
      case rel => exact ⟨k + 1, by omega, by go_num, hO1, hb1⟩
      case measure => simp [intOf]; omega
    · obtain rfl : k = m := by omega
      have hRx := hide ((hbel.block (w.heap.size + 1) hws).trans hR.out)
      obtain ⟨r0, r1⟩ : wr.cell? ⟨w.heap.size + 1, 0, none⟩ = some (.bool false) ∧ wr.cell? ⟨w.heap.size + 1, 1, none⟩ = some (.slice none 0 0) := by simp [World.cell?, hRx.out]
      have s0 := one_free (j := 0) hRx.out
      have s1 := one_free (j := 1) hRx.out
      obtain ⟨A5, c5, rfl⟩ : ∃ A5 c5, u5 = .slice A5 k c5 := by
        have hown := hO.out
        unfold OwnB at hown
        rw [List.length_replicate] at hown
        rcases hown.2 with ⟨h1, h2⟩ | ⟨g, cp, cur, h1, h2, _⟩
        · exact ⟨none, 0, by rw [h1]; congr 1; omega⟩
        · exact ⟨_, cp, h1⟩
      replace hbel := hide hbel
      go_wp2_with (go_at_call 109; refine (cS.out _).mono ?_; rintro e w' ⟨rfl, rfl⟩)
      refine bodyPost_ret (v := .agg #[.bool true, .slice A5 k c5]) (by simp [results, Try.results91, go_sem, r0, r1, s0, s1]) rfl ⟨A5, c5, rfl, ?_, ?_⟩
      · refine OwnB.mono (ownsRow_kept hO.out fun j hj => ?_) (by omega)
        have hj2 := (own_lt hO.out hj).1
        have hne : j ≠ w.heap.size + 1 := by omega
        rw [Below.heap_setCell _ _ _ _ hne, Below.heap_setCell _ _ _ _ hne]
      · exact (((hwW.out.trans (hbel.out.mono (by omega))).setCell (p := ⟨w.heap.size + 1, 0, none⟩) (Nat.le_succ _) _).setCell (p := ⟨w.heap.size + 1, 1, none⟩) (Nat.le_succ _) _)
theorem ralive_any (B E : Nat) (v : Value) (bs : MemS) (i : Int) (w : World) (h : RefM w B E v bs) :
    Calls Try.prog 111 #[v, .int .i64 i] w fun e w' => e = .returned (.bool (bytesAt bs i).isSome) ∧ w = w' := by
  obtain ⟨A, C, rfl⟩ := h.form
  by_cases i0 : 0 ≤ i
  · obtain ⟨k, rfl⟩ := Int.eq_ofNat_of_zero_le i0
    by_cases hk : k < bs.length
    · obtain ⟨b, hb⟩ : ∃ b, bs[k]? = some b := ⟨_, List.getElem?_eq_getElem hk⟩
      have e0 : Hid ((bytesAt bs k).isSome = b.isSome) := hide (by unfold bytesAt; rw [if_pos (by omega)]; simp [hb])
      obtain ⟨g, C', A', c', hv, -, -, c1, -, -⟩ := h.at_ hb
      cases hv
      replace hb := hide hb
      obtain ⟨n, hn⟩ : ∃ n, Hid (n = bs.length) := ⟨_, hide rfl⟩
      rw [← hn.out] at hk ⊢
      clear h
      go_enter Try.func111, Try.ntmps111
      go_wp2
      go_ret
      exact ⟨by rw [e0.out]; rfl, rfl⟩
    · have e0 : Hid ((bytesAt bs k).isSome = false) := hide (by unfold bytesAt; rw [if_pos (by omega)]; simp [List.getElem?_eq_none (Nat.le_of_not_lt hk)])
      obtain ⟨n, hn⟩ : ∃ n, Hid (n = bs.length) := ⟨_, hide rfl⟩
      rw [← hn.out] at hk ⊢
      have hk2 : ¬ ((k : Int) < (n : Int)) := by omega
      clear h hk
      go_enter Try.func111, Try.ntmps111
      go_wp2
      go_ret
      exact ⟨by rw [e0.out]; rfl, rfl⟩
  · have e0 : Hid ((bytesAt bs i).isSome = false) := hide (by unfold bytesAt; rw [if_neg i0]; rfl)
    have e1 : (i ≥ 0) = False := by simp; omega
    clear h
    go_enter Try.func111, Try.ntmps111
    go_wp2
    go_ret
    exact ⟨by rw [e0.out]; rfl, rfl⟩
theorem rsize_any (B E : Nat) (v : Value) (bs : MemS) (i : Int) (w : World) (h : RefM w B E v bs) :
    Calls Try.prog 97 #[v, .int .i64 i] w fun e w' => e = .returned (.int .i64 (sizeS bs i)) ∧ w = w' := by
  have hal := hide (ralive_any B E v bs i w h)
  cases hb : bytesAt bs i with
  | none =>
    rw [hb] at hal
    have e0 : Hid (sizeS bs i = -1) := hide (by unfold sizeS; rw [hb])
    clear h hb
    go_enter Try.func97, Try.ntmps97
    go_wp2_with (go_at_call 111; refine hal.out.mono ?_; rintro e w' ⟨rfl, rfl⟩)
    go_ret
    exact ⟨ret_int e0.out.symm, rfl⟩
  | some l =>
    rw [hb] at hal
    have e0 : Hid (sizeS bs i = l.length) := hide (by unfold sizeS; rw [hb])
    obtain ⟨k, rfl, h0⟩ := bytesAt_some hb
    have hk := (List.getElem?_eq_some_iff.1 h0).1
    obtain ⟨g, C', A', c', hv, -, -, -, c2, -⟩ := h.at_ h0
    rw [show (some l : Option (List Byt)).getD [] = l from rfl] at c2
    subst hv
    replace h0 := hide h0
    obtain ⟨n, hn⟩ : ∃ n, Hid (n = bs.length) := ⟨_, hide rfl⟩
    rw [← hn.out] at hk hal ⊢
    clear h hb
    go_enter Try.func97, Try.ntmps97
    go_wp2_with (go_at_call 111; refine hal.out.mono ?_; rintro e w' ⟨rfl, rfl⟩)
    go_ret
    exact ⟨ret_int e0.out.symm, rfl⟩
set_option maxRecDepth 100000 in
theorem rbytes_any (B E : Nat) (v : Value) (bs : MemS) (i : Int) (w : World) (h : RefM w B E v bs) :
    Calls Try.prog 98 #[v, .int .i64 i] w (BytesPost (bytesS bs i) w) := by
  have hal := hide (ralive_any B E v bs i w h)
  cases hb : bytesAt bs i with
  | none =>
    rw [hb] at hal
    have e0 : Hid (bytesS bs i = []) := hide (by unfold bytesS; rw [hb]; rfl)
    clear h hb
    go_enter Try.func98, Try.ntmps98
    go_wp2_with (go_at_call 111; refine hal.out.mono ?_; rintro e w' ⟨rfl, rfl⟩)
    go_ret
    rw [e0.out]
    exact bytes_nil w
  | some l =>
    rw [hb] at hal
    have e0 : Hid (bytesS bs i = l) := hide (by unfold bytesS; rw [hb]; rfl)
    obtain ⟨k, rfl, h0⟩ := bytesAt_some hb
    have hk := (List.getElem?_eq_some_iff.1 h0).1
    obtain ⟨g, C', A', c', hv, -, -, -, c2, hx⟩ := h.at_ h0
    rw [show (some l : Option (List Byt)).getD [] = l from rfl] at c2 hx
    subst hv
    have hnone : Hid (A' = none → l.length = 0) := hide (fun e => by
      subst e
      rcases hx.own.2 with ⟨_, h1⟩ | ⟨g, c, cur, h1, _⟩
      · exact h1
      · cases h1)
    have hnews : Hid (∀ ad, A' = some ad → ∀ j u, (l.flatMap bc)[j]? = some u → w.cell? (ad.add j) = some u) := hide (fun ad had j u hu => by
      subst had
      rcases hx.own.2 with ⟨h1, _⟩ | ⟨g, c, cur, h1, _⟩
      · cases h1
      · cases h1
        rw [show (⟨g, 0, none⟩ : Addr).add j = ⟨g, j, none⟩ by rw [Addr.add_mid, Nat.zero_add]]
        rw [World.ownsRow.cellAt hx.own j (by have := (List.getElem?_eq_some_iff.1 hu).1; rw [flat_len] at this; exact this)]
        exact hu)
    have hm := hx.len
    obtain ⟨i0, hi0, hz0, hz1, hz2⟩ := info_parts info_Byte
    replace hi0 := hide hi0
    replace hz0 := hide hz0
    replace hz1 := hide hz1
    replace hz2 := hide hz2
    have hown0 : Hid (w.ownsRow w.heap.size 54 5 (.slice none 0 0) 0 []) := hide ⟨rfl, .inl ⟨rfl, rfl⟩⟩
    replace h0 := hide h0
    obtain ⟨n, hn⟩ : ∃ n, Hid (n = bs.length) := ⟨_, hide rfl⟩
    rw [← hn.out] at hk hal ⊢
    obtain ⟨m, hm'⟩ : ∃ m, Hid (m = l.length) := ⟨_, hide rfl⟩
    rw [← hm'.out] at c2 hm hnone
    clear h hb hx
    go_enter Try.func98, Try.ntmps98
    go_wp2_with (first
      | (go_at_call 111; refine hal.out.mono ?_; rintro e w' ⟨rfl, rfl⟩)
      | (at_builtin; refine wpList_append_any _ rfl (.tmp 11) (.tmp 16) _ rfl w.heap.size 54 i0 _ 5 40 Try.underlying48 hi0.out hz0.out hz1.out hz2.out rfl (by omega) (.slice none 0 0) 0 [] rfl hown0.out A' m c' (l.flatMap bc) rfl (by first | (rw [flat_len, ← hm'.out]) | (have h := flat_len l; rw [List.length_flatMap] at h; rw [h, ← hm'.out])) hnone.out hnews.out (bc_one _) (by unfold maxLen; omega) (by omega) (Nat.le_refl _) ?_; intro v1 Y hownY hgY; replace hownY := hide hownY; replace hgY := hide hgY))
    have hbY : Hid (Below w.heap.size w Y) := hide ((Below.refl _ _).grown hgY.out (Nat.le_refl _) (fun k hk => by cases hk))
    obtain ⟨A1, c1, rfl⟩ : ∃ A1 c1, v1 = .slice A1 m c1 := by
      rcases hownY.out.2 with ⟨h1, h2⟩ | ⟨g, cp, cur, h1, h2, _⟩
      · exact ⟨none, 0, by rw [h1]; congr 1; omega⟩
      · exact ⟨_, cp, by first | (rw [h1]; done) | (rw [h1]; congr 1; omega)⟩
    go_wp2
    go_ret
    rw [e0.out]
    refine ⟨A1, c1, by rw [← hm'.out]; rfl, ?_, hbY.out⟩
    have := hownY.out
    unfold OwnB
    rw [← hm'.out]
    simpa using this
end Go.Proofs.Ytgkgmeofilkopaa
