/- lathelaw09.MemApart, walked. No condition but numbers within their kinds. -/
import Derived.Test.YtgkgmeofilkopaaMwS
import Derived.Test.YtgkgmeofilkopaaMwN
import Derived.Test.YtgkgmeofilkopaaMwL
namespace Go.Proofs.Ytgkgmeofilkopaa
open Go.RowKit
set_option linter.unusedSimpArgs false
set_option linter.unusedVariables false

/-- three memories that have nothing in common -/
structure Three (w : World) (base : Nat) (ga gb gc : Nat) (A B C : MemS) : Prop where
  size : base ≤ w.heap.size
  apart : ∃ Fa Fb Fc : Nat → Prop, MemIs w ga Fa A ∧ MemIs w gb Fb B ∧ MemIs w gc Fc C ∧ (∀ k, Fa k → base ≤ k ∧ ¬ Fb k ∧ ¬ Fc k) ∧ (∀ k, Fb k → base ≤ k ∧ ¬ Fc k ∧ ¬ Fa k) ∧ (∀ k, Fc k → base ≤ k ∧ ¬ Fa k ∧ ¬ Fb k)
theorem Three.rot {w : World} {base ga gb gc : Nat} {A B C : MemS} (h : Three w base ga gb gc A B C) : Three w base gb gc ga B C A := by
  obtain ⟨hs, Fa, Fb, Fc, h1, h2, h3, h4, h5, h6⟩ := h
  exact ⟨hs, Fb, Fc, Fa, h2, h3, h1, h5, h6, h4⟩
theorem Three.step {w : World} {base ga gb gc : Nat} {A B C : MemS} (h : Three w base ga gb gc A B C) : ∃ F : Nat → Prop, MemIs w ga F A ∧ ∀ (w' : World) (F' : Nat → Prop) (A' : MemS), MemIs w' ga F' A' → (∀ k, F' k → F k ∨ w.heap.size ≤ k) → Upd F w w' → Three w' base ga gb gc A' B C ∧ Below base w w' := by
  obtain ⟨hs, Fa, Fb, Fc, h1, h2, h3, h4, h5, h6⟩ := h
  refine ⟨Fa, h1, fun w' F' A' hM hF hU => ⟨⟨Nat.le_trans hs hU.size, F', Fb, Fc, hM, h2.kept (fun k hk => hU.block k (h2.lt k hk) (h5 k hk).2.2) hU.size, h3.kept (fun k hk => hU.block k (h3.lt k hk) (h6 k hk).2.1) hU.size, fun k hk => ?_, fun k hk => ⟨(h5 k hk).1, (h5 k hk).2.1, fun hf => ?_⟩, fun k hk => ⟨(h6 k hk).1, fun hf => ?_, (h6 k hk).2.2⟩⟩, hU.below hs fun k hk => (h4 k hk).1⟩⟩
  · rcases hF k hk with hk | hk
    · exact h4 k hk
    · exact ⟨Nat.le_trans hs hk, fun hb => by have := h2.lt k hb; omega, fun hb => by have := h3.lt k hb; omega⟩
  · rcases hF k hf with hf | hf
    · exact (h5 k hk).2.2 hf
    · have := h2.lt k hk; omega
  · rcases hF k hf with hf | hf
    · exact (h6 k hk).2.1 hf
    · have := h3.lt k hk; omega
theorem Three.start {w1 w2 w3 w4 : World} {base ga gb gc : Nat} {A B C : MemS} (hb : base ≤ w1.heap.size) (h12 : Below w1.heap.size w1 w2) (h1 : NewIs w1.heap.size w2 ga A) (h23 : Below w2.heap.size w2 w3) (h2 : NewIs w2.heap.size w3 gb B) (h34 : Below w3.heap.size w3 w4) (h3 : NewIs w3.heap.size w4 gc C) : Three w4 base ga gb gc A B C := by
  obtain ⟨Fa, a1, a2⟩ := h1
  obtain ⟨Fb, b1, b2⟩ := h2
  obtain ⟨Fc, c1, c2⟩ := h3
  have s12 := h12.size
  have s23 := h23.size
  have s34 := h34.size
  refine ⟨by omega, Fa, Fb, Fc, (a1.later h23).later h34, b1.later h34, c1, fun k hk => ?_, fun k hk => ?_, fun k hk => ?_⟩
  · have := a1.lt k hk; have := a2 k hk
    exact ⟨by omega, fun h => by have := b2 k h; omega, fun h => by have := c2 k h; omega⟩
  · have := b1.lt k hk; have := b2 k hk
    exact ⟨by omega, fun h => by have := c2 k h; omega, fun h => by have := a1.lt k h; omega⟩
  · have := c2 k hk
    exact ⟨by omega, fun h => by have := a1.lt k h; omega, fun h => by have := b1.lt k h; omega⟩
theorem play_over {f : MemS → Stp → MemS} {bs : MemS} {l : List Stp} {k : Nat} (h : l.length ≤ k) : play f bs (l.take (k + 1)) = play f bs (l.take k) := by
  rw [List.take_of_length_le h, List.take_of_length_le (by omega)]
theorem same_true2 {l : List Byt} {c d : Value} (w : World) (ha : (Rp.slice 5 RByu).rep w w.heap.size [c] l) (hb : (Rp.slice 5 RByu).rep w w.heap.size [d] l) :
    Calls Try.prog 33 #[c, d] w fun e w' => e = .returned (.bool true) ∧ Below w.heap.size w w' := by
  have := same_any l l c d w ha hb
  rw [decide_eq_true rfl] at this
  exact this
theorem ans_one {bs : MemS} {s : Stp} (h : s.kind = 1) : ansS bs s = bs.length ∧ ((stepK bs s).length : Int) = bs.length + 1 := by
  rw [stepK_len, if_pos h]
  exact ⟨if_pos h, by omega⟩
theorem ans_other {bs : MemS} {s : Stp} (h : s.kind ≠ 1) : ansS bs s = -1 ∧ (stepK bs s).length = bs.length := by
  rw [stepK_len, if_neg h]
  exact ⟨if_neg h, rfl⟩

set_option maxRecDepth 100000 in
set_option maxHeartbeats 12000000 in
theorem law_apart (sizes : List Int) (one two : List Stp) (c0 c1 c2 : Value) (w : World) (hr0 : (Rp.slice 1 RNum).rep w w.heap.size [c0] sizes) (hr1 : (Rp.slice 13 RStp).rep w w.heap.size [c1] one) (hr2 : (Rp.slice 13 RStp).rep w w.heap.size [c2] two) :
    Calls Try.prog 14 #[c0, c1, c2] w fun e w' => e = .returned (.bool true) ∧ Below w.heap.size w w' := by
  have cNew : Hid (∀ W, Below w.heap.size w W → sizes.length ≤ 20 → Calls Try.prog 47 #[c0] W (NewPost sizes W)) := hide (fun W h hl => new_any sizes c0 W (Rp.later (R := Rp.slice 1 RNum) hr0 h h.size) (by omega))
  obtain ⟨A0, cap0, hc0, hl0, -⟩ := Rp.slice_open hr0
  obtain ⟨A1, cap1, hc1, hl1, hs1⟩ := Rp.slice_open hr1
  obtain ⟨A2, cap2, hc2, hl2, hs2⟩ := Rp.slice_open hr2
  cases hc0
  cases hc1
  cases hc2
  clear hr0 hr1 hr2
  replace hs1 := hide hs1
  replace hs2 := hide hs2
  obtain ⟨n, hn⟩ : ∃ n, Hid (n = sizes.length) := ⟨_, hide rfl⟩
  obtain ⟨n1, hn1⟩ : ∃ n1, Hid (n1 = one.length) := ⟨_, hide rfl⟩
  obtain ⟨n2, hn2⟩ : ∃ n2, Hid (n2 = two.length) := ⟨_, hide rfl⟩
  rw [← hn.out] at hl0 cNew ⊢
  rw [← hn1.out] at hl1 ⊢
  rw [← hn2.out] at hl2 ⊢
  by_cases hbig : 20 < (n : Int) ∨ 30 < (n1 : Int) ∨ 30 < (n2 : Int)
  · by_cases e1 : 20 < (n : Int)
    · go_enter Try.func14, Try.ntmps14
      go_wp2_with (go_at_call 30; refine (lives_mem w).mono ?_; rintro e w1 ⟨rfl, hb2⟩; replace hb2 := hide hb2)
      go_ret
      exact ⟨rfl, hb2.out⟩
    · by_cases e2 : 30 < (n1 : Int)
      · replace hbig := hide hbig
        go_enter Try.func14, Try.ntmps14
        go_wp2_with (go_at_call 30; refine (lives_mem w).mono ?_; rintro e w1 ⟨rfl, hb2⟩; replace hb2 := hide hb2)
        go_ret
        exact ⟨rfl, hb2.out⟩
      · have e3 : 30 < (n2 : Int) := by omega
        replace hbig := hide hbig
        go_enter Try.func14, Try.ntmps14
        go_wp2_with (go_at_call 30; refine (lives_mem w).mono ?_; rintro e w1 ⟨rfl, hb2⟩; replace hb2 := hide hb2)
        go_ret
        exact ⟨rfl, hb2.out⟩
  have hn20 : ¬ 20 < (n : Int) := by omega
  have hn30 : ¬ 30 < (n1 : Int) := by omega
  have hn31 : ¬ 30 < (n2 : Int) := by omega
  clear hbig
  go_enter Try.func14, Try.ntmps14
  go_wp2_with fail
  refine (lives_mem w).mono ?_
  rintro e w1 ⟨rfl, hb1⟩
  replace hb1 := hide hb1
  go_wp2_with fail
  refine (cNew.out w1 hb1.out (by omega)).mono ?_
  rintro e w2 ⟨ga, rfl, hNa, hb2⟩
  have hbb2 := hide (hb1.out.trans (hb2.mono hb1.out.size))
  replace hNa := hide hNa
  replace hb2 := hide hb2
  go_wp2_with fail
  refine (cNew.out w2 hbb2.out (by omega)).mono ?_
  rintro e w3 ⟨gb, rfl, hNb, hb3⟩
  have hbb3 := hide (hbb2.out.trans (hb3.mono hbb2.out.size))
  replace hNb := hide hNb
  replace hb3 := hide hb3
  go_wp2_with fail
  refine (cNew.out w3 hbb3.out (by omega)).mono ?_
  rintro e w4 ⟨gc, rfl, hNc, hb4⟩
  have hbb4 : Below w.heap.size w w4 := hbb3.out.trans (hb4.mono hbb3.out.size)
  have hT := hide (Three.start (base := w.heap.size) hb1.out.size hb2.out hNa.out hb3.out hNb.out hb4 hNc)
  clear hNa hNb hNc hb1 hb2 hb3 hb4 hbb2 hbb3 cNew
  go_wp2_with fail
  go_loopw [11, 12] (fun u11 u12 wr => ∃ k : Nat, k ≤ n1 + n2 ∧ u12 = .int .i64 k ∧ u11 = .int .i64 (((play stepK (newS sizes) (one.take k)).length : Nat) - 1) ∧ Hid (Three wr w.heap.size ga gb gc (play stepK (newS sizes) (one.take k)) (play stepK (newS sizes) (two.take k)) (play stepK (newS sizes) (one.take k))) ∧ Below w.heap.size w wr) (fun _ u12 _ => n1 + n2 - (intOf u12).toNat)
  case atStart => exact ⟨0, Nat.zero_le _, rfl, by simp [play, newS_len, hn.out], by simpa [play] using hT, hbb4⟩
  case round =>
    clear hbb4 hT
    obtain ⟨k, hk, rfl, rfl, hT, hbel⟩ := hrel
    have hLA := play_len stepK_len (one.take k) (newS sizes)
    rw [newS_len, ← hn.out, List.length_take] at hLA
    have hLB := play_len stepK_len (two.take k) (newS sizes)
    rw [newS_len, ← hn.out, List.length_take] at hLB
    obtain ⟨A, hA⟩ : ∃ A, Hid (A = play stepK (newS sizes) (one.take k)) := ⟨_, hide rfl⟩
    obtain ⟨B, hB⟩ : ∃ B, Hid (B = play stepK (newS sizes) (two.take k)) := ⟨_, hide rfl⟩
    rw [← hA.out] at hT hLA ⊢
    rw [← hB.out] at hT hLB
    obtain ⟨la, hla⟩ : ∃ la : Int, Hid (la = (A.length : Int) - 1) := ⟨_, hide rfl⟩
    have hla1 : -1 ≤ la ∧ la ≤ 100 := by have := hla.out; omega
    rw [← hla.out]
    have hLA2 : Hid (A.length ≤ 100000) := hide (by omega)
    have hLB2 : Hid (B.length ≤ 100000) := hide (by omega)
    clear hLA hLB
    by_cases blt : k < n2
    · obtain ⟨s2, hgs2⟩ := get_ex (l := two) (k := k) (by rw [← hn2.out]; exact blt)
      obtain ⟨qs2, os2, rfl, hce⟩ := hs2.out (by rw [← hn2.out]; omega)
      obtain ⟨es, -, ⟨rfl, hoks2⟩, hcs⟩ := hce k s2 hgs2.out
      have b0 : ∀ w', Below w.heap.size w w' → w'.cell? ⟨qs2, os2 + k * 13, none⟩ = some (.int .i64 s2.kind) := hcs.at_ 0 rfl
      have b1 : ∀ w', Below w.heap.size w w' → w'.cell? ⟨qs2, os2 + k * 13 + 1, none⟩ = some (.int .i64 s2.a) := hcs.at_ 1 rfl
      have b2 : ∀ w', Below w.heap.size w w' → w'.cell? ⟨qs2, os2 + k * 13 + 2, none⟩ = some (.int .i64 s2.b) := hcs.at_ 2 rfl
      have b3 : ∀ w', Below w.heap.size w w' → w'.cell? ⟨qs2, os2 + k * 13 + 3, none⟩ = some (.int .i64 s2.t) := hcs.at_ 3 rfl
      have b4 : ∀ w', Below w.heap.size w w' → w'.cell? ⟨qs2, os2 + k * 13 + 4, none⟩ = some (.int .i64 s2.v.kind) := hcs.at_ 4 rfl
      have b5 : ∀ w', Below w.heap.size w w' → w'.cell? ⟨qs2, os2 + k * 13 + 5, none⟩ = some (.int .u64 s2.v.bits) := hcs.at_ 5 rfl
      have b6 : ∀ w', Below w.heap.size w w' → w'.cell? ⟨qs2, os2 + k * 13 + 6, none⟩ = some (.int .i64 s2.v.block) := hcs.at_ 6 rfl
      have b7 : ∀ w', Below w.heap.size w w' → w'.cell? ⟨qs2, os2 + k * 13 + 7, none⟩ = some (.int .i64 s2.v.off) := hcs.at_ 7 rfl
      have b8 : ∀ w', Below w.heap.size w w' → w'.cell? ⟨qs2, os2 + k * 13 + 8, none⟩ = some (.int .i64 s2.at_.kind) := hcs.at_ 8 rfl
      have b9 : ∀ w', Below w.heap.size w w' → w'.cell? ⟨qs2, os2 + k * 13 + 9, none⟩ = some (.int .u64 s2.at_.bits) := hcs.at_ 9 rfl
      have b10 : ∀ w', Below w.heap.size w w' → w'.cell? ⟨qs2, os2 + k * 13 + 10, none⟩ = some (.int .i64 s2.at_.block) := hcs.at_ 10 rfl
      have b11 : ∀ w', Below w.heap.size w w' → w'.cell? ⟨qs2, os2 + k * 13 + 11, none⟩ = some (.int .i64 s2.at_.off) := hcs.at_ 11 rfl
      have b12 : ∀ w', Below w.heap.size w w' → w'.cell? ⟨qs2, os2 + k * 13 + 12, none⟩ = some (.int .u8 s2.byte) := hcs.at_ 12 rfl
      clear hce hcs
      have hsB : Hid (play stepK (newS sizes) (two.take (k + 1)) = stepK B s2) := hide (by rw [play_snoc hgs2.out, hB.out])
      by_cases alt : k < n1
      · obtain ⟨s1, hgs1⟩ := get_ex (l := one) (k := k) (by rw [← hn1.out]; exact alt)
        obtain ⟨qs1, os1, rfl, hce⟩ := hs1.out (by rw [← hn1.out]; omega)
        obtain ⟨es, -, ⟨rfl, hoks1⟩, hcs⟩ := hce k s1 hgs1.out
        have a0 : ∀ w', Below w.heap.size w w' → w'.cell? ⟨qs1, os1 + k * 13, none⟩ = some (.int .i64 s1.kind) := hcs.at_ 0 rfl
        have a1 : ∀ w', Below w.heap.size w w' → w'.cell? ⟨qs1, os1 + k * 13 + 1, none⟩ = some (.int .i64 s1.a) := hcs.at_ 1 rfl
        have a2 : ∀ w', Below w.heap.size w w' → w'.cell? ⟨qs1, os1 + k * 13 + 2, none⟩ = some (.int .i64 s1.b) := hcs.at_ 2 rfl
        have a3 : ∀ w', Below w.heap.size w w' → w'.cell? ⟨qs1, os1 + k * 13 + 3, none⟩ = some (.int .i64 s1.t) := hcs.at_ 3 rfl
        have a4 : ∀ w', Below w.heap.size w w' → w'.cell? ⟨qs1, os1 + k * 13 + 4, none⟩ = some (.int .i64 s1.v.kind) := hcs.at_ 4 rfl
        have a5 : ∀ w', Below w.heap.size w w' → w'.cell? ⟨qs1, os1 + k * 13 + 5, none⟩ = some (.int .u64 s1.v.bits) := hcs.at_ 5 rfl
        have a6 : ∀ w', Below w.heap.size w w' → w'.cell? ⟨qs1, os1 + k * 13 + 6, none⟩ = some (.int .i64 s1.v.block) := hcs.at_ 6 rfl
        have a7 : ∀ w', Below w.heap.size w w' → w'.cell? ⟨qs1, os1 + k * 13 + 7, none⟩ = some (.int .i64 s1.v.off) := hcs.at_ 7 rfl
        have a8 : ∀ w', Below w.heap.size w w' → w'.cell? ⟨qs1, os1 + k * 13 + 8, none⟩ = some (.int .i64 s1.at_.kind) := hcs.at_ 8 rfl
        have a9 : ∀ w', Below w.heap.size w w' → w'.cell? ⟨qs1, os1 + k * 13 + 9, none⟩ = some (.int .u64 s1.at_.bits) := hcs.at_ 9 rfl
        have a10 : ∀ w', Below w.heap.size w w' → w'.cell? ⟨qs1, os1 + k * 13 + 10, none⟩ = some (.int .i64 s1.at_.block) := hcs.at_ 10 rfl
        have a11 : ∀ w', Below w.heap.size w w' → w'.cell? ⟨qs1, os1 + k * 13 + 11, none⟩ = some (.int .i64 s1.at_.off) := hcs.at_ 11 rfl
        have a12 : ∀ w', Below w.heap.size w w' → w'.cell? ⟨qs1, os1 + k * 13 + 12, none⟩ = some (.int .u8 s1.byte) := hcs.at_ 12 rfl
        clear hce hcs
        have hsA : Hid (play stepK (newS sizes) (one.take (k + 1)) = stepK A s1) := hide (by rw [play_snoc hgs1.out, hA.out])
        obtain ⟨Fb, hMb, hStep⟩ := hT.out.rot.step
        have cD := hide (do_any gb Fb B s2 wr hMb hoks2 hLB2.out)
        replace hStep := hide hStep
        clear hMb hT
        go_upto_region 15 with (go_at_call 61; refine cD.out.mono ?_; rintro e w5 ⟨rfl, F', hM', hF', hU'⟩; have hS5 := hStep.out w5 F' _ hM' hF' hU'; have hb5 := hbel.trans hS5.2; have hT5 := hide hS5.1.rot.rot; clear hM' hF' hU' hS5)
        clear cD hStep hbel b0 b1 b2 b3 b4 b5 b6 b7 b8 b9 b10 b11 b12
        by_cases k1 : s1.kind = 1
        · have hans := ans_one (bs := A) k1
          have g1 : (s1.kind == 1) = true := beq_iff_eq.2 k1
          rw [show ((A.length : Nat) : Int) = la + 1 by have := hla.out; omega] at hans
          replace k1 := hide k1
          replace hans := hide hans
          obtain ⟨Fa, hMa, hStep⟩ := hT5.out.step
          have cD := hide (do_any ga Fa A s1 _ hMa hoks1 hLA2.out)
          unfold DoPost at cD
          rw [hans.out.1] at cD
          replace hStep := hide hStep
          clear hMa hT5
          go_upto_region 17 with (go_at_call 61; refine cD.out.mono ?_; rintro e w6 ⟨rfl, F', hM', hF', hU'⟩; have hS6 := hStep.out w6 F' _ hM' hF' hU'; have hb6 := hb5.trans hS6.2; have hT6 := hide hS6.1.rot.rot; clear hM' hF' hU' hS6)
          clear cD hStep hb5
          obtain ⟨Fc, hMc, hStep⟩ := hT6.out.step
          have cD := hide (do_any gc Fc A s1 w6 hMc hoks1 hLA2.out)
          unfold DoPost at cD
          rw [hans.out.1] at cD
          replace hStep := hide hStep
          clear hMc hT6
          go_upto_region 18 with (go_at_call 61; refine cD.out.mono ?_; rintro e w7 ⟨rfl, F', hM', hF', hU'⟩; have hS7 := hStep.out w7 F' _ hM' hF' hU'; have hb7 := hb6.trans hS7.2; have hT7 := hide hS7.1.rot; clear hM' hF' hU' hS7)
          clear cD hStep hb6
          go_wp2
          go_roundw
          case rel => exact ⟨k + 1, by omega, by go_num, by rw [hsA.out]; have := hans.out.2; go_num, hide (by rw [hsA.out, hsB.out]; exact hT7.out), hb7⟩
          case measure => simp [intOf]; omega
        · have hans := ans_other (bs := A) k1
          have g1 : (s1.kind == 1) = false := beq_eq_false_iff_ne.2 k1
          replace k1 := hide k1
          replace hans := hide hans
          obtain ⟨Fa, hMa, hStep⟩ := hT5.out.step
          have cD := hide (do_any ga Fa A s1 _ hMa hoks1 hLA2.out)
          unfold DoPost at cD
          rw [hans.out.1] at cD
          replace hStep := hide hStep
          clear hMa hT5
          go_upto_region 17 with (go_at_call 61; refine cD.out.mono ?_; rintro e w6 ⟨rfl, F', hM', hF', hU'⟩; have hS6 := hStep.out w6 F' _ hM' hF' hU'; have hb6 := hb5.trans hS6.2; have hT6 := hide hS6.1.rot.rot; clear hM' hF' hU' hS6)
          clear cD hStep hb5
          obtain ⟨Fc, hMc, hStep⟩ := hT6.out.step
          have cD := hide (do_any gc Fc A s1 w6 hMc hoks1 hLA2.out)
          unfold DoPost at cD
          rw [hans.out.1] at cD
          replace hStep := hide hStep
          clear hMc hT6
          go_upto_region 18 with (go_at_call 61; refine cD.out.mono ?_; rintro e w7 ⟨rfl, F', hM', hF', hU'⟩; have hS7 := hStep.out w7 F' _ hM' hF' hU'; have hb7 := hb6.trans hS7.2; have hT7 := hide hS7.1.rot; clear hM' hF' hU' hS7)
          clear cD hStep hb6
          go_wp2
          go_roundw
          case rel => exact ⟨k + 1, by omega, by go_num, by rw [hsA.out, hans.out.2, hla.out], hide (by rw [hsA.out, hsB.out]; exact hT7.out), hb7⟩
          case measure => simp [intOf]; omega
      · have hsA : Hid (play stepK (newS sizes) (one.take (k + 1)) = A) := hide (by rw [play_over (by rw [← hn1.out]; omega), hA.out])
        obtain ⟨Fb, hMb, hStep⟩ := hT.out.rot.step
        have cD := hide (do_any gb Fb B s2 wr hMb hoks2 hLB2.out)
        replace hStep := hide hStep
        clear hMb hT
        go_upto_region 15 with (go_at_call 61; refine cD.out.mono ?_; rintro e w5 ⟨rfl, F', hM', hF', hU'⟩; have hS5 := hStep.out w5 F' _ hM' hF' hU'; have hb5 := hbel.trans hS5.2; have hT5 := hide hS5.1.rot.rot; clear hM' hF' hU' hS5)
        clear cD hStep hbel b0 b1 b2 b3 b4 b5 b6 b7 b8 b9 b10 b11 b12
        go_wp2
        go_roundw
        case rel => exact ⟨k + 1, by omega, by go_num, by rw [hsA.out, hla.out], hide (by rw [hsA.out, hsB.out]; exact hT5.out), hb5⟩
        case measure => simp [intOf]; omega
    · have hsB : Hid (play stepK (newS sizes) (two.take (k + 1)) = B) := hide (by rw [play_over (by rw [← hn2.out]; omega), hB.out])
      by_cases alt : k < n1
      · obtain ⟨s1, hgs1⟩ := get_ex (l := one) (k := k) (by rw [← hn1.out]; exact alt)
        obtain ⟨qs1, os1, rfl, hce⟩ := hs1.out (by rw [← hn1.out]; omega)
        obtain ⟨es, -, ⟨rfl, hoks1⟩, hcs⟩ := hce k s1 hgs1.out
        have a0 : ∀ w', Below w.heap.size w w' → w'.cell? ⟨qs1, os1 + k * 13, none⟩ = some (.int .i64 s1.kind) := hcs.at_ 0 rfl
        have a1 : ∀ w', Below w.heap.size w w' → w'.cell? ⟨qs1, os1 + k * 13 + 1, none⟩ = some (.int .i64 s1.a) := hcs.at_ 1 rfl
        have a2 : ∀ w', Below w.heap.size w w' → w'.cell? ⟨qs1, os1 + k * 13 + 2, none⟩ = some (.int .i64 s1.b) := hcs.at_ 2 rfl
        have a3 : ∀ w', Below w.heap.size w w' → w'.cell? ⟨qs1, os1 + k * 13 + 3, none⟩ = some (.int .i64 s1.t) := hcs.at_ 3 rfl
        have a4 : ∀ w', Below w.heap.size w w' → w'.cell? ⟨qs1, os1 + k * 13 + 4, none⟩ = some (.int .i64 s1.v.kind) := hcs.at_ 4 rfl
        have a5 : ∀ w', Below w.heap.size w w' → w'.cell? ⟨qs1, os1 + k * 13 + 5, none⟩ = some (.int .u64 s1.v.bits) := hcs.at_ 5 rfl
        have a6 : ∀ w', Below w.heap.size w w' → w'.cell? ⟨qs1, os1 + k * 13 + 6, none⟩ = some (.int .i64 s1.v.block) := hcs.at_ 6 rfl
        have a7 : ∀ w', Below w.heap.size w w' → w'.cell? ⟨qs1, os1 + k * 13 + 7, none⟩ = some (.int .i64 s1.v.off) := hcs.at_ 7 rfl
        have a8 : ∀ w', Below w.heap.size w w' → w'.cell? ⟨qs1, os1 + k * 13 + 8, none⟩ = some (.int .i64 s1.at_.kind) := hcs.at_ 8 rfl
        have a9 : ∀ w', Below w.heap.size w w' → w'.cell? ⟨qs1, os1 + k * 13 + 9, none⟩ = some (.int .u64 s1.at_.bits) := hcs.at_ 9 rfl
        have a10 : ∀ w', Below w.heap.size w w' → w'.cell? ⟨qs1, os1 + k * 13 + 10, none⟩ = some (.int .i64 s1.at_.block) := hcs.at_ 10 rfl
        have a11 : ∀ w', Below w.heap.size w w' → w'.cell? ⟨qs1, os1 + k * 13 + 11, none⟩ = some (.int .i64 s1.at_.off) := hcs.at_ 11 rfl
        have a12 : ∀ w', Below w.heap.size w w' → w'.cell? ⟨qs1, os1 + k * 13 + 12, none⟩ = some (.int .u8 s1.byte) := hcs.at_ 12 rfl
        clear hce hcs
        have hsA : Hid (play stepK (newS sizes) (one.take (k + 1)) = stepK A s1) := hide (by rw [play_snoc hgs1.out, hA.out])
        have hT5 := hT
        have hb5 := hbel
        clear hT hbel
        go_upto_region 15 with (fail)
        by_cases k1 : s1.kind = 1
        · have hans := ans_one (bs := A) k1
          have g1 : (s1.kind == 1) = true := beq_iff_eq.2 k1
          rw [show ((A.length : Nat) : Int) = la + 1 by have := hla.out; omega] at hans
          replace k1 := hide k1
          replace hans := hide hans
          obtain ⟨Fa, hMa, hStep⟩ := hT5.out.step
          have cD := hide (do_any ga Fa A s1 _ hMa hoks1 hLA2.out)
          unfold DoPost at cD
          rw [hans.out.1] at cD
          replace hStep := hide hStep
          clear hMa hT5
          go_upto_region 17 with (go_at_call 61; refine cD.out.mono ?_; rintro e w6 ⟨rfl, F', hM', hF', hU'⟩; have hS6 := hStep.out w6 F' _ hM' hF' hU'; have hb6 := hb5.trans hS6.2; have hT6 := hide hS6.1.rot.rot; clear hM' hF' hU' hS6)
          clear cD hStep hb5
          obtain ⟨Fc, hMc, hStep⟩ := hT6.out.step
          have cD := hide (do_any gc Fc A s1 w6 hMc hoks1 hLA2.out)
          unfold DoPost at cD
          rw [hans.out.1] at cD
          replace hStep := hide hStep
          clear hMc hT6
          go_upto_region 18 with (go_at_call 61; refine cD.out.mono ?_; rintro e w7 ⟨rfl, F', hM', hF', hU'⟩; have hS7 := hStep.out w7 F' _ hM' hF' hU'; have hb7 := hb6.trans hS7.2; have hT7 := hide hS7.1.rot; clear hM' hF' hU' hS7)
          clear cD hStep hb6
          go_wp2
          go_roundw
          case rel => exact ⟨k + 1, by omega, by go_num, by rw [hsA.out]; have := hans.out.2; go_num, hide (by rw [hsA.out, hsB.out]; exact hT7.out), hb7⟩
          case measure => simp [intOf]; omega
        · have hans := ans_other (bs := A) k1
          have g1 : (s1.kind == 1) = false := beq_eq_false_iff_ne.2 k1
          replace k1 := hide k1
          replace hans := hide hans
          obtain ⟨Fa, hMa, hStep⟩ := hT5.out.step
          have cD := hide (do_any ga Fa A s1 _ hMa hoks1 hLA2.out)
          unfold DoPost at cD
          rw [hans.out.1] at cD
          replace hStep := hide hStep
          clear hMa hT5
          go_upto_region 17 with (go_at_call 61; refine cD.out.mono ?_; rintro e w6 ⟨rfl, F', hM', hF', hU'⟩; have hS6 := hStep.out w6 F' _ hM' hF' hU'; have hb6 := hb5.trans hS6.2; have hT6 := hide hS6.1.rot.rot; clear hM' hF' hU' hS6)
          clear cD hStep hb5
          obtain ⟨Fc, hMc, hStep⟩ := hT6.out.step
          have cD := hide (do_any gc Fc A s1 w6 hMc hoks1 hLA2.out)
          unfold DoPost at cD
          rw [hans.out.1] at cD
          replace hStep := hide hStep
          clear hMc hT6
          go_upto_region 18 with (go_at_call 61; refine cD.out.mono ?_; rintro e w7 ⟨rfl, F', hM', hF', hU'⟩; have hS7 := hStep.out w7 F' _ hM' hF' hU'; have hb7 := hb6.trans hS7.2; have hT7 := hide hS7.1.rot; clear hM' hF' hU' hS7)
          clear cD hStep hb6
          go_wp2
          go_roundw
          case rel => exact ⟨k + 1, by omega, by go_num, by rw [hsA.out, hans.out.2, hla.out], hide (by rw [hsA.out, hsB.out]; exact hT7.out), hb7⟩
          case measure => simp [intOf]; omega
      · obtain ⟨-, Fa, Fb, Fc, hMa, -, hMc, -⟩ := hT.out
        obtain ⟨V, hV⟩ : ∃ V, V = wr := ⟨_, rfl⟩
        rw [← hV] at hMa hMc hbel ⊢
        clear hV hT
        have hbV := hide hbel
        have cS : Hid (∀ W u z, (u = ga ∨ u = gc) → Below V.heap.size V W → Calls Try.prog 51 #[.pointer (some ⟨u, 0, none⟩), .int .i64 z] W fun e w' => e = .returned (.int .i64 (sizeS A z)) ∧ W = w') := hide (fun W u z hu hW => by
          rcases hu with rfl | rfl
          · exact size_any _ Fa A z W (hMa.later hW)
          · exact size_any _ Fc A z W (hMc.later hW))
        have cB : Hid (∀ W u z, (u = ga ∨ u = gc) → Below V.heap.size V W → Calls Try.prog 50 #[.pointer (some ⟨u, 0, none⟩), .int .i64 z] W (BytesPost (bytesS A z) W)) := hide (fun W u z hu hW => by
          rcases hu with rfl | rfl
          · exact bytes_any _ Fa A z W (hMa.later hW)
          · exact bytes_any _ Fc A z W (hMc.later hW))
        have hokA := hide (fun z => (hMa.okb z).1)
        clear hMa hMc hbel
        have hselfV := Below.refl V.heap.size V
        go_wp2_with fail
        go_loopw [14] (fun u14 wr => ∃ z : Int, -1 ≤ z ∧ z ≤ la + 2 ∧ u14 = .int .i64 z ∧ Below V.heap.size V wr) (fun u14 _ => (la + 2 - intOf u14).toNat)
        case atStart => exact ⟨-1, Int.le_refl _, by omega, rfl, hselfV⟩
        case round =>
          clear hselfV
          obtain ⟨z, hz1, hz2, rfl, hbel⟩ := hrel
          by_cases hlt : z ≤ la + 1
          · obtain ⟨sz, hsz⟩ : ∃ sz, Hid (sizeS A z = sz) := ⟨_, hide rfl⟩
            obtain ⟨l, hl⟩ : ∃ l, Hid (bytesS A z = l) := ⟨_, hide rfl⟩
            have hokl := hokA.out z
            rw [hl.out] at hokl
            replace hokl := hide hokl
            have hnn : (sz != sz) = false := by simp
            go_upto_region 25 with (first
              | (go_at_call 51; refine (cS.out _ _ _ (by first | exact .inl rfl | exact .inr rfl) hbel).mono ?_; rintro e w5 ⟨rfl, rfl⟩; rw [hsz.out])
              | (go_at_call 50; have hh := hb5; clear hh; refine (cB.out _ _ _ (by first | exact .inl rfl | exact .inr rfl) hb5).mono ?_; rw [hl.out]; rintro e w6 ⟨A6, c6, rfl, hO6, hb6⟩; have hO5b := hide (hO5.out.later hb6); have hb7 := hb5.trans (hb6.mono hb5.size); replace hO6 := hide hO6; clear hb6)
              | (go_at_call 50; refine (cB.out _ _ _ (by first | exact .inl rfl | exact .inr rfl) hbel).mono ?_; rw [hl.out]; rintro e w5 ⟨A5, c5, rfl, hO5, hb4⟩; have hb5 := hbel.trans (hb4.mono hbel.size); replace hO5 := hide hO5; clear hb4)
              | (go_at_call 33; refine (same_true2 w6 (hO5b.out.rep hokl.out) (hO6.out.rep hokl.out)).mono ?_; rintro e w7 ⟨rfl, hb8⟩; have hb9 := hb7.trans (hb8.mono hb7.size); clear hb8))
            go_wp2
            go_roundw
            case rel => exact ⟨z + 1, by omega, by omega, by go_num, hb9⟩
            case measure => simp [intOf]; omega
          · have hb9 := hide (hbV.out.trans (hbel.mono hbV.out.size))
            go_wp2
            go_ret
            exact ⟨rfl, hb9.out⟩
end Go.Proofs.Ytgkgmeofilkopaa
