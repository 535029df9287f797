/- The reference of layer 1: Flags, compared, walked. No condition. -/
import Derived.Test.YtmcleghbpdenlaaBrG
import Derived.Test.YtmcleghbpdenlaaBwJ
namespace Go.Proofs.Ytmcleghbpdenlaa
open Go.RowKit
set_option linter.unusedSimpArgs false
set_option linter.unusedVariables false

set_option maxHeartbeats 1600000 in
theorem rflags_any (op : Int) (W : World) : Calls Try.prog 30 #[.int .i64 op] W fun e w' => e = .returned (.int .i64 (flagsOf op)) ∧ W = w' := by
  go_enter Try.func30, Try.ntmps30
  go_wp2
  all_goals go_ret
  all_goals
    refine ⟨ret_int ?_, rfl⟩
    unfold flagsOf
    try simp at *
    (repeat' split) <;> omega

def cmpX (s : Bool) (M a : Int) : Int := if s = true then sg M a else a % M
theorem cmp_abs {w a : Int} {s : Bool} (h1 : 1 ≤ w) (h2 : w ≤ 64) : (cmpX s (pw w) a).natAbs < 18446744073709551616 := by
  obtain ⟨hM, hH, hw⟩ := wid h1 h2
  have e1 := sg_in (v := a) hH
  rw [← hM] at e1
  have e3 := Int.emod_nonneg a (show pw w ≠ 0 by omega)
  have e4 := Int.emod_lt_of_pos a (show 0 < pw w by omega)
  unfold cmpX
  split <;> omega
theorem cmp_is {op M a b : Int} {s : Bool} (hs : s = decide (op = 18 ∨ op = 19)) (hop : 14 ≤ op ∧ op ≤ 19) :
    cmpB op M (a % M) (b % M) = if op = 14 then decide (cmpX s M a = cmpX s M b) else if op = 15 then !decide (cmpX s M a = cmpX s M b) else if op = 16 ∨ op = 18 then decide (cmpX s M a - cmpX s M b < 0) else decide (cmpX s M a - cmpX s M b < 0) || decide (cmpX s M a = cmpX s M b) := by
  have ho : op = 14 ∨ op = 15 ∨ op = 16 ∨ op = 17 ∨ op = 18 ∨ op = 19 := by omega
  subst hs
  rcases ho with rfl | rfl | rfl | rfl | rfl | rfl
  · simp [cmpB, cmpX]; rw [Bool.eq_iff_iff]; simp
  · simp [cmpB, cmpX]; rw [Bool.eq_iff_iff]; simp
  · simp [cmpB, cmpX]; omega
  · simp [cmpB, cmpX]; rw [Bool.eq_iff_iff]; simp; omega
  · simp [cmpB, cmpX, sg_cut]; omega
  · simp [cmpB, cmpX, sg_cut]; rw [Bool.eq_iff_iff]; simp; omega
theorem big_below (v : Int) : (big v).below = decide (v < 0) := rfl

set_option maxRecDepth 100000 in
set_option maxHeartbeats 1600000 in
theorem rcomp_any (op w a b : Int) (W : World) (h1 : 1 ≤ w) (h2 : w ≤ 64) (ha : 0 ≤ a ∧ a ≤ 18446744073709551615) (hb : 0 ≤ b ∧ b ≤ 18446744073709551615) (hop : 14 ≤ op ∧ op ≤ 19) :
    Calls Try.prog 55 #[.int .i64 op, .int .i64 w, .int .u64 a, .int .u64 b] W fun e w' => e = .returned (.bool (cmpB op (pw w) (a % pw w) (b % pw w))) ∧ Below W.heap.size W w' := by
  obtain ⟨s, hs⟩ : ∃ s, s = decide (op = 18 ∨ op = 19) := ⟨_, rfl⟩
  obtain ⟨c, hc⟩ : ∃ c, cmpB op (pw w) (a % pw w) (b % pw w) = c := ⟨_, rfl⟩
  have hcmp := cmp_is (M := pw w) (a := a) (b := b) hs hop
  rw [hc] at hcmp ⊢
  have A1 := cmp_abs (a := a) (s := s) h1 h2
  have A2 := cmp_abs (a := b) (s := s) h1 h2
  obtain ⟨X, hX⟩ : ∃ X, big (cmpX s (pw w) a) = X := ⟨_, rfl⟩
  obtain ⟨Y, hY⟩ : ∃ Y, big (cmpX s (pw w) b) = Y := ⟨_, rfl⟩
  obtain ⟨P, hP⟩ : ∃ P, big (a % pw w) = P := ⟨_, rfl⟩
  obtain ⟨Q, hQ⟩ : ∃ Q, big (b % pw w) = Q := ⟨_, rfl⟩
  have hP' : Hid (∀ W, Calls Try.prog 67 #[.int .i64 w, .int .u64 a] W fun e w' => e = .returned P.v ∧ Below W.heap.size W w') := hide (fun W => by have := rplain_any w a W h1 h2 ha; rwa [hP] at this)
  have hQ' : Hid (∀ W, Calls Try.prog 67 #[.int .i64 w, .int .u64 b] W fun e w' => e = .returned Q.v ∧ Below W.heap.size W w') := hide (fun W => by have := rplain_any w b W h1 h2 hb; rwa [hQ] at this)
  have cWa : Hid (s = true → ∀ W, Calls Try.prog 57 #[.int .i64 w, .int .u64 a] W fun e w' => e = .returned X.v ∧ Below W.heap.size W w') := hide (fun hs W => by
    have := rwith_any w a W h1 h2 ha
    have e : cmpX s (pw w) a = sg (pw w) a := if_pos hs
    rwa [← e, hX] at this)
  have cWb : Hid (s = true → ∀ W, Calls Try.prog 57 #[.int .i64 w, .int .u64 b] W fun e w' => e = .returned Y.v ∧ Below W.heap.size W w') := hide (fun hs W => by
    have := rwith_any w b W h1 h2 hb
    have e : cmpX s (pw w) b = sg (pw w) b := if_pos hs
    rwa [← e, hY] at this)
  have pX : Hid (s = false → P = X) := hide (fun hs => by
    have e : cmpX s (pw w) a = a % pw w := if_neg (by rw [hs]; decide)
    rw [← hP, ← hX, e])
  have pY : Hid (s = false → Q = Y) := hide (fun hs => by
    have e : cmpX s (pw w) b = b % pw w := if_neg (by rw [hs]; decide)
    rw [← hQ, ← hY, e])
  have hD : bplus X (bminus Y) = big (cmpX s (pw w) a - cmpX s (pw w) b) := by rw [← hX, ← hY, bminus_big, bplus_big (by omega), Int.sub_eq_add_neg]
  obtain ⟨D, hDD⟩ : ∃ D, bplus X (bminus Y) = D := ⟨_, rfl⟩
  rw [hDD] at hD
  obtain ⟨z, hz⟩ : ∃ z, decide (cmpX s (pw w) a = cmpX s (pw w) b) = z := ⟨_, rfl⟩
  have hbl : D.below = decide (cmpX s (pw w) a - cmpX s (pw w) b < 0) := by rw [hD]; rfl
  have hz1 : Hid (z = decide (D = ⟨0, 0, false⟩)) := hide (by
    rw [← hz, hD, decide_eq_decide, show (⟨0, 0, false⟩ : Big) = big 0 from rfl]
    exact ⟨fun h => by rw [h, Int.sub_self], fun h => by have := big_inj h; omega⟩)
  rw [hz, ← hbl] at hcmp
  replace hcmp := hide hcmp
  replace hDD := hide hDD
  have t18 : (op == 18) = true ∧ s = true ∨ (op == 18) = false ∧ (op == 19) = s := by
    by_cases g : op = 18
    · exact .inl ⟨beq_iff_eq.2 g, by rw [hs]; exact decide_eq_true (.inl g)⟩
    · refine .inr ⟨beq_eq_false_iff_ne.2 g, ?_⟩
      rw [hs, Bool.eq_iff_iff]; simp [g]
  replace t18 := hide t18
  replace hop := hide hop
  clear hD hz hbl A1 A2 hX hY hP hQ hc ha hb hs
  go_enter Try.func55, Try.ntmps55
  go_wp2_with fail
  refine (hP'.out _).mono ?_; rintro e w1 ⟨rfl, hb1⟩
  have hN1 := hide hb1
  clear hb1
  go_wp2_with fail
  refine (hQ'.out _).mono ?_; rintro e w2 ⟨rfl, hb2⟩
  have q2 : w2.heap[w1.heap.size]? = some (.cells #[.int .u64 P.hi, .int .u64 P.lo, .bool P.below] 71 (0, 0)) := (hb2.block _ (by simp)).trans (box_top w1 _)
  have z2 : w1.heap.size < w2.heap.size := lt_of_get q2
  have z1 := hN1.out.size
  have hN2 := hide (hN1.out.trans ((under1 hb2).mono hN1.out.size))
  clear hb2
  go_upto_region 3 with (fail)
  have t1 : ((w2.alloc (.cells #[.int .u64 Q.hi, .int .u64 Q.lo, .bool Q.below] 71)).heap[w1.heap.size]? = some (.cells #[.int .u64 P.hi, .int .u64 P.lo, .bool P.below] 71 (0, 0))) := one_alloc q2 _
  have t2 : ((w2.alloc (.cells #[.int .u64 Q.hi, .int .u64 Q.lo, .bool Q.below] 71)).heap[w2.heap.size]? = some (.cells #[.int .u64 Q.hi, .int .u64 Q.lo, .bool Q.below] 71 (0, 0))) := box_top w2 _
  have tN : Below W.heap.size W (w2.alloc (.cells #[.int .u64 Q.hi, .int .u64 Q.lo, .bool Q.below] 71)) := hN2.out.alloc hN2.out.size _
  obtain ⟨w9, hw9⟩ : ∃ w9, w9 = w2.alloc (.cells #[.int .u64 Q.hi, .int .u64 Q.lo, .bool Q.below] 71) := ⟨_, rfl⟩
  rw [← hw9] at t1 t2 tN
  rw [← hw9]
  replace t1 := hide t1
  replace t2 := hide t2
  replace tN := hide tN
  clear hw9 q2 hN2 hN1 hP' hQ'
  go_cut [24] (fun s24 wx => s24 = .bool s ∧ wx = w9)
  case first =>
    rcases t18.out with ⟨b1, rfl⟩ | ⟨b1, b2⟩
    · go_wp2_with fail
      go_meet
      exact ⟨rfl, rfl⟩
    · go_wp2_with fail
      go_meet
      exact ⟨rfl, rfl⟩
  case rest =>
    obtain ⟨rfl, rfl⟩ := hcut
    clear t18
    go_upto_if 24 with (fail)
    go_cut [25, 26, 27, 28, 29, 30] (fun s25 s26 s27 s28 s29 s30 wx => Hid (wx.heap[w1.heap.size]? = some (.cells #[.int .u64 X.hi, .int .u64 X.lo, .bool X.below] 71 (0, 0))) ∧ Hid (wx.heap[w2.heap.size]? = some (.cells #[.int .u64 Y.hi, .int .u64 Y.lo, .bool Y.below] 71 (0, 0))) ∧ Hid (Below W.heap.size W wx))
    case first =>
      cases s
      · obtain rfl : P = X := pX.out (by simp)
        obtain rfl : Q = Y := pY.out (by simp)
        go_wp2_with fail
        go_meet
        exact ⟨t1, t2, tN⟩
      · have z9 := lt_of_get t2.out
        have n3 : ¬ w1.heap.size = w2.heap.size := by omega
        go_wp2_with fail
        refine (cWa.out (by simp) _).mono ?_; rintro e w3 ⟨rfl, hb3⟩
        have f1 := (hb3.block _ (by omega)).trans t1.out
        have f2 := (hb3.block _ z9).trans t2.out
        have z3 := hb3.size
        have fN := tN.out.trans (hb3.mono tN.out.size)
        clear hb3
        obtain ⟨⟨c0, c1, c2⟩, ⟨c3, c4, c5⟩⟩ := cells3 f1
        obtain ⟨gN, g1, g2⟩ := three_sets (n := w1.heap.size) (m := w2.heap.size) (x := .int .u64 X.hi) (y := .int .u64 X.lo) (z := .bool X.below) (by omega) (by omega) fN f1 f2
        replace f1 := hide f1
        replace f2 := hide f2
        replace fN := hide fN
        replace gN := hide gN
        replace g1 := hide g1
        replace g2 := hide g2
        go_wp2_with fail
        refine (cWb.out (by simp) _).mono ?_; rintro e w5 ⟨rfl, hb5⟩
        have gs := hb5.size
        simp only [setCell_size] at gs
        have d1 := (hb5.block _ (by simp only [setCell_size]; omega)).trans g1.out
        have d2 := (hb5.block _ (by simp only [setCell_size]; omega)).trans g2.out
        have dN := gN.out.trans (hb5.mono (by simp only [setCell_size]; omega))
        clear hb5
        obtain ⟨⟨y0, y1, y2⟩, ⟨y3, y4, y5⟩⟩ := cells3 d2
        obtain ⟨iN, i2, i1⟩ := three_sets (n := w2.heap.size) (m := w1.heap.size) (x := .int .u64 Y.hi) (y := .int .u64 Y.lo) (z := .bool Y.below) (by omega) (by omega) dN d2 d1
        replace i1 := hide i1
        replace i2 := hide i2
        replace iN := hide iN
        clear d1 d2 dN c0 c1 c2 c3 c4 c5
        go_wp2_with fail
        go_meet
        exact ⟨i1, i2, iN⟩
    case rest =>
      obtain ⟨t1, t2, tN⟩ := hcut
      obtain ⟨wx, rfl⟩ : ∃ w : World, w = wc := ⟨_, rfl⟩
      have z8 := lt_of_get t1.out
      have z9 := lt_of_get t2.out
      obtain ⟨⟨x0, x1, x2⟩, -⟩ := cells3 t1.out
      obtain ⟨⟨y0, y1, y2⟩, -⟩ := cells3 t2.out
      have x0' : ∀ w', Below wx.heap.size wx w' → w'.cell? ⟨w1.heap.size, 0, none⟩ = some (.int .u64 X.hi) := fun w' h => (h.cell (p := ⟨w1.heap.size, 0, none⟩) z8).trans x0
      have x1' : ∀ w', Below wx.heap.size wx w' → w'.cell? ⟨w1.heap.size, 1, none⟩ = some (.int .u64 X.lo) := fun w' h => (h.cell (p := ⟨w1.heap.size, 1, none⟩) z8).trans x1
      have x2' : ∀ w', Below wx.heap.size wx w' → w'.cell? ⟨w1.heap.size, 2, none⟩ = some (.bool X.below) := fun w' h => (h.cell (p := ⟨w1.heap.size, 2, none⟩) z8).trans x2
      have y0' : ∀ w', Below wx.heap.size wx w' → w'.cell? ⟨w2.heap.size, 0, none⟩ = some (.int .u64 Y.hi) := fun w' h => (h.cell (p := ⟨w2.heap.size, 0, none⟩) z9).trans y0
      have y1' : ∀ w', Below wx.heap.size wx w' → w'.cell? ⟨w2.heap.size, 1, none⟩ = some (.int .u64 Y.lo) := fun w' h => (h.cell (p := ⟨w2.heap.size, 1, none⟩) z9).trans y1
      have y2' : ∀ w', Below wx.heap.size wx w' → w'.cell? ⟨w2.heap.size, 2, none⟩ = some (.bool Y.below) := fun w' h => (h.cell (p := ⟨w2.heap.size, 2, none⟩) z9).trans y2
      clear x0 x1 x2 y0 y1 y2
      have hself := Below.refl wx.heap.size wx
      have hww := Nat.le_refl wx.heap.size
      go_upto_region 6 with (fail)
      go_cut [11] (fun s11 wy => ∃ g : Nat, s11 = .pointer (some ⟨g, 0, none⟩) ∧ wx.heap.size ≤ g ∧ Hid (wy.heap[g]? = some (.cells #[.int .u64 D.hi, .int .u64 D.lo, .bool D.below] 71 (0, 0))) ∧ Hid (Below wx.heap.size wx wy))
      case first =>
        go_region_held3 (fun w' => Below wx.heap.size wx w') (first | assumption | exact hself.drew | exact hself.drew.alloc (Nat.le_refl _) _ | exact below_next (by assumption) hww (by assumption) | exact Below.alloc (by assumption) (by assumption) _ | exact Below.setCell (Below.setCell (Below.setCell (B := wx.heap.size) (a := wx) (by assumption) (by first | exact Nat.le_refl _ | assumption) _) (by first | exact Nat.le_refl _ | assumption) _) (by first | exact Nat.le_refl _ | assumption) _)
          (first
            | (go_at_call 72; refine (rminus_any Y _).mono ?_; rintro e w3 ⟨rfl, hb3⟩; obtain ⟨hc3, hf3⟩ := bcell hb3; have hk3 : Below wx.heap.size wx w3 := below_next (by first | exact hself.drew | exact hself.drew.alloc (Nat.le_refl _) _) hww hb3; have hl3 := hk3.size; (try have hs3 : wx.heap.size < w3.heap.size := by have := hb3.size; simp at this; omega))
            | (go_at_call 71; refine (rplus_any X (bminus Y) _).mono ?_; rintro e w4 ⟨rfl, hb4⟩; rw [hDD.out]; obtain ⟨hc4, hf4⟩ := bcell hb4; have hk4 : Below wx.heap.size wx w4 := below_next (by assumption) hww hb4; have hl4 := hk4.size; (try have hs4 : wx.heap.size < w4.heap.size := by have := hb4.size; simp at this; omega)))
        all_goals go_wp2_with fail
        all_goals go_meet
        · exact ⟨w4.heap.size, rfl, hl4, hide (box_top _ _), hide (by assumption)⟩
        · exact ⟨w3.heap.size, rfl, hl3, hide (set3 ((hb4.block _ (by show w3.heap.size < (w3.alloc _).heap.size; simp)).trans (box_top w3 _))), hide (by assumption)⟩
        · exact ⟨wx.heap.size, rfl, Nat.le_refl _, hide (set3 ((hb4.block _ hs3).trans ((hb3.block _ (by show wx.heap.size < (wx.alloc _).heap.size; simp)).trans (box_top wx _)))), hide (by assumption)⟩
      case rest =>
        obtain ⟨g, rfl, hg, hq, hbx⟩ := hcut
        obtain ⟨⟨d0, d1, d2⟩, -⟩ := cells3 hq.out
        have hN := hide (tN.out.trans (hbx.out.mono tN.out.size))
        clear x0' x1' x2' y0' y1' y2' hself hww hbx hq tN t1 t2
        by_cases hd : D = ⟨0, 0, false⟩
        · obtain rfl : z = true := hz1.out.trans (decide_eq_true hd)
          rw [hd] at d0 d1 d2 hcmp
          have hop' : op = 14 ∨ op = 15 ∨ op = 16 ∨ op = 17 ∨ op = 18 ∨ op = 19 := by have := hop.out; omega
          clear hd hz1 hDD
          rcases hop' with rfl | rfl | rfl | rfl | rfl | rfl
          all_goals
            go_wp2_with fail
            go_ret
            refine ⟨ret_bool ?_, hN.out⟩
            have := hcmp.out
            simpa using this.symm
        · obtain rfl : z = false := hz1.out.trans (decide_eq_false hd)
          have hop' : op = 14 ∨ op = 15 ∨ op = 16 ∨ op = 17 ∨ op = 18 ∨ op = 19 := by have := hop.out; omega
          replace hd := hide hd
          clear hz1 hDD
          obtain ⟨db, hdb⟩ : ∃ b, D.below = b := ⟨_, rfl⟩
          rw [hdb] at d2 hcmp
          replace hdb := hide hdb
          rcases hop' with rfl | rfl | rfl | rfl | rfl | rfl
          all_goals cases db
          all_goals
            go_wp2_with fail
            all_goals go_ret
            all_goals
              refine ⟨ret_bool ?_, hN.out⟩
              have := hcmp.out
              first
                | (simpa using this.symm; done)
                | exact absurd (big_ext (b := ⟨0, 0, false⟩) (by assumption) (by assumption) hdb.out) hd.out
end Go.Proofs.Ytmcleghbpdenlaa
