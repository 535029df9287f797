/- The reference of layer 1: exact, walked. No condition. -/
import Derived.Test.YtmcleghbpdenlaaBrC
import Derived.Test.YtmcleghbpdenlaaBrF
namespace Go.Proofs.Ytmcleghbpdenlaa
open Go.RowKit
set_option linter.unusedSimpArgs false
set_option linter.unusedVariables false

theorem setCell_size (w : World) (p : Addr) (v : Value) : (w.setCell p v).heap.size = w.heap.size := by simp [World.setCell]
/-- the numbers that exact reckons with -/
def exX (M a : Int) (s : Bool) : Int := if s = true then sg M a else a % M
def exY (op M b : Int) (s : Bool) : Int := if s = true ∧ op ≠ 11 then sg M b else b % M
def exV (op M a b : Int) (s : Bool) : Int := if op = 1 then exX M a s + exY op M b s else if op = 2 then exX M a s - exY op M b s else if op = 3 then exX M a s * exY op M b s else exX M a s * pw (exY op M b s)
theorem ex_abs {op w a b : Int} {s : Bool} (h1 : 1 ≤ w) (h2 : w ≤ 64) : (exX (pw w) a s).natAbs < 18446744073709551616 ∧ (exY op (pw w) b s).natAbs < 18446744073709551616 := by
  obtain ⟨hM, hH, hw⟩ := wid h1 h2
  have e1 := sg_in (v := a) hH
  have e2 := sg_in (v := b) hH
  rw [← hM] at e1 e2
  have e3 := Int.emod_nonneg a (show pw w ≠ 0 by omega)
  have e4 := Int.emod_lt_of_pos a (show 0 < pw w by omega)
  have e5 := Int.emod_nonneg b (show pw w ≠ 0 by omega)
  have e6 := Int.emod_lt_of_pos b (show 0 < pw w by omega)
  unfold exX exY
  constructor
  · split <;> omega
  · split <;> omega

set_option maxRecDepth 100000 in
set_option maxHeartbeats 1600000 in
theorem rexact_any (op w a b : Int) (s : Bool) (W : World) (h1 : 1 ≤ w) (h2 : w ≤ 64) (ha : 0 ≤ a ∧ a ≤ 18446744073709551615) (hb : 0 ≤ b ∧ b ≤ 18446744073709551615) (hop : op = 1 ∨ op = 2 ∨ op = 3 ∨ op = 11 ∧ b % pw w ≤ 63) :
    Calls Try.prog 65 #[.int .i64 op, .int .i64 w, .int .u64 a, .int .u64 b, .bool s] W fun e w' => e = .returned (big (exV op (pw w) a b s)).v ∧ Below W.heap.size W w' := by
  obtain ⟨X, hX⟩ : ∃ X, big (exX (pw w) a s) = X := ⟨_, rfl⟩
  obtain ⟨Y, hY⟩ : ∃ Y, big (exY op (pw w) b s) = Y := ⟨_, rfl⟩
  obtain ⟨P, hP⟩ : ∃ P, big (a % pw w) = P := ⟨_, rfl⟩
  obtain ⟨Q, hQ⟩ : ∃ Q, big (b % pw w) = Q := ⟨_, rfl⟩
  replace hX := hide hX
  replace hY := hide hY
  have hP' : Hid (∀ W, Calls Try.prog 67 #[.int .i64 w, .int .u64 a] W fun e w' => e = .returned P.v ∧ Below W.heap.size W w') := hide (fun W => by have := rplain_any w a W h1 h2 ha; rwa [hP] at this)
  have hQ' : Hid (∀ W, Calls Try.prog 67 #[.int .i64 w, .int .u64 b] W fun e w' => e = .returned Q.v ∧ Below W.heap.size W w') := hide (fun W => by have := rplain_any w b W h1 h2 hb; rwa [hQ] at this)
  have cWa : Hid (s = true → ∀ W, Calls Try.prog 57 #[.int .i64 w, .int .u64 a] W fun e w' => e = .returned X.v ∧ Below W.heap.size W w') := hide (fun hs W => by
    have := rwith_any w a W h1 h2 ha
    have e : exX (pw w) a s = sg (pw w) a := if_pos hs
    rwa [← e, hX.out] at this)
  have cWb : Hid (s = true → op ≠ 11 → ∀ W, Calls Try.prog 57 #[.int .i64 w, .int .u64 b] W fun e w' => e = .returned Y.v ∧ Below W.heap.size W w') := hide (fun hs ho W => by
    have := rwith_any w b W h1 h2 hb
    have e : exY op (pw w) b s = sg (pw w) b := if_pos ⟨hs, ho⟩
    rwa [← e, hY.out] at this)
  have pX : Hid (s = false → P = X) := hide (fun hs => by
    have e : exX (pw w) a s = a % pw w := if_neg (by rw [hs]; decide)
    rw [← hP, ← hX.out, e])
  have pY : Hid ((s = false ∨ op = 11) → Q = Y) := hide (fun hs => by
    have e : exY op (pw w) b s = b % pw w := if_neg (by rcases hs with hs | hs; rw [hs]; simp; exact fun h => h.2 hs)
    rw [← hQ, ← hY.out, e])
  obtain ⟨A1, A2⟩ := ex_abs (op := op) (a := a) (b := b) (s := s) h1 h2
  have rV1 : Hid (op = 1 → big (exV op (pw w) a b s) = bplus X Y) := hide (fun h => by rw [← hX.out, ← hY.out, bplus_big (by omega)]; congr 1; exact if_pos h)
  have rV2 : Hid (op = 2 → big (exV op (pw w) a b s) = bplus X (bminus Y)) := hide (fun h => by
    rw [← hX.out, ← hY.out, bminus_big, bplus_big (by omega)]
    congr 1
    unfold exV
    rw [if_neg (by omega), if_pos h, Int.sub_eq_add_neg])
  have rV3 : Hid (op = 3 → big (exV op (pw w) a b s) = btimes X Y) := hide (fun h => by
    rw [← hX.out, ← hY.out, btimes_big A1 A2]
    congr 1
    unfold exV
    rw [if_neg (by omega), if_neg (by omega), if_pos h])
  have hb0 := Int.emod_nonneg b (show pw w ≠ 0 by have := pw_pos w; omega)
  have rV4 : Hid (op = 11 → b % pw w ≤ 63 → Y.lo = b % pw w ∧ big (exV op (pw w) a b s) = btimes X (big (pw (b % pw w)))) := hide (fun h h63 => by
    have e : exY op (pw w) b s = b % pw w := if_neg (fun k => k.2 h)
    have hpl := pw_le63 hb0 h63
    have hp0 := pw_pos (b % pw w)
    constructor
    · rw [← hY.out, e, big_lo (by omega) (by omega)]; omega
    · rw [← hX.out, btimes_big A1 (by omega)]
      congr 1
      unfold exV
      rw [if_neg (by omega), if_neg (by omega), if_neg (by omega), e])
  have bx : Hid (0 ≤ X.lo ∧ X.lo ≤ 18446744073709551615) := hide (by rw [← hX.out]; simp only [big]; omega)
  have byy : Hid (0 ≤ Y.lo ∧ Y.lo ≤ 18446744073709551615) := hide (by rw [← hY.out]; simp only [big]; omega)
  replace hb0 := hide hb0
  clear A1 A2
  replace ha := hide ha
  replace hb := hide hb
  replace hop := hide hop
  replace hP := hide hP
  replace hQ := hide hQ
  cases s
  all_goals
    go_enter Try.func65, Try.ntmps65
    go_wp2_with fail
    refine (hP'.out _).mono ?_; rintro e w1 ⟨rfl, hb1⟩
    have r1 : w1.heap[W.heap.size]? = some (.cells #[.int .u64 0, .int .u64 0, .bool false] 71 (0, 0)) := (hb1.block _ (by simp)).trans (box_top W _)
    have z1 : W.heap.size < w1.heap.size := lt_of_get r1
    have hN1 := hide (under1 hb1)
    replace r1 := hide r1
    clear hb1
    go_wp2_with fail
    refine (hQ'.out _).mono ?_; rintro e w2 ⟨rfl, hb2⟩
    have r2 := (hb2.block _ (by simp; omega)).trans (one_alloc r1.out (.cells #[.int .u64 P.hi, .int .u64 P.lo, .bool P.below] 71))
    have q2 : w2.heap[w1.heap.size]? = some (.cells #[.int .u64 P.hi, .int .u64 P.lo, .bool P.below] 71 (0, 0)) := (hb2.block _ (by simp)).trans (box_top w1 _)
    have z2 : w1.heap.size < w2.heap.size := lt_of_get q2
    have hN2 := hide (hN1.out.trans ((under1 hb2).mono hN1.out.size))
    clear hb2
    go_upto_if 19 with (fail)
    have t0 : ((w2.alloc (.cells #[.int .u64 Q.hi, .int .u64 Q.lo, .bool Q.below] 71)).heap[W.heap.size]? = some (.cells #[.int .u64 0, .int .u64 0, .bool false] 71 (0, 0))) := one_alloc r2 _
    have t1 : ((w2.alloc (.cells #[.int .u64 Q.hi, .int .u64 Q.lo, .bool Q.below] 71)).heap[w1.heap.size]? = some (.cells #[.int .u64 P.hi, .int .u64 P.lo, .bool P.below] 71 (0, 0))) := one_alloc q2 _
    have t2 : ((w2.alloc (.cells #[.int .u64 Q.hi, .int .u64 Q.lo, .bool Q.below] 71)).heap[w2.heap.size]? = some (.cells #[.int .u64 Q.hi, .int .u64 Q.lo, .bool Q.below] 71 (0, 0))) := box_top w2 _
    have tN : Below W.heap.size W (w2.alloc (.cells #[.int .u64 Q.hi, .int .u64 Q.lo, .bool Q.below] 71)) := hN2.out.alloc hN2.out.size _
    obtain ⟨w9, hw9⟩ : ∃ w9, w9 = w2.alloc (.cells #[.int .u64 Q.hi, .int .u64 Q.lo, .bool Q.below] 71) := ⟨_, rfl⟩
    rw [← hw9] at t0 t1 t2 tN
    rw [← hw9]
    replace t0 := hide t0
    replace t1 := hide t1
    replace t2 := hide t2
    replace tN := hide tN
    clear hw9 r2 q2 hN2 hN1 r1 hP' hQ'
    go_cut [20, 21, 22] (fun s20 s21 s22 wx => Hid (wx.heap[W.heap.size]? = some (.cells #[.int .u64 0, .int .u64 0, .bool false] 71 (0, 0))) ∧ Hid (wx.heap[w1.heap.size]? = some (.cells #[.int .u64 X.hi, .int .u64 X.lo, .bool X.below] 71 (0, 0))) ∧ Hid (wx.heap[w2.heap.size]? = some (.cells #[.int .u64 Y.hi, .int .u64 Y.lo, .bool Y.below] 71 (0, 0))) ∧ Hid (Below W.heap.size W wx))
    case first =>
      first
        | (obtain rfl : P = X := pX.out (by simp)
           obtain rfl : Q = Y := pY.out (by simp)
           go_wp2_with fail
           go_meet
           exact ⟨t0, t1, t2, tN⟩)
        | (have n1 : ¬ w1.heap.size = W.heap.size := by omega
           have n2 : ¬ w2.heap.size = W.heap.size := by omega
           have n3 : ¬ w1.heap.size = w2.heap.size := by omega
           have z9 := lt_of_get t2.out
           go_wp2_with fail
           refine (cWa.out (by simp) _).mono ?_; rintro e w3 ⟨rfl, hb3⟩
           have f0 := (hb3.block _ (by omega)).trans t0.out
           have f1 := (hb3.block _ (by omega)).trans t1.out
           have f2 := (hb3.block _ z9).trans t2.out
           have z3 := hb3.size
           have fN := tN.out.trans (hb3.mono tN.out.size)
           clear hb3
           obtain ⟨⟨c0, c1, c2⟩, ⟨c3, c4, c5⟩⟩ := cells3 f1
           obtain ⟨gN, g1, g0⟩ := three_sets (n := w1.heap.size) (m := W.heap.size) (x := .int .u64 X.hi) (y := .int .u64 X.lo) (z := .bool X.below) (by omega) (by omega) fN f1 f0
           obtain ⟨-, -, g2⟩ := three_sets (n := w1.heap.size) (m := w2.heap.size) (x := .int .u64 X.hi) (y := .int .u64 X.lo) (z := .bool X.below) (by omega) (by omega) fN f1 f2
           replace f0 := hide f0
           replace f1 := hide f1
           replace f2 := hide f2
           replace fN := hide fN
           replace gN := hide gN
           replace g0 := hide g0
           replace g1 := hide g1
           replace g2 := hide g2
           cases ho : (op != 11)
           · obtain rfl : Q = Y := pY.out (.inr (bne_eq_false_iff_eq.1 ho))
             go_wp2_with fail
             go_meet
             exact ⟨g0, g1, g2, gN⟩
           · go_wp2_with fail
             refine (cWb.out (by simp) (by simpa using ho) _).mono ?_; rintro e w5 ⟨rfl, hb5⟩
             have gs := hb5.size
             simp only [setCell_size] at gs
             have d0 := (hb5.block _ (by simp only [setCell_size]; omega)).trans g0.out
             have d1 := (hb5.block _ (by simp only [setCell_size]; omega)).trans g1.out
             have d2 := (hb5.block _ (by simp only [setCell_size]; omega)).trans g2.out
             have dN := gN.out.trans (hb5.mono (by simp only [setCell_size]; omega))
             clear hb5
             obtain ⟨⟨y0, y1, y2⟩, ⟨y3, y4, y5⟩⟩ := cells3 d2
             obtain ⟨iN, i2, i0⟩ := three_sets (n := w2.heap.size) (m := W.heap.size) (x := .int .u64 Y.hi) (y := .int .u64 Y.lo) (z := .bool Y.below) (by omega) (by omega) dN d2 d0
             obtain ⟨-, -, i1⟩ := three_sets (n := w2.heap.size) (m := w1.heap.size) (x := .int .u64 Y.hi) (y := .int .u64 Y.lo) (z := .bool Y.below) (by omega) (by omega) dN d2 d1
             replace i0 := hide i0
             replace i1 := hide i1
             replace i2 := hide i2
             replace iN := hide iN
             clear d0 d1 d2 dN c0 c1 c2 c3 c4 c5
             go_wp2_with fail
             go_meet
             exact ⟨i0, i1, i2, iN⟩)
    case rest =>
      obtain ⟨t0, t1, t2, tN⟩ := hcut
      obtain ⟨wx, rfl⟩ : ∃ w : World, w = wc := ⟨_, rfl⟩
      have n1 : ¬ w1.heap.size = W.heap.size := by omega
      have n2 : ¬ w2.heap.size = W.heap.size := by omega
      have z8 := lt_of_get t1.out
      have z9 := lt_of_get t2.out
      have z7 := lt_of_get t0.out
      obtain ⟨⟨x0, x1, x2⟩, _⟩ := cells3 t1.out
      obtain ⟨⟨y0, y1, y2⟩, _⟩ := cells3 t2.out
      obtain ⟨⟨f0, f1, f2⟩, ⟨f3, f4, f5⟩⟩ := cells3 t0.out
      rcases hop.out with rfl | rfl | rfl | ⟨rfl, h63⟩
      · have hr : Hid (_ = bplus X Y) := hide (rV1.out (by simp))
        go_wp2_with fail
        refine (rplus_any X Y _).mono ?_; rintro e w6 ⟨rfl, hb6⟩
        have q0 := (hb6.block _ z7).trans t0.out
        have qN := hide (tN.out.trans (hb6.mono tN.out.size))
        obtain ⟨⟨f0, f1, f2⟩, ⟨f3, f4, f5⟩⟩ := cells3 q0
        clear hb6 x0 x1 x2 y0 y1 y2 q0
        go_wp2
        refine bodyPost_ret (v := (bplus X Y).v) (by simp [results, Try.results65, go_sem, f0, f1, f2, f3, f4, f5]) rfl ⟨by rw [hr.out], ?_⟩
        exact ((qN.out.setCell (by show W.heap.size ≤ W.heap.size; omega) _).setCell (by show W.heap.size ≤ W.heap.size; omega) _).setCell (by show W.heap.size ≤ W.heap.size; omega) _
      · have hr : Hid (_ = bplus X (bminus Y)) := hide (rV2.out (by simp))
        have x0' : ∀ w', Only (fun k => k = W.heap.size) wx.heap.size wx w' → w'.cell? ⟨w1.heap.size, 0, none⟩ = some (.int .u64 X.hi) := fun w' h => (h.cell (p := ⟨w1.heap.size, 0, none⟩) z8 n1).trans x0
        have x1' : ∀ w', Only (fun k => k = W.heap.size) wx.heap.size wx w' → w'.cell? ⟨w1.heap.size, 1, none⟩ = some (.int .u64 X.lo) := fun w' h => (h.cell (p := ⟨w1.heap.size, 1, none⟩) z8 n1).trans x1
        have x2' : ∀ w', Only (fun k => k = W.heap.size) wx.heap.size wx w' → w'.cell? ⟨w1.heap.size, 2, none⟩ = some (.bool X.below) := fun w' h => (h.cell (p := ⟨w1.heap.size, 2, none⟩) z8 n1).trans x2
        have y0' : ∀ w', Only (fun k => k = W.heap.size) wx.heap.size wx w' → w'.cell? ⟨w2.heap.size, 0, none⟩ = some (.int .u64 Y.hi) := fun w' h => (h.cell (p := ⟨w2.heap.size, 0, none⟩) z9 n2).trans y0
        have y1' : ∀ w', Only (fun k => k = W.heap.size) wx.heap.size wx w' → w'.cell? ⟨w2.heap.size, 1, none⟩ = some (.int .u64 Y.lo) := fun w' h => (h.cell (p := ⟨w2.heap.size, 1, none⟩) z9 n2).trans y1
        have y2' : ∀ w', Only (fun k => k = W.heap.size) wx.heap.size wx w' → w'.cell? ⟨w2.heap.size, 2, none⟩ = some (.bool Y.below) := fun w' h => (h.cell (p := ⟨w2.heap.size, 2, none⟩) z9 n2).trans y2
        clear x0 x1 x2 y0 y1 y2
        have hself := Only.refl (fun k => k = W.heap.size) wx.heap.size wx
        have hww := Nat.le_refl wx.heap.size
        go_wp2
        go_region_held3 (fun w' => Only (fun k => k = W.heap.size) wx.heap.size wx w') (first | assumption | exact hself.drew | exact Only.next (by assumption) hww (.of_below (by assumption)) | exact ((k6.setCell (p := ⟨W.heap.size, 0, none⟩) (.inl rfl) _).setCell (p := ⟨W.heap.size, 1, none⟩) (.inl rfl) _).setCell (p := ⟨W.heap.size, 2, none⟩) (.inl rfl) _)
          (first
            | (go_at_call 72; refine (rminus_any Y _).mono ?_; rintro e w5 ⟨rfl, hb5⟩; have hs5 : W.heap.size < w5.heap.size := Nat.lt_of_lt_of_le z7 hb5.size)
            | (go_at_call 71; refine (rplus_any X (bminus Y) _).mono ?_; rintro e w6 ⟨rfl, hb6⟩; have g6 := (hb6.block _ hs5).trans ((hb5.block _ z7).trans t0.out); obtain ⟨⟨f0, f1, f2⟩, ⟨f3, f4, f5⟩⟩ := cells3 g6; have k6 : Only (fun k => k = W.heap.size) wx.heap.size wx w6 := Only.next (Only.next hself.drew hww (.of_below hb5)) hww (.of_below hb6)))
        have qN := hide ((tN.out.drew.trans (hb5.mono (tN.out.size))).trans (hb6.mono (Nat.le_trans tN.out.size hb5.size)))
        clear x0' x1' x2' y0' y1' y2' hb5 hb6 k6 g6 hself hww hs5
        go_wp2
        refine bodyPost_ret (v := (bplus X (bminus Y)).v) (by simp [results, Try.results65, go_sem, f0, f1, f2, f3, f4, f5]) rfl ⟨by rw [hr.out], ?_⟩
        exact ((qN.out.setCell (by show W.heap.size ≤ W.heap.size; omega) _).setCell (by show W.heap.size ≤ W.heap.size; omega) _).setCell (by show W.heap.size ≤ W.heap.size; omega) _
      · have hr : Hid (_ = btimes X Y) := hide (rV3.out (by simp))
        go_wp2_with fail
        refine (rtimes_any X Y _ bx.out byy.out).mono ?_; rintro e w6 ⟨rfl, hb6⟩
        have q0 := (hb6.block _ z7).trans t0.out
        have qN := hide (tN.out.trans (hb6.mono tN.out.size))
        obtain ⟨⟨f0, f1, f2⟩, ⟨f3, f4, f5⟩⟩ := cells3 q0
        clear hb6 x0 x1 x2 y0 y1 y2 q0
        go_wp2
        refine bodyPost_ret (v := (btimes X Y).v) (by simp [results, Try.results65, go_sem, f0, f1, f2, f3, f4, f5]) rfl ⟨by rw [hr.out], ?_⟩
        exact ((qN.out.setCell (by show W.heap.size ≤ W.heap.size; omega) _).setCell (by show W.heap.size ≤ W.heap.size; omega) _).setCell (by show W.heap.size ≤ W.heap.size; omega) _
      · obtain ⟨g1, g2⟩ := rV4.out (by simp) h63
        have hle := pw_le63 hb0.out h63
        have hpos := pw_pos (b % pw w)
        have cpow : Hid (∀ W, Calls Try.prog 70 #[.int .u64 Y.lo] W fun e w' => e = .returned (big (pw (b % pw w))).v ∧ Below W.heap.size W w') := hide (fun W => by rw [g1]; exact rpower_any _ W hb0.out h63)
        obtain ⟨R, hR⟩ : ∃ R, big (pw (b % pw w)) = R := ⟨_, rfl⟩
        have bR : Hid (0 ≤ R.lo ∧ R.lo ≤ 18446744073709551615) := hide (by rw [← hR]; simp only [big]; omega)
        rw [hR] at g2 cpow
        have hr : Hid (_ = btimes X R) := hide g2
        clear g1 g2 hle hpos hR h63
        have x0' : ∀ w', Only (fun k => k = W.heap.size) wx.heap.size wx w' → w'.cell? ⟨w1.heap.size, 0, none⟩ = some (.int .u64 X.hi) := fun w' h => (h.cell (p := ⟨w1.heap.size, 0, none⟩) z8 n1).trans x0
        have x1' : ∀ w', Only (fun k => k = W.heap.size) wx.heap.size wx w' → w'.cell? ⟨w1.heap.size, 1, none⟩ = some (.int .u64 X.lo) := fun w' h => (h.cell (p := ⟨w1.heap.size, 1, none⟩) z8 n1).trans x1
        have x2' : ∀ w', Only (fun k => k = W.heap.size) wx.heap.size wx w' → w'.cell? ⟨w1.heap.size, 2, none⟩ = some (.bool X.below) := fun w' h => (h.cell (p := ⟨w1.heap.size, 2, none⟩) z8 n1).trans x2
        have y0' : ∀ w', Only (fun k => k = W.heap.size) wx.heap.size wx w' → w'.cell? ⟨w2.heap.size, 0, none⟩ = some (.int .u64 Y.hi) := fun w' h => (h.cell (p := ⟨w2.heap.size, 0, none⟩) z9 n2).trans y0
        have y1' : ∀ w', Only (fun k => k = W.heap.size) wx.heap.size wx w' → w'.cell? ⟨w2.heap.size, 1, none⟩ = some (.int .u64 Y.lo) := fun w' h => (h.cell (p := ⟨w2.heap.size, 1, none⟩) z9 n2).trans y1
        have y2' : ∀ w', Only (fun k => k = W.heap.size) wx.heap.size wx w' → w'.cell? ⟨w2.heap.size, 2, none⟩ = some (.bool Y.below) := fun w' h => (h.cell (p := ⟨w2.heap.size, 2, none⟩) z9 n2).trans y2
        clear x0 x1 x2 y0 y1 y2
        have hself := Only.refl (fun k => k = W.heap.size) wx.heap.size wx
        have hww := Nat.le_refl wx.heap.size
        go_wp2
        go_region_held3 (fun w' => Only (fun k => k = W.heap.size) wx.heap.size wx w') (first | assumption | exact hself.drew | exact Only.next (by assumption) hww (.of_below (by assumption)) | exact ((k6.setCell (p := ⟨W.heap.size, 0, none⟩) (.inl rfl) _).setCell (p := ⟨W.heap.size, 1, none⟩) (.inl rfl) _).setCell (p := ⟨W.heap.size, 2, none⟩) (.inl rfl) _)
          (first
            | (go_at_call 70; refine (cpow.out _).mono ?_; rintro e w5 ⟨rfl, hb5⟩; have hs5 : W.heap.size < w5.heap.size := Nat.lt_of_lt_of_le z7 hb5.size)
            | (go_at_call 77; refine (rtimes_any X R _ bx.out bR.out).mono ?_; rintro e w6 ⟨rfl, hb6⟩; have g6 := (hb6.block _ hs5).trans ((hb5.block _ z7).trans t0.out); obtain ⟨⟨f0, f1, f2⟩, ⟨f3, f4, f5⟩⟩ := cells3 g6; have k6 : Only (fun k => k = W.heap.size) wx.heap.size wx w6 := Only.next (Only.next hself.drew hww (.of_below hb5)) hww (.of_below hb6)))
        have qN := hide ((tN.out.drew.trans (hb5.mono (tN.out.size))).trans (hb6.mono (Nat.le_trans tN.out.size hb5.size)))
        clear x0' x1' x2' y0' y1' y2' hb5 hb6 k6 g6 hself hww hs5
        go_wp2
        refine bodyPost_ret (v := (btimes X R).v) (by simp [results, Try.results65, go_sem, f0, f1, f2, f3, f4, f5]) rfl ⟨by rw [hr.out], ?_⟩
        exact ((qN.out.setCell (by show W.heap.size ≤ W.heap.size; omega) _).setCell (by show W.heap.size ≤ W.heap.size; omega) _).setCell (by show W.heap.size ≤ W.heap.size; omega) _
end Go.Proofs.Ytmcleghbpdenlaa
