/- The reference of layer 1: divided, walked. No condition. -/
import Derived.Test.YtmcleghbpdenlaaBrI
namespace Go.Proofs.Ytmcleghbpdenlaa
open Go.RowKit
set_option linter.unusedSimpArgs false
set_option linter.unusedVariables false

theorem div_none {op w M A : Int} {n m e : Bool} (hop : 4 ≤ op ∧ op ≤ 7) : opS op w M A 0 n m e = (0, 2) := by
  unfold opS
  rw [if_neg (by omega), if_pos (by omega), if_pos (by simp [divOut])]
theorem cmpX_zero {w b : Int} {s : Bool} (h1 : 1 ≤ w) (h2 : w ≤ 64) (h : b % pw w ≠ 0) : cmpX s (pw w) b ≠ 0 := by
  obtain ⟨hM, hH, hw⟩ := wid h1 h2
  unfold cmpX
  split
  · rw [← sg_cut]
    intro h'
    exact h ((sg_zero h1 h2 ⟨Int.emod_nonneg b (by omega), Int.emod_lt_of_pos b (by omega)⟩).1 h')
  · exact h
theorem div_spec {op w a b f : Int} {s : Bool} (h1 : 1 ≤ w) (h2 : w ≤ 64) (hs : s = decide (op = 5 ∨ op = 7)) (hop : 4 ≤ op ∧ op ≤ 7) (hB : b % pw w ≠ 0) :
    opS op w (pw w) (a % pw w) (b % pw w) (nuw f) (nsw f) (exa f) =
      if fitS (pw w) ((cmpX s (pw w) a).tdiv (cmpX s (pw w) b)) s = true then
        (if op = 6 ∨ op = 7 then ((cmpX s (pw w) a).tmod (cmpX s (pw w) b) % pw w, 0) else if (exa f && (cmpX s (pw w) a).tmod (cmpX s (pw w) b) != 0) = true then (0, 1) else ((cmpX s (pw w) a).tdiv (cmpX s (pw w) b) % pw w, 0))
      else (0, 2) := by
  have hp := pw_pos w
  have ea := Int.emod_nonneg a (show pw w ≠ 0 by omega)
  have el := Int.emod_lt_of_pos a (show 0 < pw w by omega)
  have eb := Int.emod_nonneg b (show pw w ≠ 0 by omega)
  unfold opS
  rw [if_neg (by omega), if_pos (by omega)]
  by_cases g : op = 5 ∨ op = 7
  · have hs' : s = true := by rw [hs]; exact decide_eq_true g
    subst hs'
    have e1 : divQ op (pw w) (a % pw w) (b % pw w) = (cmpX true (pw w) a).tdiv (cmpX true (pw w) b) := by
      unfold divQ cmpX; rw [if_neg (by omega), if_pos rfl, if_pos rfl, sg_cut, sg_cut]
    have e2 : divR op (pw w) (a % pw w) (b % pw w) = (cmpX true (pw w) a).tmod (cmpX true (pw w) b) := by
      unfold divR cmpX; rw [if_neg (by omega), if_pos rfl, if_pos rfl, sg_cut, sg_cut]
    have e3 : divOut op (pw w) (a % pw w) (b % pw w) = !inR (pw w) ((cmpX true (pw w) a).tdiv (cmpX true (pw w) b)) := by
      unfold divOut cmpX
      rw [if_pos rfl, if_pos rfl, sg_cut, sg_cut]
      have g1 : (b % pw w == 0) = false := beq_eq_false_iff_ne.2 hB
      have g2 : (op == 4) = false := beq_eq_false_iff_ne.2 (by omega)
      have g3 : (op == 6) = false := beq_eq_false_iff_ne.2 (by omega)
      rw [g1, g2, g3]; simp
    rw [e1, e2, e3]
    have e4 : fitS (pw w) ((cmpX true (pw w) a).tdiv (cmpX true (pw w) b)) true = inR (pw w) ((cmpX true (pw w) a).tdiv (cmpX true (pw w) b)) := if_pos rfl
    rw [e4]
    cases inR (pw w) ((cmpX true (pw w) a).tdiv (cmpX true (pw w) b)) <;> simp
  · have hs' : s = false := by rw [hs]; exact decide_eq_false g
    subst hs'
    have c1 : cmpX false (pw w) a = a % pw w := if_neg (by decide)
    have c2 : cmpX false (pw w) b = b % pw w := if_neg (by decide)
    rw [c1, c2, Int.tdiv_eq_ediv_of_nonneg ea, Int.tmod_eq_emod_of_nonneg ea]
    have e1 : divQ op (pw w) (a % pw w) (b % pw w) = (a % pw w) / (b % pw w) := if_pos (by omega)
    have e2 : divR op (pw w) (a % pw w) (b % pw w) = (a % pw w) % (b % pw w) := if_pos (by omega)
    have e3 : divOut op (pw w) (a % pw w) (b % pw w) = false := by
      unfold divOut
      have g1 : (b % pw w == 0) = false := beq_eq_false_iff_ne.2 hB
      have g2 : (op == 4 || op == 6) = true := by simp; omega
      rw [g1, g2]; rfl
    have q0 := Int.ediv_nonneg ea eb
    have q1 := Int.ediv_le_self (b % pw w) ea
    have e4 : fitS (pw w) (a % pw w / (b % pw w)) false = true := by
      show (!outU (pw w) (a % pw w / (b % pw w))) = true
      unfold outU
      rw [decide_eq_false (show ¬ a % pw w / (b % pw w) < 0 by omega), decide_eq_false (show ¬ pw w ≤ a % pw w / (b % pw w) by omega)]; rfl
    rw [e1, e2, e3, e4]
    simp

set_option maxRecDepth 100000 in
set_option maxHeartbeats 1600000 in
theorem rdiv_any (op w f a b : Int) (W : World) (h1 : 1 ≤ w) (h2 : w ≤ 64) (ha : 0 ≤ a ∧ a ≤ 18446744073709551615) (hb : 0 ≤ b ∧ b ≤ 18446744073709551615) (hop : 4 ≤ op ∧ op ≤ 7) (hf : op = 6 ∨ op = 7 ∨ exa f = (f == 4)) :
    Calls Try.prog 52 #[.int .i64 op, .int .i64 w, .int .i64 f, .int .u64 a, .int .u64 b] W fun e w' => e = .returned (pairV (opS op w (pw w) (a % pw w) (b % pw w) (nuw f) (nsw f) (exa f))) ∧ Below W.heap.size W w' := by
  have hc : Hid (rcut w b = b % pw w) := hide (rcut_eq h2 hb.1 (by omega))
  by_cases h0 : b % pw w = 0
  · have e0 : Hid (opS op w (pw w) (a % pw w) (b % pw w) (nuw f) (nsw f) (exa f) = (0, 2)) := hide (by rw [h0]; exact div_none hop)
    replace hb := hide hb
    go_enter Try.func52, Try.ntmps52
    go_wp2_with fail
    refine (rcut_any w b _ (by omega) hb.out).mono ?_; rintro e w' ⟨rfl, rfl⟩
    rw [hc.out, h0]
    go_wp2
    go_ret2
    exact ⟨ret_pair e0.out, Below.refl _ _⟩
  obtain ⟨s, hs⟩ : ∃ s, s = decide (op = 5 ∨ op = 7) := ⟨_, rfl⟩
  have hcmp := div_spec (a := a) (f := f) h1 h2 hs hop h0
  obtain ⟨res, hres⟩ : ∃ c, opS op w (pw w) (a % pw w) (b % pw w) (nuw f) (nsw f) (exa f) = c := ⟨_, rfl⟩
  rw [hres] at hcmp ⊢
  have A1 := cmp_abs (a := a) (s := s) h1 h2
  have A2 := cmp_abs (a := b) (s := s) h1 h2
  have A3 := cmpX_zero (s := s) h1 h2 h0
  have hB0 : (b % pw w == 0) = false := beq_eq_false_iff_ne.2 h0
  obtain ⟨X, hX⟩ : ∃ X, big (cmpX s (pw w) a) = X := ⟨_, rfl⟩
  obtain ⟨Y, hY⟩ : ∃ Y, big (cmpX s (pw w) b) = Y := ⟨_, rfl⟩
  obtain ⟨P, hP⟩ : ∃ P, big (a % pw w) = P := ⟨_, rfl⟩
  obtain ⟨Q, hQ⟩ : ∃ Q, big (b % pw w) = Q := ⟨_, rfl⟩
  have hP' : Hid (∀ W, Calls Try.prog 67 #[.int .i64 w, .int .u64 a] W fun e w' => e = .returned P.v ∧ Below W.heap.size W w') := hide (fun W => by have := rplain_any w a W h1 h2 ha; rwa [hP] at this)
  have hQ' : Hid (∀ W, Calls Try.prog 67 #[.int .i64 w, .int .u64 b] W fun e w' => e = .returned Q.v ∧ Below W.heap.size W w') := hide (fun W => by have := rplain_any w b W h1 h2 hb; rwa [hQ] at this)
  have cWa : Hid (s = true → ∀ W, Calls Try.prog 57 #[.int .i64 w, .int .u64 a] W fun e w' => e = .returned X.v ∧ Below W.heap.size W w') := hide (fun hs W => by
    have := rwith_any w a W h1 h2 ha
    have e : cmpX s (pw w) a = sg (pw w) a := if_pos hs
    rwa [← e, hX] at this)
  have cWb : Hid (s = true → ∀ W, Calls Try.prog 57 #[.int .i64 w, .int .u64 b] W fun e w' => e = .returned Y.v ∧ Below W.heap.size W w') := hide (fun hs W => by
    have := rwith_any w b W h1 h2 hb
    have e : cmpX s (pw w) b = sg (pw w) b := if_pos hs
    rwa [← e, hY] at this)
  have pX : Hid (s = false → P = X) := hide (fun hs => by
    have e : cmpX s (pw w) a = a % pw w := if_neg (by rw [hs]; decide)
    rw [← hP, ← hX, e])
  have pY : Hid (s = false → Q = Y) := hide (fun hs => by
    have e : cmpX s (pw w) b = b % pw w := if_neg (by rw [hs]; decide)
    rw [← hQ, ← hY, e])
  obtain ⟨q, hq⟩ : ∃ q, (cmpX s (pw w) a).tdiv (cmpX s (pw w) b) = q := ⟨_, rfl⟩
  obtain ⟨r, hr⟩ : ∃ r, (cmpX s (pw w) a).tmod (cmpX s (pw w) b) = r := ⟨_, rfl⟩
  have hbq : bquo X Y = big q := by rw [← hX, ← hY, bquo_big A1 A2 A3, hq]
  have hbr : brem X Y = big r := by rw [← hX, ← hY, brem_big A1 A2 A3, hr]
  have hra : r.natAbs < 18446744073709551616 := by
    rw [← hr, Int.natAbs_tmod]
    exact Nat.lt_of_le_of_lt (Nat.mod_le _ _) A1
  have hrl : ((big r).lo == 0) = (r == 0) := by
    rw [big_lo (by omega) (by omega), Bool.eq_iff_iff, beq_iff_eq, beq_iff_eq]; omega
  have bx : Hid (0 ≤ X.lo ∧ X.lo ≤ 18446744073709551615) := hide (by rw [← hX]; simp only [big]; omega)
  have byy : Hid (1 ≤ Y.lo ∧ Y.lo ≤ 18446744073709551615) := hide (by rw [← hY, big_lo (by omega) (by omega)]; omega)
  have cQ : Hid (∀ W, Calls Try.prog 68 #[X.v, Y.v] W fun e w' => e = .returned (.tuple #[(big q).v, (big r).v]) ∧ Below W.heap.size W w') := hide (fun W => by
    have := rquot_any X Y W bx.out byy.out
    rwa [hbq, hbr] at this)
  obtain ⟨ok, hok⟩ : ∃ ok, fitS (pw w) q s = ok := ⟨_, rfl⟩
  have cF : Hid (∀ W, Calls Try.prog 66 #[.int .i64 w, (big q).v, .bool s] W fun e w' => e = .returned (.bool ok) ∧ Below W.heap.size W w') := hide (fun W => by
    cases s
    · rw [← hok]; exact rfits_plain w q W h1 h2
    · rw [← hok]; exact rfits_sign w q W h1 h2)
  have cWq : Hid (∀ W, Calls Try.prog 56 #[.int .i64 w, (big q).v] W fun e w' => e = .returned (.int .u64 (q % pw w)) ∧ Below W.heap.size W w') := hide (fun W => rwrapped_any w q W h1 h2)
  have cWr : Hid (∀ W, Calls Try.prog 56 #[.int .i64 w, (big r).v] W fun e w' => e = .returned (.int .u64 (r % pw w)) ∧ Below W.heap.size W w') := hide (fun W => rwrapped_any w r W h1 h2)
  rw [hq, hr, hok] at hcmp
  obtain ⟨EQ, hEQ⟩ : ∃ E, big q = E := ⟨_, rfl⟩
  obtain ⟨ER, hER⟩ : ∃ E, big r = E := ⟨_, rfl⟩
  have hrl' : Hid ((ER.lo == 0) = (r == 0)) := hide (by rw [← hER]; exact hrl)
  rw [hEQ, hER] at cQ
  rw [hEQ] at cF cWq
  rw [hER] at cWr
  replace hcmp := hide hcmp
  have t5 : (op == 5) = true ∧ s = true ∨ (op == 5) = false ∧ (op == 7) = s := by
    by_cases g : op = 5
    · exact .inl ⟨beq_iff_eq.2 g, by rw [hs]; exact decide_eq_true (.inl g)⟩
    · refine .inr ⟨beq_eq_false_iff_ne.2 g, ?_⟩
      rw [hs, Bool.eq_iff_iff]; simp [g]
  replace t5 := hide t5
  have o4 : op = 4 ∨ op = 5 ∨ op = 6 ∨ op = 7 := by omega
  replace o4 := hide o4
  replace hf := hide hf
  replace hs := hide hs
  replace hb := hide hb
  clear A1 A2 A3 hX hY hP hQ hres ha hop h0 hq hr hbq hbr hra hrl hok hEQ hER
  go_enter Try.func52, Try.ntmps52
  go_wp2_with fail
  refine (rcut_any w b _ (by omega) hb.out).mono ?_; rintro e w' ⟨rfl, rfl⟩
  rw [hc.out]
  go_wp2_with fail
  refine (hP'.out _).mono ?_; rintro e w1 ⟨rfl, hb1⟩
  have hN1 := hide hb1
  clear hb1
  go_wp2_with fail
  refine (hQ'.out _).mono ?_; rintro e w2 ⟨rfl, hb2⟩
  have q2 : w2.heap[w1.heap.size]? = some (.cells #[.int .u64 P.hi, .int .u64 P.lo, .bool P.below] 71 (0, 0)) := (hb2.block _ (by simp)).trans (box_top w1 _)
  have z2 : w1.heap.size < w2.heap.size := lt_of_get q2
  have z1 := hN1.out.size
  have hN2 := hide (hN1.out.trans ((under1 hb2).mono hN1.out.size))
  clear hb2
  go_upto_region 5 with (fail)
  have t1 : ((w2.alloc (.cells #[.int .u64 Q.hi, .int .u64 Q.lo, .bool Q.below] 71)).heap[w1.heap.size]? = some (.cells #[.int .u64 P.hi, .int .u64 P.lo, .bool P.below] 71 (0, 0))) := one_alloc q2 _
  have t2 : ((w2.alloc (.cells #[.int .u64 Q.hi, .int .u64 Q.lo, .bool Q.below] 71)).heap[w2.heap.size]? = some (.cells #[.int .u64 Q.hi, .int .u64 Q.lo, .bool Q.below] 71 (0, 0))) := box_top w2 _
  have tN : Below W.heap.size W (w2.alloc (.cells #[.int .u64 Q.hi, .int .u64 Q.lo, .bool Q.below] 71)) := hN2.out.alloc hN2.out.size _
  obtain ⟨w9, hw9⟩ : ∃ w9, w9 = w2.alloc (.cells #[.int .u64 Q.hi, .int .u64 Q.lo, .bool Q.below] 71) := ⟨_, rfl⟩
  rw [← hw9] at t1 t2 tN
  rw [← hw9]
  replace t1 := hide t1
  replace t2 := hide t2
  replace tN := hide tN
  clear hw9 q2 hN2 hN1 hP' hQ'
  go_cut [32] (fun s32 wx => s32 = .bool s ∧ wx = w9)
  case first =>
    rcases t5.out with ⟨b1, rfl⟩ | ⟨b1, b2⟩
    · go_wp2_with fail
      go_meet
      exact ⟨rfl, rfl⟩
    · go_wp2_with fail
      go_meet
      exact ⟨rfl, rfl⟩
  case rest =>
    obtain ⟨rfl, rfl⟩ := hcut
    clear t5
    go_upto_if 32 with (fail)
    go_cut [33, 34, 35, 36, 37, 38] (fun s33 s34 s35 s36 s37 s38 wx => Hid (wx.heap[w1.heap.size]? = some (.cells #[.int .u64 X.hi, .int .u64 X.lo, .bool X.below] 71 (0, 0))) ∧ Hid (wx.heap[w2.heap.size]? = some (.cells #[.int .u64 Y.hi, .int .u64 Y.lo, .bool Y.below] 71 (0, 0))) ∧ Hid (Below W.heap.size W wx))
    case first =>
      cases s
      · obtain rfl : P = X := pX.out (by simp)
        obtain rfl : Q = Y := pY.out (by simp)
        go_wp2_with fail
        go_meet
        exact ⟨t1, t2, tN⟩
      · have z9 := lt_of_get t2.out
        have n3 : ¬ w1.heap.size = w2.heap.size := by omega
        go_wp2_with fail
        refine (cWa.out (by simp) _).mono ?_; rintro e w3 ⟨rfl, hb3⟩
        have f1 := (hb3.block _ (by omega)).trans t1.out
        have f2 := (hb3.block _ z9).trans t2.out
        have z3 := hb3.size
        have fN := tN.out.trans (hb3.mono tN.out.size)
        clear hb3
        obtain ⟨⟨c0, c1, c2⟩, ⟨c3, c4, c5⟩⟩ := cells3 f1
        obtain ⟨gN, g1, g2⟩ := three_sets (n := w1.heap.size) (m := w2.heap.size) (x := .int .u64 X.hi) (y := .int .u64 X.lo) (z := .bool X.below) (by omega) (by omega) fN f1 f2
        replace f1 := hide f1
        replace f2 := hide f2
        replace fN := hide fN
        replace gN := hide gN
        replace g1 := hide g1
        replace g2 := hide g2
        go_wp2_with fail
        refine (cWb.out (by simp) _).mono ?_; rintro e w5 ⟨rfl, hb5⟩
        have gs := hb5.size
        simp only [setCell_size] at gs
        have d1 := (hb5.block _ (by simp only [setCell_size]; omega)).trans g1.out
        have d2 := (hb5.block _ (by simp only [setCell_size]; omega)).trans g2.out
        have dN := gN.out.trans (hb5.mono (by simp only [setCell_size]; omega))
        clear hb5
        obtain ⟨⟨y0, y1, y2⟩, ⟨y3, y4, y5⟩⟩ := cells3 d2
        obtain ⟨iN, i2, i1⟩ := three_sets (n := w2.heap.size) (m := w1.heap.size) (x := .int .u64 Y.hi) (y := .int .u64 Y.lo) (z := .bool Y.below) (by omega) (by omega) dN d2 d1
        replace i1 := hide i1
        replace i2 := hide i2
        replace iN := hide iN
        clear d1 d2 dN c0 c1 c2 c3 c4 c5
        go_wp2_with fail
        go_meet
        exact ⟨i1, i2, iN⟩
    case rest =>
      obtain ⟨t1, t2, tN⟩ := hcut
      obtain ⟨wx, rfl⟩ : ∃ w : World, w = wc := ⟨_, rfl⟩
      obtain ⟨⟨x0, x1, x2⟩, -⟩ := cells3 t1.out
      obtain ⟨⟨y0, y1, y2⟩, -⟩ := cells3 t2.out
      go_wp2_with fail
      refine (cQ.out _).mono ?_; rintro e w3 ⟨rfl, hb3⟩
      have z3 := Nat.le_trans tN.out.size hb3.size
      have hN3 := hide (tN.out.trans (hb3.mono tN.out.size))
      clear hb3 x0 x1 x2 y0 y1 y2 t1 t2 tN
      go_upto_region 9 with (fail)
      have k1 : ((w3.alloc (.cells #[.int .u64 EQ.hi, .int .u64 EQ.lo, .bool EQ.below] 71)).alloc (.cells #[.int .u64 ER.hi, .int .u64 ER.lo, .bool ER.below] 71)).heap[w3.heap.size]? = some (.cells #[.int .u64 EQ.hi, .int .u64 EQ.lo, .bool EQ.below] 71 (0, 0)) := box_under _ _ _
      have k2 : ((w3.alloc (.cells #[.int .u64 EQ.hi, .int .u64 EQ.lo, .bool EQ.below] 71)).alloc (.cells #[.int .u64 ER.hi, .int .u64 ER.lo, .bool ER.below] 71)).heap[w3.heap.size + 1]? = some (.cells #[.int .u64 ER.hi, .int .u64 ER.lo, .bool ER.below] 71 (0, 0)) := by have := box_top (w3.alloc (.cells #[.int .u64 EQ.hi, .int .u64 EQ.lo, .bool EQ.below] 71)) (.cells #[.int .u64 ER.hi, .int .u64 ER.lo, .bool ER.below] 71); simpa using this
      have kN : Below W.heap.size W ((w3.alloc (.cells #[.int .u64 EQ.hi, .int .u64 EQ.lo, .bool EQ.below] 71)).alloc (.cells #[.int .u64 ER.hi, .int .u64 ER.lo, .bool ER.below] 71)) := (hN3.out.alloc z3 _).alloc (by simp; omega) _
      obtain ⟨w8, hw8⟩ : ∃ w8, w8 = (w3.alloc (.cells #[.int .u64 EQ.hi, .int .u64 EQ.lo, .bool EQ.below] 71)).alloc (.cells #[.int .u64 ER.hi, .int .u64 ER.lo, .bool ER.below] 71) := ⟨_, rfl⟩
      rw [← hw8] at k1 k2 kN
      rw [← hw8]
      clear hw8 hN3
      have l1 := lt_of_get k1
      have l2 := lt_of_get k2
      obtain ⟨⟨x0, x1, x2⟩, -⟩ := cells3 k1
      replace k1 := hide k1
      replace k2 := hide k2
      replace kN := hide kN
      have hs6 := hs.out
      rcases o4.out with rfl | rfl | rfl | rfl
      all_goals cases s
      all_goals first
        | (exfalso; revert hs6; decide)
        | clear hs6 hs
      all_goals
        cases ok
        · have e0 : Hid (res = (0, 2)) := hide (by have := hcmp.out; simpa using this)
          go_wp2_with (go_at_call 66; refine (cF.out _).mono ?_; rintro e w4 ⟨rfl, hb4⟩; have m1 := (hb4.block _ l1).trans k1.out; have m2 := (hb4.block _ l2).trans k2.out; have mN := hide (kN.out.trans (hb4.mono kN.out.size)); clear hb4 x0 x1 x2; obtain ⟨⟨x0, x1, x2⟩, -⟩ := cells3 m1; obtain ⟨⟨y0, y1, y2⟩, -⟩ := cells3 m2; clear m1 m2)
          go_ret2
          exact ⟨ret_pair e0.out, mN.out⟩
        · first
            | (have e0 : Hid (res = (r % pw w, 0)) := hide (by have := hcmp.out; simpa using this)
               go_wp2_with (first | (go_at_call 66; refine (cF.out _).mono ?_; rintro e w4 ⟨rfl, hb4⟩; have m1 := (hb4.block _ l1).trans k1.out; have m2 := (hb4.block _ l2).trans k2.out; have mN := hide (kN.out.trans (hb4.mono kN.out.size)); clear hb4 x0 x1 x2; obtain ⟨⟨x0, x1, x2⟩, -⟩ := cells3 m1; obtain ⟨⟨y0, y1, y2⟩, -⟩ := cells3 m2; clear m1 m2) | (go_at_call 56; refine (cWr.out _).mono ?_; rintro e w5 ⟨rfl, hb5⟩; have mN5 := hide (mN.out.trans (hb5.mono mN.out.size))))
               go_ret2
               exact ⟨ret_pair e0.out, mN5.out⟩)
            | (have hx := hf.out.resolve_left (by decide) |>.resolve_left (by decide)
               have hrr := hrl'.out
               cases g1 : (f == 4)
               · have e0 : Hid (res = (q % pw w, 0)) := hide (by have := hcmp.out; rw [hx, g1] at this; simpa using this)
                 clear hx hrr
                 go_wp2_with (first | (go_at_call 66; refine (cF.out _).mono ?_; rintro e w4 ⟨rfl, hb4⟩; have m1 := (hb4.block _ l1).trans k1.out; have m2 := (hb4.block _ l2).trans k2.out; have mN := hide (kN.out.trans (hb4.mono kN.out.size)); clear hb4 x0 x1 x2; obtain ⟨⟨x0, x1, x2⟩, -⟩ := cells3 m1; obtain ⟨⟨y0, y1, y2⟩, -⟩ := cells3 m2; clear m1 m2) | (go_at_call 56; refine (cWq.out _).mono ?_; rintro e w5 ⟨rfl, hb5⟩; have mN5 := hide (mN.out.trans (hb5.mono mN.out.size))))
                 go_ret2
                 exact ⟨ret_pair e0.out, mN5.out⟩
               · cases g2 : (ER.lo == 0)
                 · have e0 : Hid (res = (0, 1)) := hide (by have := hcmp.out; rw [hx, g1, bne, ← hrr, g2] at this; simpa using this)
                   clear hx hrr
                   go_wp2_with (go_at_call 66; refine (cF.out _).mono ?_; rintro e w4 ⟨rfl, hb4⟩; have m1 := (hb4.block _ l1).trans k1.out; have m2 := (hb4.block _ l2).trans k2.out; have mN := hide (kN.out.trans (hb4.mono kN.out.size)); clear hb4 x0 x1 x2; obtain ⟨⟨x0, x1, x2⟩, -⟩ := cells3 m1; obtain ⟨⟨y0, y1, y2⟩, -⟩ := cells3 m2; clear m1 m2)
                   go_ret2
                   exact ⟨ret_pair e0.out, mN.out⟩
                 · have e0 : Hid (res = (q % pw w, 0)) := hide (by have := hcmp.out; rw [hx, g1, bne, ← hrr, g2] at this; simpa using this)
                   clear hx hrr
                   go_wp2_with (first | (go_at_call 66; refine (cF.out _).mono ?_; rintro e w4 ⟨rfl, hb4⟩; have m1 := (hb4.block _ l1).trans k1.out; have m2 := (hb4.block _ l2).trans k2.out; have mN := hide (kN.out.trans (hb4.mono kN.out.size)); clear hb4 x0 x1 x2; obtain ⟨⟨x0, x1, x2⟩, -⟩ := cells3 m1; obtain ⟨⟨y0, y1, y2⟩, -⟩ := cells3 m2; clear m1 m2) | (go_at_call 56; refine (cWq.out _).mono ?_; rintro e w5 ⟨rfl, hb5⟩; have mN5 := hide (mN.out.trans (hb5.mono mN.out.size))))
                   go_ret2
                   exact ⟨ret_pair e0.out, mN5.out⟩)
end Go.Proofs.Ytmcleghbpdenlaa
