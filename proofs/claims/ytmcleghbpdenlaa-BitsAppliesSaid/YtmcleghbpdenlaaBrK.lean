/- The reference of layer 1: right, walked. No condition. -/
import Derived.Test.YtmcleghbpdenlaaBrJ
namespace Go.Proofs.Ytmcleghbpdenlaa
open Go.RowKit
set_option linter.unusedSimpArgs false
set_option linter.unusedVariables false

theorem right_none {op w M A B : Int} {n m e : Bool} (hop : op = 12 ∨ op = 13) (h : w ≤ B) : opS op w M A B n m e = (0, 1) := by
  unfold opS
  rw [if_neg (by omega), if_neg (by omega), if_neg (by omega), if_pos (by omega), if_pos h]
theorem right_spec {op w a b f : Int} {s : Bool} (h1 : 1 ≤ w) (h2 : w ≤ 64) (hs : s = (op == 13)) (hop : op = 12 ∨ op = 13) (h0 : 0 ≤ b % pw w) (h : b % pw w < w) :
    opS op w (pw w) (a % pw w) (b % pw w) (nuw f) (nsw f) (exa f) =
      if (exa f && (cmpX s (pw w) a).tmod (pw (b % pw w)) != 0) = true then (0, 1) else ((if (cmpX s (pw w) a).tmod (pw (b % pw w)) < 0 then (cmpX s (pw w) a).tdiv (pw (b % pw w)) - 1 else (cmpX s (pw w) a).tdiv (pw (b % pw w))) % pw w, 0) := by
  have hp := pw_pos w
  have ea := Int.emod_nonneg a (show pw w ≠ 0 by omega)
  rw [floor_law (pw_pos _)]
  unfold opS
  rw [if_neg (by omega), if_neg (by omega), if_neg (by omega), if_pos (by omega), if_neg (by omega)]
  have e1 : shBad op (pw w) (a % pw w) (b % pw w) (nuw f) (nsw f) (exa f) = (exa f && (a % pw w) % pw (b % pw w) != 0) := if_neg (by omega)
  rw [e1]
  rcases hop with rfl | rfl
  · obtain rfl : s = false := hs
    have c1 : cmpX false (pw w) a = a % pw w := if_neg (by decide)
    have e2 : shV 12 (pw w) (a % pw w) (b % pw w) = a % pw w / pw (b % pw w) := by unfold shV; rw [if_neg (by decide), if_pos rfl]
    rw [c1, e2, Int.tmod_eq_emod_of_nonneg ea]
  · obtain rfl : s = true := hs
    have c1 : cmpX true (pw w) a = sg (pw w) a := if_pos rfl
    have e2 : shV 13 (pw w) (a % pw w) (b % pw w) = sg (pw w) a / pw (b % pw w) := by unfold shV; rw [if_neg (by decide), if_neg (by decide), sg_cut]
    have e3 := ashr_rest (A := a % pw w) h1 h0 h
    rw [sg_cut] at e3
    have e4 : ((sg (pw w) a).tmod (pw (b % pw w)) != 0) = (((sg (pw w) a).tmod (pw (b % pw w))).natAbs != 0) := by
      rw [Bool.eq_iff_iff, bne_iff_ne, bne_iff_ne]; omega
    rw [c1, e2, e4, e3]

theorem box_top1 (w : World) (o o' : Obj) : ((w.alloc o).alloc o').heap[w.heap.size + 1]? = some o' := by have := box_top (w.alloc o) o'; simpa using this
theorem box_top3 (w : World) (p q r : Addr) (x y z : Value) (o : Obj) : ((((w.setCell p x).setCell q y).setCell r z).alloc o).heap[w.heap.size]? = some o := by
  have := box_top (((w.setCell p x).setCell q y).setCell r z) o
  simpa only [setCell_size] using this

set_option maxRecDepth 100000 in
set_option maxHeartbeats 40000000 in
theorem rright_any (op w f a b : Int) (W : World) (h1 : 1 ≤ w) (h2 : w ≤ 64) (ha : 0 ≤ a ∧ a ≤ 18446744073709551615) (hb : 0 ≤ b ∧ b ≤ 18446744073709551615) (hop : op = 12 ∨ op = 13) (hf : exa f = (f == 4)) :
    Calls Try.prog 54 #[.int .i64 op, .int .i64 w, .int .i64 f, .int .u64 a, .int .u64 b] W fun e w' => e = .returned (pairV (opS op w (pw w) (a % pw w) (b % pw w) (nuw f) (nsw f) (exa f))) ∧ Below W.heap.size W w' := by
  have hc : Hid (rcut w b = b % pw w) := hide (rcut_eq h2 hb.1 (by omega))
  have hww : IntKind.u64.wrap w = w := by rw [wrap_u]; omega
  have hb0 : 0 ≤ b % pw w := Int.emod_nonneg b (by have := pw_pos w; omega)
  by_cases h0 : w ≤ b % pw w
  · have e0 : Hid (opS op w (pw w) (a % pw w) (b % pw w) (nuw f) (nsw f) (exa f) = (0, 1)) := hide (right_none hop h0)
    replace hb := hide hb
    go_enter Try.func54, Try.ntmps54
    go_wp2_with fail
    refine (rcut_any w b _ (by omega) hb.out).mono ?_; rintro e w' ⟨rfl, rfl⟩
    rw [hc.out]
    go_wp2
    go_ret2
    exact ⟨ret_pair e0.out, Below.refl _ _⟩
  have hlt : b % pw w < w := by omega
  obtain ⟨s, hs⟩ : ∃ s, s = (op == 13) := ⟨_, rfl⟩
  have hcmp := right_spec (a := a) (f := f) h1 h2 hs hop hb0 hlt
  obtain ⟨res, hres⟩ : ∃ c, opS op w (pw w) (a % pw w) (b % pw w) (nuw f) (nsw f) (exa f) = c := ⟨_, rfl⟩
  rw [hres] at hcmp ⊢
  obtain ⟨B, hB⟩ : ∃ B, b % pw w = B := ⟨_, rfl⟩
  rw [hB] at hcmp hlt hb0 hc h0
  have A1 := cmp_abs (a := a) (s := s) h1 h2
  have hp1 := pw_pos B
  have hp2 := pw_le63 (w := B) hb0 (by omega)
  have cP : Hid (∀ W, Calls Try.prog 70 #[.int .u64 B] W fun e w' => e = .returned (big (pw B)).v ∧ Below W.heap.size W w') := hide (fun W => rpower_any B W hb0 (by omega))
  obtain ⟨X, hX⟩ : ∃ X, big (cmpX s (pw w) a) = X := ⟨_, rfl⟩
  obtain ⟨Y, hY⟩ : ∃ Y, big (pw B) = Y := ⟨_, rfl⟩
  obtain ⟨P, hP⟩ : ∃ P, big (a % pw w) = P := ⟨_, rfl⟩
  rw [hY] at cP
  have hP' : Hid (∀ W, Calls Try.prog 67 #[.int .i64 w, .int .u64 a] W fun e w' => e = .returned P.v ∧ Below W.heap.size W w') := hide (fun W => by have := rplain_any w a W h1 h2 ha; rwa [hP] at this)
  have cWa : Hid (s = true → ∀ W, Calls Try.prog 57 #[.int .i64 w, .int .u64 a] W fun e w' => e = .returned X.v ∧ Below W.heap.size W w') := hide (fun hs W => by
    have := rwith_any w a W h1 h2 ha
    have e : cmpX s (pw w) a = sg (pw w) a := if_pos hs
    rwa [← e, hX] at this)
  have pX : Hid (s = false → P = X) := hide (fun hs => by
    have e : cmpX s (pw w) a = a % pw w := if_neg (by rw [hs]; decide)
    rw [← hP, ← hX, e])
  obtain ⟨q, hq⟩ : ∃ q, (cmpX s (pw w) a).tdiv (pw B) = q := ⟨_, rfl⟩
  obtain ⟨r, hr⟩ : ∃ r, (cmpX s (pw w) a).tmod (pw B) = r := ⟨_, rfl⟩
  have hbq : bquo X Y = big q := by rw [← hX, ← hY, bquo_big A1 (by omega) (by omega), hq]
  have hbr : brem X Y = big r := by rw [← hX, ← hY, brem_big A1 (by omega) (by omega), hr]
  have hra : r.natAbs < 18446744073709551616 := by
    rw [← hr, Int.natAbs_tmod]
    exact Nat.lt_of_le_of_lt (Nat.mod_le _ _) A1
  have hqa : q.natAbs < 18446744073709551616 := by
    rw [← hq, Int.natAbs_tdiv]
    exact Nat.lt_of_le_of_lt (Nat.div_le_self _ _) A1
  have hrl : ((big r).lo == 0) = (r == 0) := by
    rw [big_lo (by omega) (by omega), Bool.eq_iff_iff, beq_iff_eq, beq_iff_eq]; omega
  have hrb : (big r).below = decide (r < 0) := rfl
  have bx : Hid (0 ≤ X.lo ∧ X.lo ≤ 18446744073709551615) := hide (by rw [← hX]; simp only [big]; omega)
  have byy : Hid (1 ≤ Y.lo ∧ Y.lo ≤ 18446744073709551615) := hide (by rw [← hY, big_lo (by omega) (by omega)]; omega)
  have cQ : Hid (∀ W, Calls Try.prog 68 #[X.v, Y.v] W fun e w' => e = .returned (.tuple #[(big q).v, (big r).v]) ∧ Below W.heap.size W w') := hide (fun W => by
    have := rquot_any X Y W bx.out byy.out
    rwa [hbq, hbr] at this)
  have hdn : bplus (big q) ⟨0, 1, true⟩ = big (q - 1) := by
    rw [show (⟨0, 1, true⟩ : Big) = big (-1) from rfl, bplus_big (by omega), Int.sub_eq_add_neg]
  have cWq : Hid (∀ W, Calls Try.prog 56 #[.int .i64 w, (big q).v] W fun e w' => e = .returned (.int .u64 (q % pw w)) ∧ Below W.heap.size W w') := hide (fun W => rwrapped_any w q W h1 h2)
  have cWd : Hid (∀ W, Calls Try.prog 56 #[.int .i64 w, (big (q - 1)).v] W fun e w' => e = .returned (.int .u64 ((q - 1) % pw w)) ∧ Below W.heap.size W w') := hide (fun W => rwrapped_any w (q - 1) W h1 h2)
  rw [hq, hr] at hcmp
  obtain ⟨EQ, hEQ⟩ : ∃ E, big q = E := ⟨_, rfl⟩
  obtain ⟨ER, hER⟩ : ∃ E, big r = E := ⟨_, rfl⟩
  obtain ⟨ED, hED⟩ : ∃ E, big (q - 1) = E := ⟨_, rfl⟩
  have cD : Hid (∀ W, Calls Try.prog 71 #[EQ.v, (Big.mk 0 1 true).v] W fun e w' => e = .returned ED.v ∧ Below W.heap.size W w') := hide (fun W => by
    have := rplus_any EQ ⟨0, 1, true⟩ W
    rwa [← hEQ, hdn, hED, hEQ] at this)
  have hrl' : Hid ((ER.lo == 0) = (r == 0)) := hide (by rw [← hER]; exact hrl)
  have hrb' : Hid (ER.below = decide (r < 0)) := hide (by rw [← hER]; exact hrb)
  rw [hEQ, hER] at cQ
  rw [hEQ] at cWq
  rw [hED] at cWd
  obtain ⟨vq, hvq⟩ : ∃ v, q % pw w = v := ⟨_, rfl⟩
  obtain ⟨vd, hvd⟩ : ∃ v, (q - 1) % pw w = v := ⟨_, rfl⟩
  have hcmp' : res = if (exa f && r != 0) = true then (0, 1) else (if r < 0 then vd else vq, 0) := by
    rw [hcmp, ← hvq, ← hvd]
    by_cases g : r < 0
    · rw [if_pos g, if_pos g]
    · rw [if_neg g, if_neg g]
  rw [hvq] at cWq
  rw [hvd] at cWd
  replace hcmp' := hide hcmp'
  have o13 : (op == 13) = s := hs.symm
  replace hf := hide hf
  replace hb := hide hb
  clear hcmp A1 hX hY hP hres ha hop hq hr hbq hbr hra hqa hrl hrb hEQ hER hED hdn hs hp1 hp2 hB hvq hvd
  go_enter Try.func54, Try.ntmps54
  go_wp2_with fail
  refine (rcut_any w b _ (by omega) hb.out).mono ?_; rintro e w' ⟨rfl, rfl⟩
  rw [hc.out]
  go_wp2_with fail
  refine (hP'.out _).mono ?_; rintro e w1 ⟨rfl, hb1⟩
  have hN1 := hide hb1
  have z1 := hN1.out.size
  clear hb1
  go_upto_if 27 with (fail)
  have t1 : (w1.alloc (.cells #[.int .u64 P.hi, .int .u64 P.lo, .bool P.below] 71)).heap[w1.heap.size]? = some (.cells #[.int .u64 P.hi, .int .u64 P.lo, .bool P.below] 71 (0, 0)) := box_top w1 _
  have tN : Below W.heap.size W (w1.alloc (.cells #[.int .u64 P.hi, .int .u64 P.lo, .bool P.below] 71)) := hN1.out.alloc hN1.out.size _
  obtain ⟨w9, hw9⟩ : ∃ w9, w9 = w1.alloc (.cells #[.int .u64 P.hi, .int .u64 P.lo, .bool P.below] 71) := ⟨_, rfl⟩
  rw [← hw9] at t1 tN
  rw [← hw9]
  replace t1 := hide t1
  replace tN := hide tN
  clear hw9 hN1 hP'
  go_cut [28, 29, 30] (fun s28 s29 s30 wx => Hid (wx.heap[w1.heap.size]? = some (.cells #[.int .u64 X.hi, .int .u64 X.lo, .bool X.below] 71 (0, 0))) ∧ Hid (Below W.heap.size W wx))
  case first =>
    cases s
    · obtain rfl : P = X := pX.out (by simp)
      go_wp2_with fail
      go_meet
      exact ⟨t1, tN⟩
    · go_wp2_with fail
      refine (cWa.out (by simp) _).mono ?_; rintro e w3 ⟨rfl, hb3⟩
      have f1 := (hb3.block _ (lt_of_get t1.out)).trans t1.out
      have fN := tN.out.trans (hb3.mono tN.out.size)
      clear hb3
      obtain ⟨⟨c0, c1, c2⟩, ⟨c3, c4, c5⟩⟩ := cells3 f1
      have g1 := hide (set3 (x := .int .u64 X.hi) (y := .int .u64 X.lo) (z := .bool X.below) f1)
      have gN : Hid (Below W.heap.size W (((w3.setCell ⟨w1.heap.size, 0, none⟩ (.int .u64 X.hi)).setCell ⟨w1.heap.size, 1, none⟩ (.int .u64 X.lo)).setCell ⟨w1.heap.size, 2, none⟩ (.bool X.below))) := hide (((fN.setCell (p := ⟨w1.heap.size, 0, none⟩) z1 _).setCell (p := ⟨w1.heap.size, 1, none⟩) z1 _).setCell (p := ⟨w1.heap.size, 2, none⟩) z1 _)
      replace f1 := hide f1
      replace fN := hide fN
      go_wp2_with fail
      go_meet
      exact ⟨g1, gN⟩
  case rest =>
    obtain ⟨t1, tN⟩ := hcut
    obtain ⟨wx, rfl⟩ : ∃ w : World, w = wc := ⟨_, rfl⟩
    have z8 := lt_of_get t1.out
    obtain ⟨⟨x0, x1, x2⟩, -⟩ := cells3 t1.out
    have x0' : ∀ w', Below wx.heap.size wx w' → w'.cell? ⟨w1.heap.size, 0, none⟩ = some (.int .u64 X.hi) := fun w' h => (h.cell (p := ⟨w1.heap.size, 0, none⟩) z8).trans x0
    have x1' : ∀ w', Below wx.heap.size wx w' → w'.cell? ⟨w1.heap.size, 1, none⟩ = some (.int .u64 X.lo) := fun w' h => (h.cell (p := ⟨w1.heap.size, 1, none⟩) z8).trans x1
    have x2' : ∀ w', Below wx.heap.size wx w' → w'.cell? ⟨w1.heap.size, 2, none⟩ = some (.bool X.below) := fun w' h => (h.cell (p := ⟨w1.heap.size, 2, none⟩) z8).trans x2
    clear x0 x1 x2
    have hself := Below.refl wx.heap.size wx
    have hww := Nat.le_refl wx.heap.size
    go_upto_region 7 with (fail)
    go_cut [14, 15] (fun s14 s15 wy => ∃ g h : Nat, s14 = .pointer (some ⟨g, 0, none⟩) ∧ s15 = .pointer (some ⟨h, 0, none⟩) ∧ wx.heap.size ≤ g ∧ wx.heap.size ≤ h ∧ g ≠ h ∧ Hid (wy.heap[g]? = some (.cells #[.int .u64 EQ.hi, .int .u64 EQ.lo, .bool EQ.below] 71 (0, 0))) ∧ Hid (wy.heap[h]? = some (.cells #[.int .u64 ER.hi, .int .u64 ER.lo, .bool ER.below] 71 (0, 0))) ∧ Hid (Below wx.heap.size wx wy))
    case first =>
      go_region_held3 (fun w' => Below wx.heap.size wx w') (first | (with_reducible assumption) | (with_reducible exact hself.drew) | ((repeat' with_reducible (first | assumption | exact hself.drew | exact Nat.le_refl _ | refine Below.drew ?_ | refine Below.setCell ?_ ?_ _ | refine Below.alloc ?_ ?_ _)) <;> (first | (show wx.heap.size ≤ _; omega) | (show wx.heap.size ≤ _; simp <;> omega))))
        (first
          | (go_at_call 70; refine (cP.out _).mono ?_; rintro e w3 ⟨rfl, hb3⟩; obtain ⟨hc3, hf3⟩ := bcell hb3; have hk3 : Below wx.heap.size wx w3 := below_next (by assumption) hww hb3; have hl3 := hk3.size; (try have hs3 : wx.heap.size < w3.heap.size := by have := hb3.size; (try simp at this); omega); (try have hs3' : wx.heap.size + 1 < w3.heap.size := by have := hb3.size; (try simp at this); omega))
          | (go_at_call 68; refine (cQ.out _).mono ?_; rintro e w4 ⟨rfl, hb4⟩; obtain ⟨hc4, hf4⟩ := bcell hb4; have hk4 : Below wx.heap.size wx w4 := below_next (by assumption) hww hb4; have hl4 := hk4.size; (try have hs4 : w3.heap.size < w4.heap.size := by have := hb4.size; (try simp at this); omega); (try have hs4' : w3.heap.size + 1 < w4.heap.size := by have := hb4.size; (try simp at this); omega); (try have hs5 : wx.heap.size < w4.heap.size := by have := hb4.size; (try simp at this); omega); (try have hs5' : wx.heap.size + 1 < w4.heap.size := by have := hb4.size; (try simp at this); omega)))
      all_goals go_wp2_with fail
      all_goals go_meet
      · exact ⟨w4.heap.size, w4.heap.size + 1, rfl, rfl, by omega, by omega, by omega, hide (box_under _ _ _), hide (box_top1 _ _ _), hide (by assumption)⟩
      · exact ⟨w4.heap.size + 1, w4.heap.size, rfl, rfl, by omega, by omega, by omega, hide (box_top1 _ _ _), hide (box_under _ _ _), hide (by assumption)⟩
      · have k1 : w4.heap[w3.heap.size]? = some (Obj.cells #[Value.int .u64 0, Value.int .u64 0, Value.bool false] 71 (0, 0)) := (hb4.block _ (by show w3.heap.size < (w3.alloc _).heap.size; simp)).trans (box_top w3 _)
        have z1 := lt_of_get k1
        exact ⟨w3.heap.size, w4.heap.size, rfl, rfl, by omega, by omega, by omega, hide (one_alloc (set3 k1) _), hide (box_top3 _ _ _ _ _ _ _ _), hide (by assumption)⟩
      · have k1 : w4.heap[w3.heap.size]? = some (Obj.cells #[Value.int .u64 0, Value.int .u64 0, Value.bool false] 71 (0, 0)) := (hb4.block _ (by show w3.heap.size < ((w3.alloc _).alloc _).heap.size; simp <;> omega)).trans (box_under w3 _ _)
        have k2 : w4.heap[w3.heap.size + 1]? = some (Obj.cells #[Value.int .u64 0, Value.int .u64 0, Value.bool false] 71 (0, 0)) := (hb4.block _ (by show w3.heap.size + 1 < ((w3.alloc _).alloc _).heap.size; simp <;> omega)).trans (box_top1 w3 _ _)
        exact ⟨w3.heap.size, w3.heap.size + 1, rfl, rfl, by omega, by omega, by omega, hide (set_far (set_far (set_far (set3 k1) (by omega)) (by omega)) (by omega)), hide (set3 (set_far (set_far (set_far k2 (by omega)) (by omega)) (by omega))), hide (by assumption)⟩
      · have k1 : w4.heap[w3.heap.size]? = some (Obj.cells #[Value.int .u64 0, Value.int .u64 0, Value.bool false] 71 (0, 0)) := (hb4.block _ (by show w3.heap.size < (w3.alloc _).heap.size; simp)).trans (box_top w3 _)
        have z1 := lt_of_get k1
        exact ⟨w4.heap.size, w3.heap.size, rfl, rfl, by omega, by omega, by omega, hide (box_top3 _ _ _ _ _ _ _ _), hide (one_alloc (set3 k1) _), hide (by assumption)⟩
      · have k1 : w4.heap[w3.heap.size]? = some (Obj.cells #[Value.int .u64 0, Value.int .u64 0, Value.bool false] 71 (0, 0)) := (hb4.block _ (by show w3.heap.size < ((w3.alloc _).alloc _).heap.size; simp <;> omega)).trans (box_under w3 _ _)
        have k2 : w4.heap[w3.heap.size + 1]? = some (Obj.cells #[Value.int .u64 0, Value.int .u64 0, Value.bool false] 71 (0, 0)) := (hb4.block _ (by show w3.heap.size + 1 < ((w3.alloc _).alloc _).heap.size; simp <;> omega)).trans (box_top1 w3 _ _)
        exact ⟨w3.heap.size + 1, w3.heap.size, rfl, rfl, by omega, by omega, by omega, hide (set_far (set_far (set_far (set3 k2) (by omega)) (by omega)) (by omega)), hide (set3 (set_far (set_far (set_far k1 (by omega)) (by omega)) (by omega))), hide (by assumption)⟩
      · have j1 : w3.heap[wx.heap.size]? = some (Obj.cells #[Value.int .u64 0, Value.int .u64 0, Value.bool false] 71 (0, 0)) := (hb3.block _ (by show wx.heap.size < (wx.alloc _).heap.size; simp)).trans (box_top wx _)
        have k1 : w4.heap[wx.heap.size]? = some (Obj.cells #[Value.int .u64 0, Value.int .u64 0, Value.bool false] 71 (0, 0)) := (hb4.block _ (lt_of_get j1)).trans j1
        have z1 := lt_of_get k1
        exact ⟨wx.heap.size, w4.heap.size, rfl, rfl, by omega, by omega, by omega, hide (one_alloc (set3 k1) _), hide (box_top3 _ _ _ _ _ _ _ _), hide (by assumption)⟩
      · have j1 : w3.heap[wx.heap.size]? = some (Obj.cells #[Value.int .u64 0, Value.int .u64 0, Value.bool false] 71 (0, 0)) := (hb3.block _ (by show wx.heap.size < (wx.alloc _).heap.size; simp)).trans (box_top wx _)
        have z1 := lt_of_get j1
        have k1 : w4.heap[wx.heap.size]? = some (Obj.cells #[Value.int .u64 0, Value.int .u64 0, Value.bool false] 71 (0, 0)) := (hb4.block _ (by show wx.heap.size < (w3.alloc _).heap.size; simp <;> omega)).trans (one_alloc j1 _)
        have k2 : w4.heap[w3.heap.size]? = some (Obj.cells #[Value.int .u64 0, Value.int .u64 0, Value.bool false] 71 (0, 0)) := (hb4.block _ (by show w3.heap.size < (w3.alloc _).heap.size; simp)).trans (box_top w3 _)
        exact ⟨wx.heap.size, w3.heap.size, rfl, rfl, by omega, by omega, by omega, hide (set_far (set_far (set_far (set3 k1) (by omega)) (by omega)) (by omega)), hide (set3 (set_far (set_far (set_far k2 (by omega)) (by omega)) (by omega))), hide (by assumption)⟩
      · have j1 : w3.heap[wx.heap.size]? = some (Obj.cells #[Value.int .u64 0, Value.int .u64 0, Value.bool false] 71 (0, 0)) := (hb3.block _ (by show wx.heap.size < ((wx.alloc _).alloc _).heap.size; simp <;> omega)).trans (box_under wx _ _)
        have j2 : w3.heap[wx.heap.size + 1]? = some (Obj.cells #[Value.int .u64 0, Value.int .u64 0, Value.bool false] 71 (0, 0)) := (hb3.block _ (by show wx.heap.size + 1 < ((wx.alloc _).alloc _).heap.size; simp <;> omega)).trans (box_top1 wx _ _)
        have k1 : w4.heap[wx.heap.size]? = some (Obj.cells #[Value.int .u64 0, Value.int .u64 0, Value.bool false] 71 (0, 0)) := (hb4.block _ (lt_of_get j1)).trans j1
        have k2 : w4.heap[wx.heap.size + 1]? = some (Obj.cells #[Value.int .u64 0, Value.int .u64 0, Value.bool false] 71 (0, 0)) := (hb4.block _ (lt_of_get j2)).trans j2
        exact ⟨wx.heap.size, wx.heap.size + 1, rfl, rfl, by omega, by omega, by omega, hide (set_far (set_far (set_far (set3 k1) (by omega)) (by omega)) (by omega)), hide (set3 (set_far (set_far (set_far k2 (by omega)) (by omega)) (by omega))), hide (by assumption)⟩
      · have j1 : w3.heap[wx.heap.size]? = some (Obj.cells #[Value.int .u64 0, Value.int .u64 0, Value.bool false] 71 (0, 0)) := (hb3.block _ (by show wx.heap.size < (wx.alloc _).heap.size; simp)).trans (box_top wx _)
        have k1 : w4.heap[wx.heap.size]? = some (Obj.cells #[Value.int .u64 0, Value.int .u64 0, Value.bool false] 71 (0, 0)) := (hb4.block _ (lt_of_get j1)).trans j1
        have z1 := lt_of_get k1
        exact ⟨w4.heap.size, wx.heap.size, rfl, rfl, by omega, by omega, by omega, hide (box_top3 _ _ _ _ _ _ _ _), hide (one_alloc (set3 k1) _), hide (by assumption)⟩
      · have j1 : w3.heap[wx.heap.size]? = some (Obj.cells #[Value.int .u64 0, Value.int .u64 0, Value.bool false] 71 (0, 0)) := (hb3.block _ (by show wx.heap.size < (wx.alloc _).heap.size; simp)).trans (box_top wx _)
        have z1 := lt_of_get j1
        have k1 : w4.heap[wx.heap.size]? = some (Obj.cells #[Value.int .u64 0, Value.int .u64 0, Value.bool false] 71 (0, 0)) := (hb4.block _ (by show wx.heap.size < (w3.alloc _).heap.size; simp <;> omega)).trans (one_alloc j1 _)
        have k2 : w4.heap[w3.heap.size]? = some (Obj.cells #[Value.int .u64 0, Value.int .u64 0, Value.bool false] 71 (0, 0)) := (hb4.block _ (by show w3.heap.size < (w3.alloc _).heap.size; simp)).trans (box_top w3 _)
        exact ⟨w3.heap.size, wx.heap.size, rfl, rfl, by omega, by omega, by omega, hide (set_far (set_far (set_far (set3 k2) (by omega)) (by omega)) (by omega)), hide (set3 (set_far (set_far (set_far k1 (by omega)) (by omega)) (by omega))), hide (by assumption)⟩
      · have j1 : w3.heap[wx.heap.size]? = some (Obj.cells #[Value.int .u64 0, Value.int .u64 0, Value.bool false] 71 (0, 0)) := (hb3.block _ (by show wx.heap.size < ((wx.alloc _).alloc _).heap.size; simp <;> omega)).trans (box_under wx _ _)
        have j2 : w3.heap[wx.heap.size + 1]? = some (Obj.cells #[Value.int .u64 0, Value.int .u64 0, Value.bool false] 71 (0, 0)) := (hb3.block _ (by show wx.heap.size + 1 < ((wx.alloc _).alloc _).heap.size; simp <;> omega)).trans (box_top1 wx _ _)
        have k1 : w4.heap[wx.heap.size]? = some (Obj.cells #[Value.int .u64 0, Value.int .u64 0, Value.bool false] 71 (0, 0)) := (hb4.block _ (lt_of_get j1)).trans j1
        have k2 : w4.heap[wx.heap.size + 1]? = some (Obj.cells #[Value.int .u64 0, Value.int .u64 0, Value.bool false] 71 (0, 0)) := (hb4.block _ (lt_of_get j2)).trans j2
        exact ⟨wx.heap.size + 1, wx.heap.size, rfl, rfl, by omega, by omega, by omega, hide (set_far (set_far (set_far (set3 k2) (by omega)) (by omega)) (by omega)), hide (set3 (set_far (set_far (set_far k1 (by omega)) (by omega)) (by omega))), hide (by assumption)⟩
    case rest =>
      obtain ⟨g, h, rfl, rfl, hg, hh, hgh, hq, hr, hbx⟩ := hcut
      have hN := tN.out.trans (hbx.out.mono tN.out.size)
      have zc := tN.out.size
      have gl := lt_of_get hq.out
      obtain ⟨⟨d0, d1, d2⟩, ⟨d3, d4, d5⟩⟩ := cells3 hq.out
      obtain ⟨⟨y0, y1, y2⟩, -⟩ := cells3 hr.out
      replace hN := hide hN
      clear x0' x1' x2' hself hww hbx tN t1 hr z8
      have hx := hf.out
      have hrr := hrl'.out
      have hbb := hrb'.out
      cases g1 : (f == 4)
      · cases g3 : ER.below
        · have e0 : Hid (res = (vq, 0)) := hide (by have := hcmp'.out; rw [hx, g1, if_neg (by simp), if_neg (by rw [hbb] at g3; exact of_decide_eq_false g3)] at this; exact this)
          rw [g3] at y2
          clear hx hrr hbb
          go_wp2_with fail
          refine (cWq.out _).mono ?_; rintro e w5 ⟨rfl, hb5⟩
          have mN5 := hide (hN.out.trans (hb5.mono hN.out.size))
          go_wp2_with fail
          go_ret2
          exact ⟨ret_pair e0.out, mN5.out⟩
        · have e0 : Hid (res = (vd, 0)) := hide (by have := hcmp'.out; rw [hx, g1, if_neg (by simp), if_pos (by rw [hbb] at g3; exact of_decide_eq_true g3)] at this; exact this)
          rw [g3] at y2
          clear hx hrr hbb
          go_wp2_with fail
          refine (cD.out _).mono ?_; rintro e w5 ⟨rfl, hb5⟩
          have k5 := (hb5.block _ gl).trans hq.out
          have mN5 := hN.out.trans (hb5.mono hN.out.size)
          clear hb5 d0 d1 d2 d3 d4 d5 y0 y1 y2
          obtain ⟨⟨c0, c1, c2⟩, ⟨c3, c4, c5⟩⟩ := cells3 k5
          have s5 := hide (set3 (x := .int .u64 ED.hi) (y := .int .u64 ED.lo) (z := .bool ED.below) k5)
          have zg : W.heap.size ≤ g := by omega
          have sN := hide (((mN5.setCell (p := ⟨g, 0, none⟩) zg (.int .u64 ED.hi)).setCell (p := ⟨g, 1, none⟩) zg (.int .u64 ED.lo)).setCell (p := ⟨g, 2, none⟩) zg (.bool ED.below))
          replace k5 := hide k5
          replace mN5 := hide mN5
          go_wp2_with fail
          refine (cWd.out _).mono ?_; rintro e w6 ⟨rfl, hb6⟩
          have mN6 := hide (sN.out.trans (hb6.mono sN.out.size))
          clear hb6 c0 c1 c2 c3 c4 c5
          go_wp2_with fail
          go_ret2
          exact ⟨ret_pair e0.out, mN6.out⟩
      · cases g2 : (ER.lo == 0)
        · have e0 : Hid (res = (0, 1)) := hide (by have := hcmp'.out; rw [hx, g1, bne, ← hrr, g2] at this; simpa using this)
          clear hx hrr hbb
          go_wp2_with fail
          go_ret2
          exact ⟨ret_pair e0.out, hN.out⟩
        · have r0 : r = 0 := by rw [hrr] at g2; exact beq_iff_eq.1 g2
          have e0 : Hid (res = (vq, 0)) := hide (by have := hcmp'.out; rw [hx, g1, r0] at this; simpa using this)
          have g3 : ER.below = false := by rw [hbb, r0]; rfl
          rw [g3] at y2
          clear hx hrr hbb
          go_wp2_with fail
          refine (cWq.out _).mono ?_; rintro e w5 ⟨rfl, hb5⟩
          have mN5 := hide (hN.out.trans (hb5.mono hN.out.size))
          go_wp2_with fail
          go_ret2
          exact ⟨ret_pair e0.out, mN5.out⟩
end Go.Proofs.Ytmcleghbpdenlaa
