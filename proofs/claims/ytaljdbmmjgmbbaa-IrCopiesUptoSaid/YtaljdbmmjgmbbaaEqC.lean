/- ir.Same. No condition. -/
import Derived.Test.YtaljdbmmjgmbbaaEqB
import Derived.Test.YtaljdbmmjgmbbaaIrY
namespace Go.Proofs.Ytaljdbmmjgmbbaa
open Go.RowKit
set_option linter.unusedSimpArgs false
set_option linter.unusedVariables false
set_option maxRecDepth 100000 in
set_option maxHeartbeats 3200000 in
theorem eq_vars (u v : Value) (a b : List Vr) (w : World) (B : Nat) (hB : B ≤ w.heap.size) (ha : RVrs.rep w B [u] a) (hb : RVrs.rep w B [v] b) :
    Calls Try.prog 81 #[u, v] w (EqPost (decide (a = b)) w) := by
  obtain ⟨A1, c1, h1, hm1, ga⟩ := Rp.slice_open (RVrs.later ha (Below.refl _ _) hB)
  obtain ⟨A2, c2, h2, hm2, gb⟩ := Rp.slice_open (RVrs.later hb (Below.refl _ _) hB)
  clear ha hb
  cases h1; cases h2
  replace ga := hide ga
  replace gb := hide gb
  have hww := Nat.le_refl w.heap.size
  have hself := Below.refl w.heap.size w
  by_cases hl : a.length = b.length
  case neg =>
    go_enter Try.func81, Try.ntmps81
    have hne : ((a.length : Int) != (b.length : Int)) = true := by rw [bne_iff_ne]; omega
    go_wp2
    go_ret
    exact ⟨ret_bool (dec_no fun h => hl (by rw [h])), hself⟩
  have heq : ((a.length : Int) != (b.length : Int)) = false := by rw [bne_eq_false_iff_eq]; omega
  go_enter Try.func81, Try.ntmps81
  go_wp2
  clear heq
  replace hl := hide hl
  go_loopw [13] (fun i wr => ∃ k : Nat, k ≤ a.length ∧ i = .int .i64 k ∧ Hid (a.take k = b.take k) ∧ Below w.heap.size w wr) (fun i _ => a.length - (intOf i).toNat)
  case atStart => exact ⟨0, Nat.zero_le _, rfl, hide rfl, hself⟩
  case round =>
    obtain ⟨k, hk, rfl, hall, hbel⟩ := hrel
    by_cases hlt : k < a.length
    · have hlt2 : k < b.length := by have := hl.out; omega
      obtain ⟨b1, o1, rfl, he1⟩ := ga.out (by omega)
      obtain ⟨b2, o2, rfl, he2⟩ := gb.out (by omega)
      obtain ⟨x, hx⟩ := get_ex hlt
      obtain ⟨y, hy⟩ := get_ex hlt2
      obtain ⟨_, _, ⟨rfl, _⟩, hc1⟩ := he1 k x hx.out
      obtain ⟨_, _, ⟨rfl, _⟩, hc2⟩ := he2 k y hy.out
      obtain ⟨p0, p1⟩ := hc1.two
      obtain ⟨q0, q1⟩ := hc2.two
      clear he1 he2 hc1 hc2
      by_cases r0 : x.name = y.name
      case neg =>
        have f0 : (x.name.toList == y.name.toList) = false := beq_eq_false_iff_ne.2 (fun h => r0 (bytes_same h))
        replace r0 := hide r0
        go_wp2
        go_quiet (fail)
        go_wp2
        go_ret
        exact ⟨ret_bool (dec_no fun h => lget_ne (fun e => r0.out (by rw [e])) hx.out hy.out h), hbel.trans (below_drewN (Below.refl _ _) _)⟩
      have f0 : (x.name.toList == y.name.toList) = true := by rw [r0]; simp
      by_cases r1 : x.size = y.size
      case neg =>
        have f1 : (x.size == y.size) = false := beq_eq_false_iff_ne.2 r1
        replace r0 := hide r0
        replace r1 := hide r1
        go_wp2
        go_quiet (fail)
        go_wp2
        go_ret
        exact ⟨ret_bool (dec_no fun h => lget_ne (fun e => r1.out (by rw [e])) hx.out hy.out h), hbel.trans (below_drewN (Below.refl _ _) _)⟩
      have f1 : (x.size == y.size) = true := by rw [r1]; simp
      have hxy := hide (vr_ext r0 r1)
      replace r0 := hide r0
      replace r1 := hide r1
      go_wp2
      go_quiet (fail)
      go_wp2
      go_roundw
      case rel => exact ⟨k + 1, hlt, by go_num, hide (ltake_next hall.out hx.out (hxy.out.symm ▸ hy.out)), hbel.trans (below_drewN (Below.refl _ _) _)⟩
      case measure => simp [intOf]; omega
    · have hab : a = b := ltake_full hl.out (by omega) hall.out
      replace hab := hide hab
      have hlt3 : ¬ k < b.length := by have := hl.out; omega
      go_wp2
      go_ret
      exact ⟨ret_bool (decide_eq_true hab.out).symm, hbel⟩
set_option maxRecDepth 100000 in
set_option maxHeartbeats 6400000 in
theorem same_ext (a b : Ext) (c1 c2 : Value) (w : World) (B : Nat) (hB : B ≤ w.heap.size) (ha : RInts.rep w B [c1] a.params) (hb : RInts.rep w B [c2] b.params) :
    Calls Try.prog 83 #[.agg #[.string a.name, c1, .int .i64 a.ret], .agg #[.string b.name, c2, .int .i64 b.ret]] w (EqPost (decide (a = b)) w) := by
  have ha1 := RInts.later ha (Below.refl _ _) hB
  have hb1 := RInts.later hb (Below.refl _ _) hB
  clear ha hb
  obtain ⟨W, hW, hwW, hWs, hx, hy⟩ := boxes2 w #[.string a.name, c1, .int .i64 a.ret] #[.string b.name, c2, .int .i64 b.ret] 91 91
  have x0 := hx 0 _ rfl
  have x1 := hx 1 _ rfl
  have x2 := hx 2 _ rfl
  have y0 := hy 0 _ rfl
  have y1 := hy 1 _ rfl
  have y2 := hy 2 _ rfl
  clear hx hy
  have hws : w.heap.size ≤ W.heap.size := by omega
  replace hWs := hide hWs
  have cA : Hid (∀ W', Below W.heap.size W W' → Calls Try.prog 65 #[c1, c2] W' (EqPost (decide (a.params = b.params)) W')) := hide (fun W' h => eq_ints _ _ _ _ _ _ (Nat.le_refl _) (RInts.later ha1 (hwW.trans (h.mono hws)) (hwW.trans (h.mono hws)).size) (RInts.later hb1 (hwW.trans (h.mono hws)) (hwW.trans (h.mono hws)).size))
  have hself := Below.refl W.heap.size W
  have hwWh := hide hwW
  replace hW := hide hW
  clear ha1 hb1 hwW
  go_enter Try.func83, Try.ntmps83
  go_upto_region 1 with (fail)
  rw [hW.out]
  clear hW
  by_cases p0 : a.name = b.name
  case neg =>
    have e0 : (a.name.toList == b.name.toList) = false := beq_eq_false_iff_ne.2 (fun h => p0 (bytes_same h))
    replace p0 := hide p0
    go_wp2_with (fail)
    go_ret
    exact ⟨ret_bool (dec_no fun h => p0.out (by rw [h])), hwWh.out⟩
  have e0 : (a.name.toList == b.name.toList) = true := by rw [p0]; simp
  replace p0 := hide p0
  by_cases p1 : a.ret = b.ret
  case neg =>
    have e1 : (a.ret == b.ret) = false := by rw [beq_eq_false_iff_ne]; exact p1
    replace p1 := hide p1
    go_wp2_with (fail)
    go_ret
    exact ⟨ret_bool (dec_no fun h => p1.out (by rw [h])), hwWh.out⟩
  have e1 : (a.ret == b.ret) = true := by rw [beq_iff_eq]; exact p1
  replace p1 := hide p1
  go_wp2_with (fail)
  refine (cA.out W hself).mono ?_
  rintro e w1 ⟨rfl, hb1⟩
  have hb1' : Below W.heap.size W w1 := hb1
  clear hb1 hself
  by_cases p5 : a.params = b.params
  case neg =>
    rw [decide_eq_false p5]
    replace p5 := hide p5
    go_wp2_with (fail)
    go_ret
    exact ⟨ret_bool (dec_no fun h => p5.out (by rw [h])), hwWh.out.trans (hb1'.mono hws)⟩
  have hab : a = b := ext_ext p0.out p5 p1.out
  rw [decide_eq_true p5]
  replace p5 := hide p5
  replace hab := hide hab
  go_wp2_with (fail)
  go_ret
  exact ⟨ret_bool (decide_eq_true hab.out).symm, hwWh.out.trans (hb1'.mono hws)⟩
set_option maxRecDepth 100000 in
set_option maxHeartbeats 6400000 in
theorem eqf_ext (u v : Value) (a b : List (Ext)) (w : World) (B : Nat) (hB : B ≤ w.heap.size) (ha : RExts.rep w B [u] a) (hb : RExts.rep w B [v] b) :
    Calls Try.prog 82 #[u, v, .func (.func 83) #[] #[]] w (EqPost (decide (a = b)) w) := by
  obtain ⟨A1, c1, h1, hm1, ga⟩ := Rp.slice_open (RExts.later ha (Below.refl _ _) hB)
  obtain ⟨A2, c2, h2, hm2, gb⟩ := Rp.slice_open (RExts.later hb (Below.refl _ _) hB)
  clear ha hb
  cases h1; cases h2
  replace ga := hide ga
  replace gb := hide gb
  have hww := Nat.le_refl w.heap.size
  have hself := Below.refl w.heap.size w
  by_cases hl : a.length = b.length
  case neg =>
    go_enter Try.func82, Try.ntmps82
    have hne : ((a.length : Int) != (b.length : Int)) = true := by rw [bne_iff_ne]; omega
    go_wp2
    go_ret
    exact ⟨ret_bool (dec_no fun h => hl (by rw [h])), hself⟩
  have heq : ((a.length : Int) != (b.length : Int)) = false := by rw [bne_eq_false_iff_eq]; omega
  go_enter Try.func82, Try.ntmps82
  go_wp2
  clear heq
  replace hl := hide hl
  go_loopw [17] (fun i wr => ∃ k : Nat, k ≤ a.length ∧ i = .int .i64 k ∧ Hid (a.take k = b.take k) ∧ Below w.heap.size w wr) (fun i _ => a.length - (intOf i).toNat)
  case atStart => exact ⟨0, Nat.zero_le _, rfl, hide rfl, hself⟩
  case round =>
    clear hself
    obtain ⟨k, hk, rfl, hall, hbel⟩ := hrel
    by_cases hlt : k < a.length
    · have hlt2 : k < b.length := by have := hl.out; omega
      obtain ⟨b1, o1, rfl, he1⟩ := ga.out (by omega)
      obtain ⟨b2, o2, rfl, he2⟩ := gb.out (by omega)
      obtain ⟨x, hx⟩ := get_ex hlt
      obtain ⟨y, hy⟩ := get_ex hlt2
      obtain ⟨_, _, ⟨xc, rfl, hr1, -⟩, hc1⟩ := he1 k x hx.out
      obtain ⟨_, _, ⟨yc, rfl, hr2, -⟩, hc2⟩ := he2 k y hy.out
      obtain ⟨xA, xC, h1, -, -⟩ := Rp.slice1_open hr1
      cases h1
      obtain ⟨yA, yC, h2, -, -⟩ := Rp.slice1_open hr2
      cases h2
      obtain ⟨a0, a1, a2⟩ := hc1.three
      obtain ⟨d0, d1, d2⟩ := hc2.three
      have cS0 : ∀ W', Below w.heap.size w W' → Calls Try.prog 83 #[.agg #[.string x.name, .slice xA x.params.length xC, .int .i64 x.ret], .agg #[.string y.name, .slice yA y.params.length yC, .int .i64 y.ret]] W' (EqPost (decide (x = y)) W') := fun W' h => same_ext _ _ _ _ _ _ (Nat.le_refl _) (RInts.later hr1 h h.size) (RInts.later hr2 h h.size)
      replace cS0 := hide cS0
      clear he1 he2 hc1 hc2 hr1 hr2
      obtain ⟨Z, hZ, hwZ, hZs, hzc⟩ := boxes1 wr #[.string x.name, .slice xA x.params.length xC, .int .i64 x.ret] 91
      obtain ⟨V, hV, hwV, hVs, hvc⟩ := boxes1 Z #[.string y.name, .slice yA y.params.length yC, .int .i64 y.ret] 91
      have hbelZ : Below w.heap.size w Z := hbel.trans (hwZ.mono hbel.size)
      have hbelV : Below w.heap.size w V := hbelZ.trans (hwV.mono hbelZ.size)
      have zx0 := (hwV.cell (p := ⟨wr.heap.size, 0, none⟩) (by show wr.heap.size < Z.heap.size; omega)).trans (hzc 0 _ rfl Z (Below.refl _ _))
      have zy0 := hvc 0 _ rfl V (Below.refl _ _)
      have zx1 := (hwV.cell (p := ⟨wr.heap.size, 1, none⟩) (by show wr.heap.size < Z.heap.size; omega)).trans (hzc 1 _ rfl Z (Below.refl _ _))
      have zy1 := hvc 1 _ rfl V (Below.refl _ _)
      have zx2 := (hwV.cell (p := ⟨wr.heap.size, 2, none⟩) (by show wr.heap.size < Z.heap.size; omega)).trans (hzc 2 _ rfl Z (Below.refl _ _))
      have zy2 := hvc 2 _ rfl V (Below.refl _ _)
      have cS := hide (cS0.out V hbelV)
      replace hZs := hide hZs
      replace hVs := hide hVs
      replace hwZ := hide hwZ
      replace hwV := hide hwV
      clear hzc hvc
      go_upto_region 6 with (fail)
      try rw [hZ]
      go_upto_region 7 with (fail)
      try rw [hV]
      clear hZ hV
      go_wp2_with (fail)
      refine cS.out.mono ?_
      rintro e w9 ⟨rfl, hb9⟩
      have hk9 : Below w.heap.size w w9 := hbelV.trans (hb9.mono hbelV.size)
      clear hb9 hbelV hbelZ cS hbel
      by_cases hxy : x = y
      · rw [decide_eq_true hxy]
        have hnx := hide (ltake_next hall.out (hxy ▸ hx.out) hy.out)
        replace hxy := hide hxy
        go_wp2
        go_roundw
        case rel => exact ⟨k + 1, hlt, by go_num, hnx, hk9⟩
        case measure => simp [intOf]; omega
      · rw [decide_eq_false hxy]
        have hne : a ≠ b := fun h => lget_ne hxy hx.out hy.out h
        replace hxy := hide hxy
        replace hne := hide hne
        go_wp2
        go_ret
        exact ⟨ret_bool (dec_no hne.out), hk9⟩
    · have hab : a = b := ltake_full hl.out (by omega) hall.out
      replace hab := hide hab
      have hlt3 : ¬ k < b.length := by have := hl.out; omega
      go_wp2
      go_ret
      exact ⟨ret_bool (decide_eq_true hab.out).symm, hbel⟩
set_option maxRecDepth 100000 in
set_option maxHeartbeats 6400000 in
theorem eqf_fun (u v : Value) (a b : List (Fun)) (w : World) (B : Nat) (hB : B ≤ w.heap.size) (ha : RFuns.rep w B [u] a) (hb : RFuns.rep w B [v] b) :
    Calls Try.prog 84 #[u, v, .func (.func 27) #[] #[]] w (EqPost (decide (a = b)) w) := by
  obtain ⟨A1, c1, h1, hm1, ga⟩ := Rp.slice_open (RFuns.later ha (Below.refl _ _) hB)
  obtain ⟨A2, c2, h2, hm2, gb⟩ := Rp.slice_open (RFuns.later hb (Below.refl _ _) hB)
  clear ha hb
  cases h1; cases h2
  replace ga := hide ga
  replace gb := hide gb
  have hww := Nat.le_refl w.heap.size
  have hself := Below.refl w.heap.size w
  by_cases hl : a.length = b.length
  case neg =>
    go_enter Try.func84, Try.ntmps84
    have hne : ((a.length : Int) != (b.length : Int)) = true := by rw [bne_iff_ne]; omega
    go_wp2
    go_ret
    exact ⟨ret_bool (dec_no fun h => hl (by rw [h])), hself⟩
  have heq : ((a.length : Int) != (b.length : Int)) = false := by rw [bne_eq_false_iff_eq]; omega
  go_enter Try.func84, Try.ntmps84
  go_wp2
  clear heq
  replace hl := hide hl
  go_loopw [17] (fun i wr => ∃ k : Nat, k ≤ a.length ∧ i = .int .i64 k ∧ Hid (a.take k = b.take k) ∧ Below w.heap.size w wr) (fun i _ => a.length - (intOf i).toNat)
  case atStart => exact ⟨0, Nat.zero_le _, rfl, hide rfl, hself⟩
  case round =>
    clear hself
    obtain ⟨k, hk, rfl, hall, hbel⟩ := hrel
    by_cases hlt : k < a.length
    · have hlt2 : k < b.length := by have := hl.out; omega
      obtain ⟨b1, o1, rfl, he1⟩ := ga.out (by omega)
      obtain ⟨b2, o2, rfl, he2⟩ := gb.out (by omega)
      obtain ⟨x, hx⟩ := get_ex hlt
      obtain ⟨y, hy⟩ := get_ex hlt2
      obtain ⟨_, -, hr1, hc1⟩ := he1 k x hx.out
      obtain ⟨_, -, hr2, hc2⟩ := he2 k y hy.out
      obtain ⟨xc, xe, e1, _⟩ := id hr1
      subst e1
      obtain ⟨yc, ye, e2, _⟩ := id hr2
      subst e2
      obtain ⟨hi1, hj1⟩ := fun_open hr1
      obtain ⟨xA, xC, h1, -, -⟩ := Rp.slice1_open hi1
      cases h1
      obtain ⟨xT, xD, h1, -, -⟩ := Rp.slice1_open hj1
      cases h1
      obtain ⟨hi2, hj2⟩ := fun_open hr2
      obtain ⟨yA, yC, h2, -, -⟩ := Rp.slice1_open hi2
      cases h2
      obtain ⟨yT, yD, h2, -, -⟩ := Rp.slice1_open hj2
      cases h2
      clear hi1 hj1 hi2 hj2
      obtain ⟨a0, a1, a2, a3⟩ := hc1.four
      obtain ⟨d0, d1, d2, d3⟩ := hc2.four
      have cS0 : ∀ W', Below w.heap.size w W' → Calls Try.prog 27 #[x.v (.slice xA x.params.length xC) (.slice xT x.blocks.length xD), y.v (.slice yA y.params.length yC) (.slice yT y.blocks.length yD)] W' (EqPost (decide (x = y)) W') := fun W' h => same_func _ _ _ _ _ _ _ _ (Nat.le_refl _) (RFun.later hr1 h h.size) (RFun.later hr2 h h.size)
      replace cS0 := hide cS0
      clear he1 he2 hc1 hc2 hr1 hr2
      obtain ⟨Z, hZ, hwZ, hZs, hzc⟩ := boxes1 wr #[.string x.name, .slice xA x.params.length xC, .int .i64 x.ret, .slice xT x.blocks.length xD] 25
      obtain ⟨V, hV, hwV, hVs, hvc⟩ := boxes1 Z #[.string y.name, .slice yA y.params.length yC, .int .i64 y.ret, .slice yT y.blocks.length yD] 25
      have hbelZ : Below w.heap.size w Z := hbel.trans (hwZ.mono hbel.size)
      have hbelV : Below w.heap.size w V := hbelZ.trans (hwV.mono hbelZ.size)
      have zx0 := (hwV.cell (p := ⟨wr.heap.size, 0, none⟩) (by show wr.heap.size < Z.heap.size; omega)).trans (hzc 0 _ rfl Z (Below.refl _ _))
      have zy0 := hvc 0 _ rfl V (Below.refl _ _)
      have zx1 := (hwV.cell (p := ⟨wr.heap.size, 1, none⟩) (by show wr.heap.size < Z.heap.size; omega)).trans (hzc 1 _ rfl Z (Below.refl _ _))
      have zy1 := hvc 1 _ rfl V (Below.refl _ _)
      have zx2 := (hwV.cell (p := ⟨wr.heap.size, 2, none⟩) (by show wr.heap.size < Z.heap.size; omega)).trans (hzc 2 _ rfl Z (Below.refl _ _))
      have zy2 := hvc 2 _ rfl V (Below.refl _ _)
      have zx3 := (hwV.cell (p := ⟨wr.heap.size, 3, none⟩) (by show wr.heap.size < Z.heap.size; omega)).trans (hzc 3 _ rfl Z (Below.refl _ _))
      have zy3 := hvc 3 _ rfl V (Below.refl _ _)
      have cS := hide (cS0.out V hbelV)
      replace hZs := hide hZs
      replace hVs := hide hVs
      replace hwZ := hide hwZ
      replace hwV := hide hwV
      clear hzc hvc
      go_upto_region 6 with (fail)
      try rw [hZ]
      go_upto_region 7 with (fail)
      try rw [hV]
      clear hZ hV
      go_wp2_with (fail)
      refine cS.out.mono ?_
      rintro e w9 ⟨rfl, hb9⟩
      have hk9 : Below w.heap.size w w9 := hbelV.trans (hb9.mono hbelV.size)
      clear hb9 hbelV hbelZ cS hbel
      by_cases hxy : x = y
      · rw [decide_eq_true hxy]
        have hnx := hide (ltake_next hall.out (hxy ▸ hx.out) hy.out)
        replace hxy := hide hxy
        go_wp2
        go_roundw
        case rel => exact ⟨k + 1, hlt, by go_num, hnx, hk9⟩
        case measure => simp [intOf]; omega
      · rw [decide_eq_false hxy]
        have hne : a ≠ b := fun h => lget_ne hxy hx.out hy.out h
        replace hxy := hide hxy
        replace hne := hide hne
        go_wp2
        go_ret
        exact ⟨ret_bool (dec_no hne.out), hk9⟩
    · have hab : a = b := ltake_full hl.out (by omega) hall.out
      replace hab := hide hab
      have hlt3 : ¬ k < b.length := by have := hl.out; omega
      go_wp2
      go_ret
      exact ⟨ret_bool (decide_eq_true hab.out).symm, hbel⟩
set_option maxRecDepth 100000 in
set_option maxHeartbeats 6400000 in
theorem same_mod (a b : Mod) (c1 d1 e1 c2 d2 e2 : Value) (w : World) (B : Nat) (hB : B ≤ w.heap.size) (ha : RMod.rep w B [c1, d1, e1] a) (hb : RMod.rep w B [c2, d2, e2] b) :
    Calls Try.prog 45 #[a.v c1 d1 e1, b.v c2 d2 e2] w (EqPost (decide (a = b)) w) := by
  obtain ⟨hav, hax, haf⟩ := mod_open (RMod.later ha (Below.refl _ _) hB)
  obtain ⟨hbv, hbx, hbf⟩ := mod_open (RMod.later hb (Below.refl _ _) hB)
  clear ha hb
  obtain ⟨W, hW, hwW, hWs, hx, hy⟩ := boxes2 w #[c1, d1, e1] #[c2, d2, e2] 37 37
  have x0 := hx 0 _ rfl
  have x1 := hx 1 _ rfl
  have x2 := hx 2 _ rfl
  have y0 := hy 0 _ rfl
  have y1 := hy 1 _ rfl
  have y2 := hy 2 _ rfl
  clear hx hy
  have hws : w.heap.size ≤ W.heap.size := by omega
  replace hWs := hide hWs
  have cV : Hid (∀ W', Below W.heap.size W W' → Calls Try.prog 81 #[c1, c2] W' (EqPost (decide (a.vars = b.vars)) W')) := hide (fun W' h => eq_vars _ _ _ _ _ _ (Nat.le_refl _) (RVrs.later hav (hwW.trans (h.mono hws)) (hwW.trans (h.mono hws)).size) (RVrs.later hbv (hwW.trans (h.mono hws)) (hwW.trans (h.mono hws)).size))
  have cX : Hid (∀ W', Below W.heap.size W W' → Calls Try.prog 82 #[d1, d2, .func (.func 83) #[] #[]] W' (EqPost (decide (a.exts = b.exts)) W')) := hide (fun W' h => eqf_ext _ _ _ _ _ _ (Nat.le_refl _) (RExts.later hax (hwW.trans (h.mono hws)) (hwW.trans (h.mono hws)).size) (RExts.later hbx (hwW.trans (h.mono hws)) (hwW.trans (h.mono hws)).size))
  have cF : Hid (∀ W', Below W.heap.size W W' → Calls Try.prog 84 #[e1, e2, .func (.func 27) #[] #[]] W' (EqPost (decide (a.funcs = b.funcs)) W')) := hide (fun W' h => eqf_fun _ _ _ _ _ _ (Nat.le_refl _) (RFuns.later haf (hwW.trans (h.mono hws)) (hwW.trans (h.mono hws)).size) (RFuns.later hbf (hwW.trans (h.mono hws)) (hwW.trans (h.mono hws)).size))
  have hself := Below.refl W.heap.size W
  have hwWh := hide hwW
  replace hW := hide hW
  clear hav hax haf hbv hbx hbf hwW
  go_enter Try.func45, Try.ntmps45
  go_upto_region 1 with (fail)
  rw [hW.out]
  clear hW
  go_wp2_with (fail)
  refine (cV.out W hself).mono ?_
  rintro e w0 ⟨rfl, hb0⟩
  have hb0' : Below W.heap.size W w0 := hb0
  clear hb0 hself
  by_cases p0 : a.vars = b.vars
  case neg =>
    rw [decide_eq_false p0]
    replace p0 := hide p0
    go_wp2_with (fail)
    go_ret
    exact ⟨ret_bool (dec_no fun h => p0.out (by rw [h])), hwWh.out.trans (hb0'.mono hws)⟩
  rw [decide_eq_true p0]
  replace p0 := hide p0
  go_wp2_with (fail)
  refine (cX.out w0 hb0').mono ?_
  rintro e w1 ⟨rfl, hb1⟩
  have hb1' : Below W.heap.size W w1 := hb0'.trans (hb1.mono hb0'.size)
  clear hb0' hb1
  by_cases p1 : a.exts = b.exts
  case neg =>
    rw [decide_eq_false p1]
    replace p1 := hide p1
    go_wp2_with (fail)
    go_ret
    exact ⟨ret_bool (dec_no fun h => p1.out (by rw [h])), hwWh.out.trans (hb1'.mono hws)⟩
  rw [decide_eq_true p1]
  replace p1 := hide p1
  go_wp2_with (fail)
  refine (cF.out w1 hb1').mono ?_
  rintro e w2 ⟨rfl, hb2⟩
  have hb2' : Below W.heap.size W w2 := hb1'.trans (hb2.mono hb1'.size)
  clear hb1' hb2
  by_cases p2 : a.funcs = b.funcs
  case neg =>
    rw [decide_eq_false p2]
    replace p2 := hide p2
    go_wp2_with (fail)
    go_ret
    exact ⟨ret_bool (dec_no fun h => p2.out (by rw [h])), hwWh.out.trans (hb2'.mono hws)⟩
  have hab : a = b := mod_ext p0.out p1.out p2
  rw [decide_eq_true p2]
  replace p2 := hide p2
  replace hab := hide hab
  go_wp2_with (fail)
  go_ret
  exact ⟨ret_bool (decide_eq_true hab.out).symm, hwWh.out.trans (hb2'.mono hws)⟩
end Go.Proofs.Ytaljdbmmjgmbbaa
