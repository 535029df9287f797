/- latheref02.Same. No condition. -/
import Derived.Test.YtaljdbmmjgmbbaaIrW
import Derived.Test.YtaljdbmmjgmbbaaIrK
namespace Go.Proofs.Ytaljdbmmjgmbbaa
open Go.RowKit Go.ChangeShapes Go.WideShapes Go.Deep
set_option linter.unusedSimpArgs false
set_option linter.unusedVariables false

abbrev Mod.v (x : Mod) (c d e : Value) : Value := .agg #[c, d, e]
def RMod : Rp Mod where
  rep w B cs x := ∃ c d e, cs = [c, d, e] ∧ RVrs.rep w B [c] x.vars ∧ RExts.rep w B [d] x.exts ∧ RFuns.rep w B [e] x.funcs
  keep := by
    rintro w w' B B' cs x ⟨c, d, e, h, h1, h2, h3⟩ hk hB
    exact ⟨c, d, e, h, RVrs.keep h1 hk hB, RExts.keep h2 hk hB, RFuns.keep h3 hk hB⟩
theorem mod_open {w : World} {B : Nat} {x : Mod} {c d e : Value} (h : RMod.rep w B [c, d, e] x) : RVrs.rep w B [c] x.vars ∧ RExts.rep w B [d] x.exts ∧ RFuns.rep w B [e] x.funcs := by
  obtain ⟨c', d', e', h, h1, h2, h3⟩ := h
  cases h
  exact ⟨h1, h2, h3⟩
theorem exts_at {w : World} {B : Nat} {d : Value} {l : List Ext} (h : RExts.rep w B [d] l) : ∃ A cap, d = .slice A l.length cap ∧ l.length ≤ 9223372036854775807 ∧ (0 < l.length → ∃ b off, A = some ⟨b, off, none⟩ ∧ ∀ i x, l[i]? = some x →
    ∃ c, RInts.rep w B [c] x.params ∧ (I64 x.ret ∧ x.name.size ≤ maxLen) ∧ Cells w B b (off + i * 3) [.string x.name, c, .int .i64 x.ret]) := by
  obtain ⟨A, cap, h1, h2, h3⟩ := Rp.slice_open h
  cases h1
  refine ⟨A, cap, rfl, h2, fun hp => ?_⟩
  obtain ⟨b, off, hA, he⟩ := h3 hp
  refine ⟨b, off, hA, fun i x hx => ?_⟩
  obtain ⟨es, hl, ⟨c, e, h4, h5, h6⟩, hcs⟩ := he i x hx
  subst e
  exact ⟨c, h4, ⟨h5, h6⟩, hcs⟩
theorem funs_at {w : World} {B : Nat} {d : Value} {l : List Fun} (h : RFuns.rep w B [d] l) : ∃ A cap, d = .slice A l.length cap ∧ l.length ≤ 9223372036854775807 ∧ (0 < l.length → ∃ b off, A = some ⟨b, off, none⟩ ∧ ∀ i x, l[i]? = some x →
    ∃ c e, RFun.rep w B [.string x.name, c, .int .i64 x.ret, e] x ∧ Cells w B b (off + i * 4) [.string x.name, c, .int .i64 x.ret, e]) := by
  obtain ⟨A, cap, h1, h2, h3⟩ := Rp.slice_open h
  cases h1
  refine ⟨A, cap, rfl, h2, fun hp => ?_⟩
  obtain ⟨b, off, hA, he⟩ := h3 hp
  refine ⟨b, off, hA, fun i x hx => ?_⟩
  obtain ⟨es, hl, hr, hcs⟩ := he i x hx
  obtain ⟨c, e, h4, _⟩ := id hr
  subst h4
  exact ⟨c, e, hr, hcs⟩
def lensEq (a b : Mod) : Bool := decide (a.vars.length = b.vars.length ∧ a.exts.length = b.exts.length ∧ a.funcs.length = b.funcs.length)
theorem vr_ext {x y : Vr} (h1 : x.name = y.name) (h2 : x.size = y.size) : x = y := by cases x; cases y; simp only at h1 h2; subst h1 h2; rfl
theorem ext_ext {x y : Ext} (h1 : x.name = y.name) (h2 : x.params = y.params) (h3 : x.ret = y.ret) : x = y := by cases x; cases y; simp only at h1 h2 h3; subst h1 h2 h3; rfl
theorem mod_ext {x y : Mod} (h1 : x.vars = y.vars) (h2 : x.exts = y.exts) (h3 : x.funcs = y.funcs) : x = y := by cases x; cases y; simp only at h1 h2 h3; subst h1 h2 h3; rfl
set_option maxRecDepth 100000 in
set_option maxHeartbeats 12000000 in
theorem same02_any (a b : Mod) (c1 d1 e1 c2 d2 e2 : Value) (w : World) (B : Nat) (hB : B ≤ w.heap.size) (ha : RMod.rep w B [c1, d1, e1] a) (hb : RMod.rep w B [c2, d2, e2] b) :
    Calls Try.prog 46 #[a.v c1 d1 e1, b.v c2 d2 e2] w fun e w' => e = .returned (.bool (decide (a = b))) ∧ Below w.heap.size w w' := by
  obtain ⟨hav, hax, haf⟩ := mod_open (RMod.later ha (Below.refl _ _) hB)
  obtain ⟨hbv, hbx, hbf⟩ := mod_open (RMod.later hb (Below.refl _ _) hB)
  obtain ⟨A1, k1, hv1, hl1, gv1⟩ := Rp.slice_open hav
  obtain ⟨A2, k2, hv2, hl2, gv2⟩ := Rp.slice_open hbv
  cases hv1
  cases hv2
  obtain ⟨A3, k3, rfl, hl3, gx1⟩ := exts_at hax
  obtain ⟨A4, k4, rfl, hl4, gx2⟩ := exts_at hbx
  obtain ⟨A5, k5, rfl, hl5, gf1⟩ := funs_at haf
  obtain ⟨A6, k6, rfl, hl6, gf2⟩ := funs_at hbf
  clear ha hb hav hax haf hbv hbx hbf
  obtain ⟨n1, hn1⟩ : ∃ n, Hid (n = a.vars.length) := ⟨_, hide rfl⟩
  obtain ⟨n2, hn2⟩ : ∃ n, Hid (n = b.vars.length) := ⟨_, hide rfl⟩
  obtain ⟨n3, hn3⟩ : ∃ n, Hid (n = a.exts.length) := ⟨_, hide rfl⟩
  obtain ⟨n4, hn4⟩ : ∃ n, Hid (n = b.exts.length) := ⟨_, hide rfl⟩
  obtain ⟨n5, hn5⟩ : ∃ n, Hid (n = a.funcs.length) := ⟨_, hide rfl⟩
  obtain ⟨n6, hn6⟩ : ∃ n, Hid (n = b.funcs.length) := ⟨_, hide rfl⟩
  rw [← hn1.out] at hl1 ⊢
  rw [← hn2.out] at hl2 ⊢
  rw [← hn3.out] at hl3 ⊢
  rw [← hn4.out] at hl4 ⊢
  rw [← hn5.out] at hl5 ⊢
  rw [← hn6.out] at hl6 ⊢
  obtain ⟨W, hW, hwW, hWs, hx, hy⟩ := boxes2 w #[.slice A1 n1 k1, .slice A3 n3 k3, .slice A5 n5 k5] #[.slice A2 n2 k2, .slice A4 n4 k4, .slice A6 n6 k6] 37 37
  have x0 := hx 0 _ rfl
  have x1 := hx 1 _ rfl
  have x2 := hx 2 _ rfl
  have y0 := hy 0 _ rfl
  have y1 := hy 1 _ rfl
  have y2 := hy 2 _ rfl
  clear hx hy
  have hws : w.heap.size ≤ W.heap.size := by omega
  have hww := Nat.le_refl W.heap.size
  replace hWs := hide hWs
  replace gv1 := hide gv1
  replace gv2 := hide gv2
  replace gx1 := hide gx1
  replace gx2 := hide gx2
  replace gf1 := hide gf1
  replace gf2 := hide gf2
  have hself := Below.refl W.heap.size W
  replace hW := hide hW
  replace hwW := hide hwW
  by_cases hlen : n1 = n2 ∧ n3 = n4 ∧ n5 = n6
  case neg =>
    have hne : a ≠ b := fun h => hlen (by rw [hn1.out, hn2.out, hn3.out, hn4.out, hn5.out, hn6.out, h]; exact ⟨rfl, rfl, rfl⟩)
    by_cases q1 : n1 = n2
    · have g1 : ((n1 : Int) != (n2 : Int)) = false := by rw [q1]; simp
      by_cases q2 : n3 = n4
      · have g2 : ((n3 : Int) != (n4 : Int)) = false := by rw [q2]; simp
        have g3 : ((n5 : Int) != (n6 : Int)) = true := bne_iff_ne.2 (by omega)
        replace q1 := hide q1
        replace q2 := hide q2
        replace hlen := hide hlen
        go_enter Try.func46, Try.ntmps46
        go_upto_region 1 with (fail)
        rw [hW.out]
        clear hW
        go_wp2
        go_ret
        exact ⟨ret_bool (by first | rfl | rw [decide_eq_false hne]), hwW.out⟩
      · have g2 : ((n3 : Int) != (n4 : Int)) = true := bne_iff_ne.2 (by omega)
        replace q1 := hide q1
        replace q2 := hide q2
        replace hlen := hide hlen
        go_enter Try.func46, Try.ntmps46
        go_upto_region 1 with (fail)
        rw [hW.out]
        clear hW
        go_wp2
        go_ret
        exact ⟨ret_bool (by first | rfl | rw [decide_eq_false hne]), hwW.out⟩
    · have g1 : ((n1 : Int) != (n2 : Int)) = true := bne_iff_ne.2 (by omega)
      replace q1 := hide q1
      replace hlen := hide hlen
      go_enter Try.func46, Try.ntmps46
      go_upto_region 1 with (fail)
      rw [hW.out]
      clear hW
      go_wp2
      go_ret
      exact ⟨ret_bool (by first | rfl | rw [decide_eq_false hne]), hwW.out⟩
  obtain ⟨q1, q2, q3⟩ := hlen
  subst q1 q2 q3
  have g1 : ((n1 : Int) != (n1 : Int)) = false := by simp
  have g2 : ((n3 : Int) != (n3 : Int)) = false := by simp
  have g3 : ((n5 : Int) != (n5 : Int)) = false := by simp
  go_enter Try.func46, Try.ntmps46
  go_upto_region 1 with (fail)
  rw [hW.out]
  clear hW
  go_wp2_with fail
  go_loopw [5] (fun u5 wr => ∃ k : Nat, k ≤ n1 ∧ u5 = .int .i64 k ∧ Hid (a.vars.take k = b.vars.take k) ∧ Below W.heap.size W wr) (fun u5 _ => n1 - (intOf u5).toNat)
  case atStart => exact ⟨0, Nat.zero_le _, rfl, hide rfl, hself⟩
  case round =>
    clear hself
    obtain ⟨k, hk, rfl, htk, hbel⟩ := hrel
    by_cases hlt : k < n1
    · obtain ⟨p1, o1, rfl, he1⟩ := gv1.out (by rw [← hn1.out]; omega)
      obtain ⟨p2, o2, rfl, he2⟩ := gv2.out (by rw [← hn2.out]; omega)
      obtain ⟨x, hx⟩ := get_ex (l := a.vars) (k := k) (by rw [← hn1.out]; exact hlt)
      obtain ⟨y, hy⟩ := get_ex (l := b.vars) (k := k) (by rw [← hn2.out]; exact hlt)
      obtain ⟨_, _, ⟨rfl, _⟩, hc1⟩ := he1 k x hx.out
      obtain ⟨_, _, ⟨rfl, _⟩, hc2⟩ := he2 k y hy.out
      obtain ⟨c0, c1⟩ := (hc1.later hwW.out hws).two
      obtain ⟨d0, d1⟩ := (hc2.later hwW.out hws).two
      clear he1 he2 hc1 hc2
      by_cases r1 : x.name = y.name
      · have f1 : (x.name.toList == y.name.toList) = true := by rw [r1]; simp
        by_cases r2 : x.size = y.size
        · have f2 : (x.size == y.size) = true := by rw [r2]; simp
          have hxy := hide (vr_ext r1 r2)
          replace r1 := hide r1
          replace r2 := hide r2
          go_upto_region 6 with (fail)
          go_quiet (fail)
          go_wp2
          go_roundw
          case rel => exact ⟨k + 1, by omega, by go_num, hide (ltake_next htk.out hx.out (hxy.out.symm ▸ hy.out)), below_drewN hbel _⟩
          case measure => simp [intOf]; omega
        · have f2 : (x.size == y.size) = false := beq_eq_false_iff_ne.2 r2
          have hne : a ≠ b := fun h => lget_ne (fun e => r2 (by rw [e])) hx.out hy.out (by rw [h])
          replace r1 := hide r1
          replace r2 := hide r2
          have hb9 := hide hbel
          go_upto_region 6 with (fail)
          go_quiet (fail)
          go_wp2
          go_ret
          exact ⟨ret_bool (by first | rfl | rw [decide_eq_false hne]), hwW.out.trans ((below_drewN hb9.out _).mono hws)⟩
      · have f1 : (x.name.toList == y.name.toList) = false := beq_eq_false_iff_ne.2 (fun h => r1 (bytes_same h))
        have hne : a ≠ b := fun h => lget_ne (fun e => r1 (by rw [e])) hx.out hy.out (by rw [h])
        replace r1 := hide r1
        have hb9 := hide hbel
        go_upto_region 6 with (fail)
        go_quiet (fail)
        go_wp2
        go_ret
        exact ⟨ret_bool (by first | rfl | rw [decide_eq_false hne]), hwW.out.trans ((below_drewN hb9.out _).mono hws)⟩
    · obtain rfl : k = n1 := by omega
      have hvars : Hid (a.vars = b.vars) := hide (ltake_full (by rw [← hn1.out, ← hn2.out]) (by rw [← hn1.out]; exact Nat.le_refl _) htk.out)
      go_wp2_with fail
      go_loopw [6] (fun u6 wr => ∃ k : Nat, k ≤ n3 ∧ u6 = .int .i64 k ∧ Hid (a.exts.take k = b.exts.take k) ∧ Below W.heap.size W wr) (fun u6 _ => n3 - (intOf u6).toNat)
      case atStart => exact ⟨0, Nat.zero_le _, rfl, hide rfl, hbel⟩
      case round =>
        clear hbel
        obtain ⟨k, hk, rfl, htk, hbel⟩ := hrel
        by_cases hlt : k < n3
        · obtain ⟨p1, o1, rfl, he1⟩ := gx1.out (by rw [← hn3.out]; omega)
          obtain ⟨p2, o2, rfl, he2⟩ := gx2.out (by rw [← hn4.out]; omega)
          obtain ⟨x, hx⟩ := get_ex (l := a.exts) (k := k) (by rw [← hn3.out]; exact hlt)
          obtain ⟨y, hy⟩ := get_ex (l := b.exts) (k := k) (by rw [← hn4.out]; exact hlt)
          obtain ⟨ca, hra, -, hc1⟩ := he1 k x hx.out
          obtain ⟨cb, hrb, -, hc2⟩ := he2 k y hy.out
          obtain ⟨c0, c1, c2⟩ := (hc1.later hwW.out hws).three
          obtain ⟨d0, d1, d2⟩ := (hc2.later hwW.out hws).three
          have cI : Hid (∀ W', Below W.heap.size W W' → Calls Try.prog 63 #[ca, cb] W' fun e w' => e = .returned (.bool (x.params == y.params)) ∧ Below W'.heap.size W' w') := hide (fun W' h' => by
            have hW' := hwW.out.trans (h'.mono hws)
            exact rints_any ca cb x.params y.params W' W'.heap.size (Nat.le_refl _) (RInts.later hra hW' hW'.size) (RInts.later hrb hW' hW'.size))
          clear he1 he2 hc1 hc2 hra hrb
          by_cases r0 : x.params = y.params
          · rw [show (x.params == y.params) = true by rw [r0]; simp] at cI
            by_cases r1 : x.name = y.name
            · have f1 : (x.name.toList == y.name.toList) = true := by rw [r1]; simp
              by_cases r2 : x.ret = y.ret
              · have f2 : (x.ret != y.ret) = false := by rw [r2]; simp
                have hxy := hide (ext_ext r1 r0 r2)
                replace r0 := hide r0
                replace r1 := hide r1
                replace r2 := hide r2
                go_upto_region 11 with (fail)
                go_region_held3 (fun w' => Below W.heap.size W w') (first | (with_reducible assumption) | exact hbel.drew)
                  (first
                    | (go_at_call 63; refine (cI.out _ (by first | with_reducible assumption | exact hbel.drew)).mono ?_; rintro e w5 ⟨rfl, hb5⟩; have hk5 : Below W.heap.size W w5 := below_next (by first | with_reducible assumption | exact hbel.drew) hww hb5; clear hb5))
                go_upto_region 12 with (fail)
                go_quiet (fail)
                go_wp2
                go_roundw
                case rel => exact ⟨k + 1, by omega, by go_num, hide (ltake_next htk.out hx.out (hxy.out.symm ▸ hy.out)), below_drewN hk5 _⟩
                case measure => simp [intOf]; omega
              · have f2 : (x.ret != y.ret) = true := bne_iff_ne.2 r2
                have hne : a ≠ b := fun h => lget_ne (fun e => r2 (by rw [e])) hx.out hy.out (by rw [h])
                replace r0 := hide r0
                replace r1 := hide r1
                replace r2 := hide r2
                go_upto_region 11 with (fail)
                go_region_held3 (fun w' => Below W.heap.size W w') (first | (with_reducible assumption) | exact hbel.drew)
                  (first
                    | (go_at_call 63; refine (cI.out _ (by first | with_reducible assumption | exact hbel.drew)).mono ?_; rintro e w5 ⟨rfl, hb5⟩; have hk5 : Below W.heap.size W w5 := below_next (by first | with_reducible assumption | exact hbel.drew) hww hb5; clear hb5))
                go_upto_region 12 with (fail)
                have hb9 := hide hk5
                go_quiet (fail)
                go_wp2
                go_ret
                exact ⟨ret_bool (by first | rfl | rw [decide_eq_false hne]), hwW.out.trans ((below_drewN hb9.out _).mono hws)⟩
            · have f1 : (x.name.toList == y.name.toList) = false := beq_eq_false_iff_ne.2 (fun h => r1 (bytes_same h))
              have hne : a ≠ b := fun h => lget_ne (fun e => r1 (by rw [e])) hx.out hy.out (by rw [h])
              replace r0 := hide r0
              replace r1 := hide r1
              go_upto_region 11 with (fail)
              go_region_held3 (fun w' => Below W.heap.size W w') (first | (with_reducible assumption) | exact hbel.drew)
                (first
                  | (go_at_call 63; refine (cI.out _ (by first | with_reducible assumption | exact hbel.drew)).mono ?_; rintro e w5 ⟨rfl, hb5⟩; have hk5 : Below W.heap.size W w5 := below_next (by first | with_reducible assumption | exact hbel.drew) hww hb5; clear hb5))
              go_upto_region 12 with (fail)
              have hb9 := hide hk5
              go_quiet (fail)
              go_wp2
              go_ret
              exact ⟨ret_bool (by first | rfl | rw [decide_eq_false hne]), hwW.out.trans ((below_drewN hb9.out _).mono hws)⟩
          · rw [show (x.params == y.params) = false from beq_eq_false_iff_ne.2 r0] at cI
            have hne : a ≠ b := fun h => lget_ne (fun e => r0 (by rw [e])) hx.out hy.out (by rw [h])
            replace r0 := hide r0
            go_upto_region 11 with (fail)
            go_region_held3 (fun w' => Below W.heap.size W w') (first | (with_reducible assumption) | exact hbel.drew)
              (first
                | (go_at_call 63; refine (cI.out _ (by first | with_reducible assumption | exact hbel.drew)).mono ?_; rintro e w5 ⟨rfl, hb5⟩; have hk5 : Below W.heap.size W w5 := below_next (by first | with_reducible assumption | exact hbel.drew) hww hb5; clear hb5))
            go_upto_region 12 with (fail)
            have hb9 := hide hk5
            go_quiet (fail)
            go_wp2
            go_ret
            exact ⟨ret_bool (by first | rfl | rw [decide_eq_false hne]), hwW.out.trans ((below_drewN hb9.out _).mono hws)⟩
        · obtain rfl : k = n3 := by omega
          have hexts : Hid (a.exts = b.exts) := hide (ltake_full (by rw [← hn3.out, ← hn4.out]) (by rw [← hn3.out]; exact Nat.le_refl _) htk.out)
          go_wp2_with fail
          go_loopw [8] (fun u8 wr => ∃ k : Nat, k ≤ n5 ∧ u8 = .int .i64 k ∧ Hid (a.funcs.take k = b.funcs.take k) ∧ Below W.heap.size W wr) (fun u8 _ => n5 - (intOf u8).toNat)
          case atStart => exact ⟨0, Nat.zero_le _, rfl, hide rfl, hbel⟩
          case round =>
            clear hbel
            obtain ⟨k, hk, rfl, htk, hbel⟩ := hrel
            by_cases hlt : k < n5
            · obtain ⟨p1, o1, rfl, he1⟩ := gf1.out (by rw [← hn5.out]; omega)
              obtain ⟨p2, o2, rfl, he2⟩ := gf2.out (by rw [← hn6.out]; omega)
              obtain ⟨x, hx⟩ := get_ex (l := a.funcs) (k := k) (by rw [← hn5.out]; exact hlt)
              obtain ⟨y, hy⟩ := get_ex (l := b.funcs) (k := k) (by rw [← hn6.out]; exact hlt)
              obtain ⟨ca, ea, hra, hc1⟩ := he1 k x hx.out
              obtain ⟨cb, eb, hrb, hc2⟩ := he2 k y hy.out
              obtain ⟨c0, c1, c2, c3⟩ := (hc1.later hwW.out hws).four
              obtain ⟨d0, d1, d2, d3⟩ := (hc2.later hwW.out hws).four
              have cI : Hid (∀ W', Below W.heap.size W W' → Calls Try.prog 26 #[x.v ca ea, y.v cb eb] W' fun e w' => e = .returned (.bool (decide (x = y))) ∧ Below W'.heap.size W' w') := hide (fun W' h' => by
                have hW' := hwW.out.trans (h'.mono hws)
                exact funcs_any x y ca ea cb eb W' W'.heap.size (Nat.le_refl _) (RFun.later hra hW' hW'.size) (RFun.later hrb hW' hW'.size))
              clear he1 he2 hc1 hc2 hra hrb
              by_cases r0 : x = y
              · rw [decide_eq_true r0] at cI
                replace r0 := hide r0
                go_upto_region 17 with (fail)
                go_region_held3 (fun w' => Below W.heap.size W w') (first | (with_reducible assumption) | exact hbel.drew)
                  (first
                    | (go_at_call 26; refine (cI.out _ (by first | with_reducible assumption | exact hbel.drew)).mono ?_; rintro e w5 ⟨rfl, hb5⟩; have hk5 : Below W.heap.size W w5 := below_next (by first | with_reducible assumption | exact hbel.drew) hww hb5; clear hb5))
                go_wp2
                go_roundw
                case rel => exact ⟨k + 1, by omega, by go_num, hide (ltake_next htk.out hx.out (r0.out.symm ▸ hy.out)), hk5⟩
                case measure => simp [intOf]; omega
              · rw [decide_eq_false r0] at cI
                have hne : a ≠ b := fun h => lget_ne r0 hx.out hy.out (by rw [h])
                replace r0 := hide r0
                go_upto_region 17 with (fail)
                go_region_held3 (fun w' => Below W.heap.size W w') (first | (with_reducible assumption) | exact hbel.drew)
                  (first
                    | (go_at_call 26; refine (cI.out _ (by first | with_reducible assumption | exact hbel.drew)).mono ?_; rintro e w5 ⟨rfl, hb5⟩; have hk5 : Below W.heap.size W w5 := below_next (by first | with_reducible assumption | exact hbel.drew) hww hb5; clear hb5))
                have hb9 := hide hk5
                go_wp2
                go_ret
                exact ⟨ret_bool (by first | rfl | rw [decide_eq_false hne]), hwW.out.trans (hb9.out.mono hws)⟩
            · obtain rfl : k = n5 := by omega
              have hab : a = b := mod_ext hvars.out hexts.out (ltake_full (by rw [← hn5.out, ← hn6.out]) (by rw [← hn5.out]; exact Nat.le_refl _) htk.out)
              have hb9 := hide hbel
              go_wp2
              go_ret
              exact ⟨ret_bool (by rw [decide_eq_true hab]), hwW.out.trans (hb9.out.mono hws)⟩
end Go.Proofs.Ytaljdbmmjgmbbaa
