/- lathelaw12.RefinePacks, walked. No condition but numbers within their kinds. -/
import Derived.Test.YtgkgmeofilkopaaMlR
namespace Go.Proofs.Ytgkgmeofilkopaa
open Go.RowKit
set_option linter.unusedSimpArgs false
set_option linter.unusedVariables false

set_option maxRecDepth 100000 in
set_option maxHeartbeats 12000000 in
theorem law_rpacks (t : Int) (v u : Val) (a b : List Byt) (ca cb : Value) (w : World) (hv : 0 ≤ v.bits ∧ v.bits ≤ 18446744073709551615) (hu : 0 ≤ u.bits ∧ u.bits ≤ 18446744073709551615)
    (ha : (Rp.slice 5 RByu).rep w w.heap.size [ca] a) (hb : (Rp.slice 5 RByu).rep w w.heap.size [cb] b) :
    Calls Try.prog 8 #[.int .i64 t, vv v, vv u, ca, cb] w fun e w' => e = .returned (.bool true) ∧ Below w.heap.size w w' := by
  obtain ⟨x, hx⟩ : ∃ x, Hid (normS t v = x) := ⟨_, hide rfl⟩
  obtain ⟨y, hy⟩ : ∃ y, Hid (normS t u = y) := ⟨_, hide rfl⟩
  have cN : Hid (∀ W z, (z = v ∨ z = u) → Calls Try.prog 36 #[.int .i64 t, vv z] W fun e w' => e = .returned (vv (normS t z)) ∧ Below W.heap.size W w') := hide (fun W z hz => by
    rcases hz with rfl | rfl
    · exact norm_any t _ W hv
    · exact norm_any t _ W hu)
  have cP : Hid (∀ W z, (z = v ∨ z = u) → Calls Try.prog 31 #[.int .i64 t, vv z] W (PackPost t z W)) := hide (fun W z hz => by
    rcases hz with rfl | rfl
    · exact pack_any t _ W hv
    · exact pack_any t _ W hu)
  obtain ⟨n, hn⟩ : ∃ n : Nat, Hid ((countS t).toNat = n) := ⟨_, hide rfl⟩
  have hn8 : n ≤ 8 := by have := countS_le t; have := hn.out; omega
  have cUa : Hid (∀ W', Below w.heap.size w W' → Calls Try.prog 34 #[.int .i64 t, ca] W' fun e w' => e = .returned (vv (unpackS t a)) ∧ Below W'.heap.size W' w') := hide (fun W' h => unpack_any t a ca W' (Rp.later (R := Rp.slice 5 RByu) ha h h.size))
  obtain ⟨A, capa, hca, hla, -⟩ := Rp.slice_open ha
  obtain ⟨B, capb, hcb, hlb, -⟩ := Rp.slice_open hb
  cases hca
  cases hcb
  obtain ⟨hoka, -, ga⟩ := slice5_parts ha
  obtain ⟨hokb, -, gb⟩ := slice5_parts hb
  have hAn : A = none → a.length = 0 := fun e => by
    rcases Nat.eq_zero_or_pos a.length with h | h
    · exact h
    · obtain ⟨q, o, hq, -⟩ := ga h; rw [e] at hq; cases hq
  clear ha hb
  replace ga := hide ga
  replace gb := hide gb
  replace hoka := hide hoka
  replace hokb := hide hokb
  replace hAn := hide hAn
  obtain ⟨m, hm⟩ : ∃ m, Hid (m = a.length) := ⟨_, hide rfl⟩
  obtain ⟨m', hm'⟩ : ∃ m', Hid (m' = b.length) := ⟨_, hide rfl⟩
  rw [← hm.out] at hla cUa ⊢
  rw [← hm'.out] at hlb ⊢
  obtain ⟨W, hW, hwW, hWs, q1, q2⟩ := boxes2 w #[.int .i64 v.kind, .int .u64 v.bits, .int .i64 v.block, .int .i64 v.off] #[.int .i64 u.kind, .int .u64 u.bits, .int .i64 u.block, .int .i64 u.off] 47 47
  have v0 := q1 0 _ rfl
  have v1 := q1 1 _ rfl
  have v2 := q1 2 _ rfl
  have v3 := q1 3 _ rfl
  have u0 := q2 0 _ rfl
  have u1 := q2 1 _ rfl
  have u2 := q2 2 _ rfl
  have u3 := q2 3 _ rfl
  clear q1 q2
  have hws : w.heap.size ≤ W.heap.size := by omega
  replace hWs := hide hWs
  replace hwW := hide hwW
  replace hW := hide hW
  by_cases hbig : 1000 < (m : Int)
  · go_enter Try.func8, Try.ntmps8
    go_wp2_with fail
    rw [hW.out]
    refine (lives12 W).mono ?_
    rintro e w1 ⟨rfl, hb1⟩
    replace hb1 := hide hb1
    go_wp2
    go_ret
    exact ⟨rfl, hwW.out.trans (hb1.out.mono hws)⟩
  by_cases hmm : m' = m
  case neg =>
    have hne : ((m' : Int) != (m : Int)) = true := bne_iff_ne.2 (by omega)
    replace hmm := hide hmm
    go_enter Try.func8, Try.ntmps8
    go_wp2_with fail
    rw [hW.out]
    refine (lives12 W).mono ?_
    rintro e w1 ⟨rfl, hb1⟩
    replace hb1 := hide hb1
    go_wp2
    go_ret
    exact ⟨rfl, hwW.out.trans (hb1.out.mono hws)⟩
  subst hmm
  have hab : Hid (a.length = b.length) := hide (by rw [← hm.out, hm'.out])
  have cV : Hid (∀ W, Calls Try.prog 42 #[vv x, vv y] W fun e w' => e = .returned (.bool (rvalue x y)) ∧ Below W.heap.size W w') := hide (fun W => value_any x y W)
  obtain ⟨i0, hi0, hz0, hz1, hz2⟩ := info_parts info_Byte
  replace hi0 := hide hi0
  replace hz0 := hide hz0
  replace hz1 := hide hz1
  replace hz2 := hide hz2
  cases hr : rvalue x y with
  | true =>
    go_enter Try.func8, Try.ntmps8
    go_wp2_with fail
    rw [hW.out]
    clear hW
    refine (lives12 W).mono ?_
    rintro e U ⟨rfl, hb1⟩
    have hsz := hb1.size
    have y0 : ∀ w', Below U.heap.size U w' → w'.cell? ⟨w.heap.size, 0, none⟩ = some (.int .i64 v.kind) := fun w' h => v0 w' (hb1.trans (h.mono hsz))
    have y1 : ∀ w', Below U.heap.size U w' → w'.cell? ⟨w.heap.size, 1, none⟩ = some (.int .u64 v.bits) := fun w' h => v1 w' (hb1.trans (h.mono hsz))
    have y2 : ∀ w', Below U.heap.size U w' → w'.cell? ⟨w.heap.size, 2, none⟩ = some (.int .i64 v.block) := fun w' h => v2 w' (hb1.trans (h.mono hsz))
    have y3 : ∀ w', Below U.heap.size U w' → w'.cell? ⟨w.heap.size, 3, none⟩ = some (.int .i64 v.off) := fun w' h => v3 w' (hb1.trans (h.mono hsz))
    have z0 : ∀ w', Below U.heap.size U w' → w'.cell? ⟨w.heap.size + 1, 0, none⟩ = some (.int .i64 u.kind) := fun w' h => u0 w' (hb1.trans (h.mono hsz))
    have z1 : ∀ w', Below U.heap.size U w' → w'.cell? ⟨w.heap.size + 1, 1, none⟩ = some (.int .u64 u.bits) := fun w' h => u1 w' (hb1.trans (h.mono hsz))
    have z2 : ∀ w', Below U.heap.size U w' → w'.cell? ⟨w.heap.size + 1, 2, none⟩ = some (.int .i64 u.block) := fun w' h => u2 w' (hb1.trans (h.mono hsz))
    have z3 : ∀ w', Below U.heap.size U w' → w'.cell? ⟨w.heap.size + 1, 3, none⟩ = some (.int .i64 u.off) := fun w' h => u3 w' (hb1.trans (h.mono hsz))
    clear v0 v1 v2 v3 u0 u1 u2 u3
    have hwU := hide (hwW.out.trans (hb1.mono hws))
    have hsU : w.heap.size ≤ U.heap.size := Nat.le_trans hws hsz
    clear hb1 hwW
    have hself : Below U.heap.size U U := Below.refl _ _
    have hww : U.heap.size ≤ U.heap.size := Nat.le_refl _
    go_upto_region 5 with (fail)
    go_region_held3 (fun w' => Below U.heap.size U w') (first | (with_reducible assumption) | exact hself.drew)
      (first
        | (go_at_call 36; have hh := hk2; clear hh; refine (cN.out _ _ ?_).mono ?_; (first | exact .inl rfl | exact .inr rfl); rintro e w3 ⟨rfl, hb3⟩; rw [hy.out]; have hk3 : Below U.heap.size U w3 := below_next (by with_reducible assumption) hww hb3; clear hb3)
        | (go_at_call 36; refine (cN.out _ _ ?_).mono ?_; (first | exact .inl rfl | exact .inr rfl); rintro e w2 ⟨rfl, hb2⟩; rw [hx.out]; have hk2 : Below U.heap.size U w2 := below_next (by first | with_reducible assumption | exact hself.drew) hww hb2; clear hb2)
        | (go_at_call 42; refine (cV.out _).mono ?_; rintro e w4 ⟨rfl, hb4⟩; rw [hr]; have hk4 : Below U.heap.size U w4 := below_next (by with_reducible assumption) hww hb4; clear hb4))
    go_upto_region 6 with (fail)
    go_region_held3 (fun w' => Below U.heap.size U w') (first | (with_reducible assumption) | exact hk4.drew)
      (first
        | (go_at_call 31; have hh := hr1; clear hh; refine (cP.out _ _ ?_).mono ?_; (first | exact .inl rfl | exact .inr rfl); rintro e w6 ⟨q2, rfl, hrow2, hq2, hb6⟩; rw [hn.out]; have hr2 := hide hrow2; have hr1b := hide (Row.below hr1.out hb6 hr1.out.lt); have hk6 : Below U.heap.size U w6 := below_next (by with_reducible assumption) hww hb6; clear hrow2 hq2 hb6)
        | (go_at_call 31; refine (cP.out _ _ ?_).mono ?_; (first | exact .inl rfl | exact .inr rfl); rintro e w5 ⟨q1, rfl, hrow, hq, hb5⟩; rw [hn.out]; have hr1 := hide hrow; have hk5 : Below U.heap.size U w5 := below_next (by first | with_reducible assumption | exact hk4.drew) hww hb5; clear hrow hq hb5))
    have hself6 := Below.refl w6.heap.size w6
    have hs6 := hk6.size
    have hnn : ((n : Int) != (n : Int)) = false := by simp
    go_wp2_with fail
    go_loopw [48] (fun s wr => ∃ k : Nat, k ≤ n ∧ s = .int .i64 k ∧ Below w6.heap.size w6 wr) (fun s _ => n - (intOf s).toNat)
    case atStart => exact ⟨0, Nat.zero_le _, rfl, hself6⟩
    case round =>
      obtain ⟨k, hk, rfl, hbel⟩ := hrel
      by_cases hlt : k < n
      · obtain ⟨c1, hc1⟩ := get_ex (l := packS t v) (k := k) (by rw [packS_len, hn.out]; exact hlt)
        obtain ⟨c2, hc2⟩ := get_ex (l := packS t u) (k := k) (by rw [packS_len, hn.out]; exact hlt)
        have hby : Hid (rbyte c1 c2 = true) := hide (pack_refines (by rw [hx.out, hy.out]; exact hr) hc1.out hc2.out)
        have d0 : ∀ w', Below w6.heap.size w6 w' → w'.cell? ⟨q1, k * 5, none⟩ = some (.int .i64 c1.kind) := fun w' h => (Row.cells (Row.below hr1b.out h hr1b.out.lt) hc1.out).1
        have d1 : ∀ w', Below w6.heap.size w6 w' → w'.cell? ⟨q1, k * 5 + 1, none⟩ = some (.int .u8 c1.bits) := fun w' h => (Row.cells (Row.below hr1b.out h hr1b.out.lt) hc1.out).2.1
        have d2 : ∀ w', Below w6.heap.size w6 w' → w'.cell? ⟨q1, k * 5 + 2, none⟩ = some (.int .i64 c1.block) := fun w' h => (Row.cells (Row.below hr1b.out h hr1b.out.lt) hc1.out).2.2.1
        have d3 : ∀ w', Below w6.heap.size w6 w' → w'.cell? ⟨q1, k * 5 + 3, none⟩ = some (.int .i64 c1.off) := fun w' h => (Row.cells (Row.below hr1b.out h hr1b.out.lt) hc1.out).2.2.2.1
        have d4 : ∀ w', Below w6.heap.size w6 w' → w'.cell? ⟨q1, k * 5 + 4, none⟩ = some (.int .i64 c1.i) := fun w' h => (Row.cells (Row.below hr1b.out h hr1b.out.lt) hc1.out).2.2.2.2
        have e0 : ∀ w', Below w6.heap.size w6 w' → w'.cell? ⟨q2, k * 5, none⟩ = some (.int .i64 c2.kind) := fun w' h => (Row.cells (Row.below hr2.out h hr2.out.lt) hc2.out).1
        have e1 : ∀ w', Below w6.heap.size w6 w' → w'.cell? ⟨q2, k * 5 + 1, none⟩ = some (.int .u8 c2.bits) := fun w' h => (Row.cells (Row.below hr2.out h hr2.out.lt) hc2.out).2.1
        have e2 : ∀ w', Below w6.heap.size w6 w' → w'.cell? ⟨q2, k * 5 + 2, none⟩ = some (.int .i64 c2.block) := fun w' h => (Row.cells (Row.below hr2.out h hr2.out.lt) hc2.out).2.2.1
        have e3 : ∀ w', Below w6.heap.size w6 w' → w'.cell? ⟨q2, k * 5 + 3, none⟩ = some (.int .i64 c2.off) := fun w' h => (Row.cells (Row.below hr2.out h hr2.out.lt) hc2.out).2.2.2.1
        have e4 : ∀ w', Below w6.heap.size w6 w' → w'.cell? ⟨q2, k * 5 + 4, none⟩ = some (.int .i64 c2.i) := fun w' h => (Row.cells (Row.below hr2.out h hr2.out.lt) hc2.out).2.2.2.2
        have cB : Hid (∀ W, Calls Try.prog 43 #[c1.v, c2.v] W fun e w' => e = .returned (.bool true) ∧ Below W.heap.size W w') := hide (fun W => by have := byte_any c1 c2 W; rwa [hby.out] at this)
        have hww6 : w6.heap.size ≤ w6.heap.size := Nat.le_refl _
        clear y0 y1 y2 y3 z0 z1 z2 z3
        go_upto_region 12 with (fail)
        go_region_held3 (fun w' => Below w6.heap.size w6 w') (first | (with_reducible assumption) | exact hbel.drew)
          (first
            | (go_at_call 43; refine (cB.out _).mono ?_; rintro e w7 ⟨rfl, hb7⟩; have hk7 : Below w6.heap.size w6 w7 := below_next (by first | with_reducible assumption | exact hbel.drew) hww6 hb7; clear hb7))
        go_wp2
        go_roundw
        case rel => exact ⟨k + 1, by omega, by go_num, hk7⟩
        case measure => simp [intOf]; omega
      · clear y0 y1 y2 y3 z0 z1 z2 z3
        have hkX := hk6.trans (hbel.mono hs6)
        obtain ⟨X, hX⟩ : ∃ X, X = wr := ⟨_, rfl⟩
        rw [← hX] at hkX ⊢
        clear hbel hX hr1 hr1b hr2 hk5 hk6 hself6 hs6 hnn
        have hwX := hwU.out.trans (hkX.mono hsU)
        have hsX := hwX.size
        clear hkX hself hww hwU
        go_upto_region 15 with (fail)
        have hown0 := hide (World.ownsRow_lit (base := X.heap.size) (e := 54) (size := 5) X #[] 0 (Nat.le_refl _) (Nat.zero_le _) rfl)
        have hnews : Hid (∀ ad, A = some ad → ∀ j z, (a.flatMap bc)[j]? = some z → (X.alloc (.cells #[] 54)).cell? (ad.add j) = some z) := hide (fun ad had j z hz => by
          have h0 : 0 < a.length := by have := (List.getElem?_eq_some_iff.1 hz).1; rw [flat_len] at this; omega
          obtain ⟨q, o, hq, hql, hce⟩ := ga.out h0
          rw [hq] at had
          cases had
          rw [rowC_get] at hz
          cases hy' : a[j / 5]? with
          | none => rw [hy'] at hz; cases hz
          | some d =>
            rw [hy'] at hz
            have hh := hce (j / 5) d hy' (j % 5) z hz (X.alloc (.cells #[] 54)) (hwX.alloc hsX _)
            rw [Addr.add_mid, show o + j = o + j / 5 * 5 + j % 5 by omega]
            exact hh)
        go_wp2_with (at_builtin; refine wpList_append_any _ rfl (.tmp 62) (.tmp 63) _ rfl X.heap.size 54 i0 _ 5 40 Try.underlying48 hi0.out hz0.out hz1.out hz2.out rfl (by omega) (.slice (some ⟨X.heap.size, 0, none⟩) 0 0) 0 [] rfl hown0.out A m' capa (a.flatMap bc) rfl ?c1 ?c2 ?c3 (bc_one _) ?c4 ?c5 (by simp) ?_)
        case c1 => first | (rw [flat_len, ← hm.out]) | (have h := flat_len a; rw [List.length_flatMap] at h; rw [h, ← hm.out])
        case c2 => intro e; have := hAn.out e; have := hm.out; omega
        case c3 => exact hnews.out
        case c4 => unfold maxLen; omega
        case c5 => omega
        intro v1 Y hownY hgY
        have hXY : Below X.heap.size X Y := ((Below.refl X.heap.size X).alloc (Nat.le_refl _) _).grown hgY (by simp) (fun k hk => by simp [Value.ownBlock] at hk; omega)
        have hOB : OwnB Y X.heap.size v1 (betB 0 a b) := by
          unfold OwnB
          rw [betB_zero, ← hm.out]
          simpa using hownY
        obtain ⟨A1, cap1, rfl, hA1⟩ : ∃ A1 cap1, v1 = .slice A1 m' cap1 ∧ Hid (0 < m' → ∃ g, A1 = some ⟨g, 0, none⟩ ∧ X.heap.size ≤ g) := by
          rcases hownY.2 with ⟨h1, h2⟩ | ⟨g, cp, cur, h1, h2, _⟩
          · exact ⟨none, 0, by rw [h1]; congr 1; omega, hide (fun h => by omega)⟩
          · exact ⟨_, cp, by first | (rw [h1]; done) | (rw [h1]; congr 1; omega), hide (fun _ => ⟨g, rfl, h2⟩)⟩
        replace hOB := hide hOB
        clear hownY hgY hown0 hnews
        go_wp2_with fail
        go_loopw [67] (fun s wr => ∃ k : Nat, k ≤ m' ∧ s = .int .i64 k ∧ Hid (OwnB wr X.heap.size (.slice A1 m' cap1) (betB k a b)) ∧ Below X.heap.size X wr) (fun s _ => m' - (intOf s).toNat)
        case atStart => exact ⟨0, Nat.zero_le _, rfl, hOB, hXY⟩
        case round =>
          obtain ⟨k, hk, rfl, hO, hbel⟩ := hrel
          clear hOB hXY
          by_cases hlt : k < m'
          · obtain ⟨g, rfl, hgX⟩ := hA1.out (by omega)
            obtain ⟨c1, hc1⟩ := get_ex (l := a) (k := k) (by rw [← hm.out]; exact hlt)
            obtain ⟨c2, hc2⟩ := get_ex (l := b) (k := k) (by rw [← hm'.out]; exact hlt)
            have hbk : Hid ((betB k a b)[k]? = some c1) := hide (by rw [betB_at hc1.out hc2.out, if_neg (fun h => by omega)])
            have hst := hide (betB_step hab.out hc1.out hc2.out)
            obtain ⟨q1, o1, rfl, hq1, hce1⟩ := ga.out (by rw [← hm.out]; omega)
            obtain ⟨q2, o2, rfl, hq2, hce2⟩ := gb.out (by rw [← hm'.out]; omega)
            have hwr := hwX.trans (hbel.mono hsX)
            have hrs := hwr.size
            obtain ⟨p0, p1, p2, p3, p4⟩ := Cells.five (hce1 k c1 hc1.out)
            obtain ⟨r0, r1, r2, r3, r4⟩ := Cells.five (hce2 k c2 hc2.out)
            have d0 : ∀ w', Below wr.heap.size wr w' → w'.cell? ⟨q1, o1 + k * 5, none⟩ = some (.int .i64 c1.kind) := fun w' h => p0 w' (hwr.trans (h.mono hrs))
            have d1 : ∀ w', Below wr.heap.size wr w' → w'.cell? ⟨q1, o1 + k * 5 + 1, none⟩ = some (.int .u8 c1.bits) := fun w' h => p1 w' (hwr.trans (h.mono hrs))
            have d2 : ∀ w', Below wr.heap.size wr w' → w'.cell? ⟨q1, o1 + k * 5 + 2, none⟩ = some (.int .i64 c1.block) := fun w' h => p2 w' (hwr.trans (h.mono hrs))
            have d3 : ∀ w', Below wr.heap.size wr w' → w'.cell? ⟨q1, o1 + k * 5 + 3, none⟩ = some (.int .i64 c1.off) := fun w' h => p3 w' (hwr.trans (h.mono hrs))
            have d4 : ∀ w', Below wr.heap.size wr w' → w'.cell? ⟨q1, o1 + k * 5 + 4, none⟩ = some (.int .i64 c1.i) := fun w' h => p4 w' (hwr.trans (h.mono hrs))
            have e0 : ∀ w', Below wr.heap.size wr w' → w'.cell? ⟨q2, o2 + k * 5, none⟩ = some (.int .i64 c2.kind) := fun w' h => r0 w' (hwr.trans (h.mono hrs))
            have e1 : ∀ w', Below wr.heap.size wr w' → w'.cell? ⟨q2, o2 + k * 5 + 1, none⟩ = some (.int .u8 c2.bits) := fun w' h => r1 w' (hwr.trans (h.mono hrs))
            have e2 : ∀ w', Below wr.heap.size wr w' → w'.cell? ⟨q2, o2 + k * 5 + 2, none⟩ = some (.int .i64 c2.block) := fun w' h => r2 w' (hwr.trans (h.mono hrs))
            have e3 : ∀ w', Below wr.heap.size wr w' → w'.cell? ⟨q2, o2 + k * 5 + 3, none⟩ = some (.int .i64 c2.off) := fun w' h => r3 w' (hwr.trans (h.mono hrs))
            have e4 : ∀ w', Below wr.heap.size wr w' → w'.cell? ⟨q2, o2 + k * 5 + 4, none⟩ = some (.int .i64 c2.i) := fun w' h => r4 w' (hwr.trans (h.mono hrs))
            clear p0 p1 p2 p3 p4 r0 r1 r2 r3 r4 hce1 hce2
            have hselfr := Below.refl wr.heap.size wr
            have hwwr : wr.heap.size ≤ wr.heap.size := Nat.le_refl _
            have cB : Hid (∀ W, Calls Try.prog 43 #[c1.v, c2.v] W fun e w' => e = .returned (.bool (rbyte c1 c2)) ∧ Below W.heap.size W w') := hide (fun W => byte_any c1 c2 W)
            replace hwr := hide hwr
            replace hbel := hide hbel
            cases hby : rbyte c1 c2 with
            | true =>
              rw [hby] at cB
              rw [hby, if_pos rfl] at hst
              go_upto_region 19 with (fail)
              go_region_held3 (fun w' => Below wr.heap.size wr w') (first | (with_reducible assumption) | exact hselfr.drew)
                (first
                  | (go_at_call 43; refine (cB.out _).mono ?_; rintro e w7 ⟨rfl, hb7⟩; have hk7 : Below wr.heap.size wr w7 := below_next (by first | with_reducible assumption | exact hselfr.drew) hwwr hb7; clear hb7))
              have hO7 : OwnB w7 X.heap.size (.slice (some ⟨g, 0, none⟩) (betB k a b).length cap1) (betB k a b) := by
                rw [betB_len, ← hm.out]
                exact ownsRow_kept hO.out fun j hj => hk7.block j (hO.out.lt j hj).2
              obtain ⟨⟨s0, s1, s2, s3, s4⟩, hfz⟩ := hO7.cells hbk.out
              have fz0 := hfz (k * 5)
              have fz1 := hfz (k * 5 + 1)
              have fz2 := hfz (k * 5 + 2)
              have fz3 := hfz (k * 5 + 3)
              have fz4 := hfz (k * 5 + 4)
              have hput := hide (hO7.put (k := k) (by rw [betB_len, ← hm.out]; exact hlt) c2)
              rw [← hst.out, betB_len, ← hm.out] at hput
              have hb8 := hide (hbel.out.trans (hk7.mono hbel.out.size))
              replace hO7 := hide hO7
              clear hfz
              go_wp2
              go_roundw
              case rel => exact ⟨k + 1, by omega, by go_num, hput, below_put hb8.out hgX⟩
              case measure => simp [intOf]; omega
            | false =>
              rw [hby] at cB
              rw [hby, if_neg (by decide)] at hst
              go_upto_region 19 with (fail)
              go_region_held3 (fun w' => Below wr.heap.size wr w') (first | (with_reducible assumption) | exact hselfr.drew)
                (first
                  | (go_at_call 43; refine (cB.out _).mono ?_; rintro e w7 ⟨rfl, hb7⟩; have hk7 : Below wr.heap.size wr w7 := below_next (by first | with_reducible assumption | exact hselfr.drew) hwwr hb7; clear hb7))
              have hO7 : Hid (OwnB w7 X.heap.size (.slice (some ⟨g, 0, none⟩) m' cap1) (betB (k + 1) a b)) := hide (by
                rw [hst.out]
                exact ownsRow_kept hO.out fun j hj => hk7.block j (hO.out.lt j hj).2)
              have hb8 := hide (hbel.out.trans (hk7.mono hbel.out.size))
              go_wp2
              go_roundw
              case rel => exact ⟨k + 1, by omega, by go_num, hO7, hb8.out⟩
              case measure => simp [intOf]; omega
          · obtain rfl : k = m' := by omega
            have hwr := hwX.trans (hbel.mono hsX)
            have hcall := hide (cUa.out wr hwr)
            have hgood := hide (unpack_refines (t := t) (by rw [betB_len]) (betB_good (k := k) hab.out))
            have hokr := betB_ok (k := k) hoka.out hokb.out hab.out
            go_wp2_with fail
            refine hcall.out.mono ?_
            rintro e w8 ⟨rfl, hb8⟩
            have hO8 : OwnB w8 X.heap.size (.slice A1 k cap1) (betB k a b) := ownsRow_kept hO.out fun j hj => hb8.block j (hO.out.lt j hj).2
            have hcall2 := hide (unpack_any t _ _ w8 (hO8.rep hokr))
            have hb9 := hide (hwr.trans (hb8.mono hwr.size))
            clear hb8 hO8 hokr hbel hwr
            go_wp2_with fail
            refine hcall2.out.mono ?_
            rintro e w9 ⟨rfl, hb10⟩
            have hb11 := hide (hb9.out.trans (hb10.mono hb9.out.size))
            clear hb10
            have hlast := hide (value_any (unpackS t a) (unpackS t (betB k a b)) w9)
            rw [hgood.out] at hlast
            go_wp2_with fail
            refine hlast.out.mono ?_
            rintro e w10 ⟨rfl, hb12⟩
            replace hb12 := hide hb12
            go_wp2
            go_ret
            exact ⟨rfl, hb11.out.trans (hb12.out.mono hb11.out.size)⟩
  | false =>
    go_enter Try.func8, Try.ntmps8
    go_wp2_with fail
    rw [hW.out]
    clear hW
    refine (lives12 W).mono ?_
    rintro e U ⟨rfl, hb1⟩
    have hsz := hb1.size
    have y0 : ∀ w', Below U.heap.size U w' → w'.cell? ⟨w.heap.size, 0, none⟩ = some (.int .i64 v.kind) := fun w' h => v0 w' (hb1.trans (h.mono hsz))
    have y1 : ∀ w', Below U.heap.size U w' → w'.cell? ⟨w.heap.size, 1, none⟩ = some (.int .u64 v.bits) := fun w' h => v1 w' (hb1.trans (h.mono hsz))
    have y2 : ∀ w', Below U.heap.size U w' → w'.cell? ⟨w.heap.size, 2, none⟩ = some (.int .i64 v.block) := fun w' h => v2 w' (hb1.trans (h.mono hsz))
    have y3 : ∀ w', Below U.heap.size U w' → w'.cell? ⟨w.heap.size, 3, none⟩ = some (.int .i64 v.off) := fun w' h => v3 w' (hb1.trans (h.mono hsz))
    have z0 : ∀ w', Below U.heap.size U w' → w'.cell? ⟨w.heap.size + 1, 0, none⟩ = some (.int .i64 u.kind) := fun w' h => u0 w' (hb1.trans (h.mono hsz))
    have z1 : ∀ w', Below U.heap.size U w' → w'.cell? ⟨w.heap.size + 1, 1, none⟩ = some (.int .u64 u.bits) := fun w' h => u1 w' (hb1.trans (h.mono hsz))
    have z2 : ∀ w', Below U.heap.size U w' → w'.cell? ⟨w.heap.size + 1, 2, none⟩ = some (.int .i64 u.block) := fun w' h => u2 w' (hb1.trans (h.mono hsz))
    have z3 : ∀ w', Below U.heap.size U w' → w'.cell? ⟨w.heap.size + 1, 3, none⟩ = some (.int .i64 u.off) := fun w' h => u3 w' (hb1.trans (h.mono hsz))
    clear v0 v1 v2 v3 u0 u1 u2 u3
    have hwU := hide (hwW.out.trans (hb1.mono hws))
    have hsU : w.heap.size ≤ U.heap.size := Nat.le_trans hws hsz
    clear hb1 hwW
    have hself : Below U.heap.size U U := Below.refl _ _
    have hww : U.heap.size ≤ U.heap.size := Nat.le_refl _
    go_upto_region 5 with (fail)
    go_region_held3 (fun w' => Below U.heap.size U w') (first | (with_reducible assumption) | exact hself.drew)
      (first
        | (go_at_call 36; have hh := hk2; clear hh; refine (cN.out _ _ ?_).mono ?_; (first | exact .inl rfl | exact .inr rfl); rintro e w3 ⟨rfl, hb3⟩; rw [hy.out]; have hk3 : Below U.heap.size U w3 := below_next (by with_reducible assumption) hww hb3; clear hb3)
        | (go_at_call 36; refine (cN.out _ _ ?_).mono ?_; (first | exact .inl rfl | exact .inr rfl); rintro e w2 ⟨rfl, hb2⟩; rw [hx.out]; have hk2 : Below U.heap.size U w2 := below_next (by first | with_reducible assumption | exact hself.drew) hww hb2; clear hb2)
        | (go_at_call 42; refine (cV.out _).mono ?_; rintro e w4 ⟨rfl, hb4⟩; rw [hr]; have hk4 : Below U.heap.size U w4 := below_next (by with_reducible assumption) hww hb4; clear hb4))
    obtain ⟨X, hX⟩ : ∃ X, X = w4 := ⟨_, rfl⟩
    have hkX := hk4
    rw [← hX] at hkX ⊢
    clear hX y0 y1 y2 y3 z0 z1 z2 z3 hk2 hk3 hk4
    have hwX := hwU.out.trans (hkX.mono hsU)
    have hsX := hwX.size
    clear hkX hself hww hwU
    go_upto_region 15 with (fail)
    have hown0 := hide (World.ownsRow_lit (base := X.heap.size) (e := 54) (size := 5) X #[] 0 (Nat.le_refl _) (Nat.zero_le _) rfl)
    have hnews : Hid (∀ ad, A = some ad → ∀ j z, (a.flatMap bc)[j]? = some z → (X.alloc (.cells #[] 54)).cell? (ad.add j) = some z) := hide (fun ad had j z hz => by
      have h0 : 0 < a.length := by have := (List.getElem?_eq_some_iff.1 hz).1; rw [flat_len] at this; omega
      obtain ⟨q, o, hq, hql, hce⟩ := ga.out h0
      rw [hq] at had
      cases had
      rw [rowC_get] at hz
      cases hy' : a[j / 5]? with
      | none => rw [hy'] at hz; cases hz
      | some d =>
        rw [hy'] at hz
        have hh := hce (j / 5) d hy' (j % 5) z hz (X.alloc (.cells #[] 54)) (hwX.alloc hsX _)
        rw [Addr.add_mid, show o + j = o + j / 5 * 5 + j % 5 by omega]
        exact hh)
    go_wp2_with (at_builtin; refine wpList_append_any _ rfl (.tmp 62) (.tmp 63) _ rfl X.heap.size 54 i0 _ 5 40 Try.underlying48 hi0.out hz0.out hz1.out hz2.out rfl (by omega) (.slice (some ⟨X.heap.size, 0, none⟩) 0 0) 0 [] rfl hown0.out A m' capa (a.flatMap bc) rfl ?c1 ?c2 ?c3 (bc_one _) ?c4 ?c5 (by simp) ?_)
    case c1 => first | (rw [flat_len, ← hm.out]) | (have h := flat_len a; rw [List.length_flatMap] at h; rw [h, ← hm.out])
    case c2 => intro e; have := hAn.out e; have := hm.out; omega
    case c3 => exact hnews.out
    case c4 => unfold maxLen; omega
    case c5 => omega
    intro v1 Y hownY hgY
    have hXY : Below X.heap.size X Y := ((Below.refl X.heap.size X).alloc (Nat.le_refl _) _).grown hgY (by simp) (fun k hk => by simp [Value.ownBlock] at hk; omega)
    have hOB : OwnB Y X.heap.size v1 (betB 0 a b) := by
      unfold OwnB
      rw [betB_zero, ← hm.out]
      simpa using hownY
    obtain ⟨A1, cap1, rfl, hA1⟩ : ∃ A1 cap1, v1 = .slice A1 m' cap1 ∧ Hid (0 < m' → ∃ g, A1 = some ⟨g, 0, none⟩ ∧ X.heap.size ≤ g) := by
      rcases hownY.2 with ⟨h1, h2⟩ | ⟨g, cp, cur, h1, h2, _⟩
      · exact ⟨none, 0, by rw [h1]; congr 1; omega, hide (fun h => by omega)⟩
      · exact ⟨_, cp, by first | (rw [h1]; done) | (rw [h1]; congr 1; omega), hide (fun _ => ⟨g, rfl, h2⟩)⟩
    replace hOB := hide hOB
    clear hownY hgY hown0 hnews
    go_wp2_with fail
    go_loopw [67] (fun s wr => ∃ k : Nat, k ≤ m' ∧ s = .int .i64 k ∧ Hid (OwnB wr X.heap.size (.slice A1 m' cap1) (betB k a b)) ∧ Below X.heap.size X wr) (fun s _ => m' - (intOf s).toNat)
    case atStart => exact ⟨0, Nat.zero_le _, rfl, hOB, hXY⟩
    case round =>
      obtain ⟨k, hk, rfl, hO, hbel⟩ := hrel
      clear hOB hXY
      by_cases hlt : k < m'
      · obtain ⟨g, rfl, hgX⟩ := hA1.out (by omega)
        obtain ⟨c1, hc1⟩ := get_ex (l := a) (k := k) (by rw [← hm.out]; exact hlt)
        obtain ⟨c2, hc2⟩ := get_ex (l := b) (k := k) (by rw [← hm'.out]; exact hlt)
        have hbk : Hid ((betB k a b)[k]? = some c1) := hide (by rw [betB_at hc1.out hc2.out, if_neg (fun h => by omega)])
        have hst := hide (betB_step hab.out hc1.out hc2.out)
        obtain ⟨q1, o1, rfl, hq1, hce1⟩ := ga.out (by rw [← hm.out]; omega)
        obtain ⟨q2, o2, rfl, hq2, hce2⟩ := gb.out (by rw [← hm'.out]; omega)
        have hwr := hwX.trans (hbel.mono hsX)
        have hrs := hwr.size
        obtain ⟨p0, p1, p2, p3, p4⟩ := Cells.five (hce1 k c1 hc1.out)
        obtain ⟨r0, r1, r2, r3, r4⟩ := Cells.five (hce2 k c2 hc2.out)
        have d0 : ∀ w', Below wr.heap.size wr w' → w'.cell? ⟨q1, o1 + k * 5, none⟩ = some (.int .i64 c1.kind) := fun w' h => p0 w' (hwr.trans (h.mono hrs))
        have d1 : ∀ w', Below wr.heap.size wr w' → w'.cell? ⟨q1, o1 + k * 5 + 1, none⟩ = some (.int .u8 c1.bits) := fun w' h => p1 w' (hwr.trans (h.mono hrs))
        have d2 : ∀ w', Below wr.heap.size wr w' → w'.cell? ⟨q1, o1 + k * 5 + 2, none⟩ = some (.int .i64 c1.block) := fun w' h => p2 w' (hwr.trans (h.mono hrs))
        have d3 : ∀ w', Below wr.heap.size wr w' → w'.cell? ⟨q1, o1 + k * 5 + 3, none⟩ = some (.int .i64 c1.off) := fun w' h => p3 w' (hwr.trans (h.mono hrs))
        have d4 : ∀ w', Below wr.heap.size wr w' → w'.cell? ⟨q1, o1 + k * 5 + 4, none⟩ = some (.int .i64 c1.i) := fun w' h => p4 w' (hwr.trans (h.mono hrs))
        have e0 : ∀ w', Below wr.heap.size wr w' → w'.cell? ⟨q2, o2 + k * 5, none⟩ = some (.int .i64 c2.kind) := fun w' h => r0 w' (hwr.trans (h.mono hrs))
        have e1 : ∀ w', Below wr.heap.size wr w' → w'.cell? ⟨q2, o2 + k * 5 + 1, none⟩ = some (.int .u8 c2.bits) := fun w' h => r1 w' (hwr.trans (h.mono hrs))
        have e2 : ∀ w', Below wr.heap.size wr w' → w'.cell? ⟨q2, o2 + k * 5 + 2, none⟩ = some (.int .i64 c2.block) := fun w' h => r2 w' (hwr.trans (h.mono hrs))
        have e3 : ∀ w', Below wr.heap.size wr w' → w'.cell? ⟨q2, o2 + k * 5 + 3, none⟩ = some (.int .i64 c2.off) := fun w' h => r3 w' (hwr.trans (h.mono hrs))
        have e4 : ∀ w', Below wr.heap.size wr w' → w'.cell? ⟨q2, o2 + k * 5 + 4, none⟩ = some (.int .i64 c2.i) := fun w' h => r4 w' (hwr.trans (h.mono hrs))
        clear p0 p1 p2 p3 p4 r0 r1 r2 r3 r4 hce1 hce2
        have hselfr := Below.refl wr.heap.size wr
        have hwwr : wr.heap.size ≤ wr.heap.size := Nat.le_refl _
        have cB : Hid (∀ W, Calls Try.prog 43 #[c1.v, c2.v] W fun e w' => e = .returned (.bool (rbyte c1 c2)) ∧ Below W.heap.size W w') := hide (fun W => byte_any c1 c2 W)
        replace hwr := hide hwr
        replace hbel := hide hbel
        cases hby : rbyte c1 c2 with
        | true =>
          rw [hby] at cB
          rw [hby, if_pos rfl] at hst
          go_upto_region 19 with (fail)
          go_region_held3 (fun w' => Below wr.heap.size wr w') (first | (with_reducible assumption) | exact hselfr.drew)
            (first
              | (go_at_call 43; refine (cB.out _).mono ?_; rintro e w7 ⟨rfl, hb7⟩; have hk7 : Below wr.heap.size wr w7 := below_next (by first | with_reducible assumption | exact hselfr.drew) hwwr hb7; clear hb7))
          have hO7 : OwnB w7 X.heap.size (.slice (some ⟨g, 0, none⟩) (betB k a b).length cap1) (betB k a b) := by
            rw [betB_len, ← hm.out]
            exact ownsRow_kept hO.out fun j hj => hk7.block j (hO.out.lt j hj).2
          obtain ⟨⟨s0, s1, s2, s3, s4⟩, hfz⟩ := hO7.cells hbk.out
          have fz0 := hfz (k * 5)
          have fz1 := hfz (k * 5 + 1)
          have fz2 := hfz (k * 5 + 2)
          have fz3 := hfz (k * 5 + 3)
          have fz4 := hfz (k * 5 + 4)
          have hput := hide (hO7.put (k := k) (by rw [betB_len, ← hm.out]; exact hlt) c2)
          rw [← hst.out, betB_len, ← hm.out] at hput
          have hb8 := hide (hbel.out.trans (hk7.mono hbel.out.size))
          replace hO7 := hide hO7
          clear hfz
          go_wp2
          go_roundw
          case rel => exact ⟨k + 1, by omega, by go_num, hput, below_put hb8.out hgX⟩
          case measure => simp [intOf]; omega
        | false =>
          rw [hby] at cB
          rw [hby, if_neg (by decide)] at hst
          go_upto_region 19 with (fail)
          go_region_held3 (fun w' => Below wr.heap.size wr w') (first | (with_reducible assumption) | exact hselfr.drew)
            (first
              | (go_at_call 43; refine (cB.out _).mono ?_; rintro e w7 ⟨rfl, hb7⟩; have hk7 : Below wr.heap.size wr w7 := below_next (by first | with_reducible assumption | exact hselfr.drew) hwwr hb7; clear hb7))
          have hO7 : Hid (OwnB w7 X.heap.size (.slice (some ⟨g, 0, none⟩) m' cap1) (betB (k + 1) a b)) := hide (by
            rw [hst.out]
            exact ownsRow_kept hO.out fun j hj => hk7.block j (hO.out.lt j hj).2)
          have hb8 := hide (hbel.out.trans (hk7.mono hbel.out.size))
          go_wp2
          go_roundw
          case rel => exact ⟨k + 1, by omega, by go_num, hO7, hb8.out⟩
          case measure => simp [intOf]; omega
      · obtain rfl : k = m' := by omega
        have hwr := hwX.trans (hbel.mono hsX)
        have hcall := hide (cUa.out wr hwr)
        have hgood := hide (unpack_refines (t := t) (by rw [betB_len]) (betB_good (k := k) hab.out))
        have hokr := betB_ok (k := k) hoka.out hokb.out hab.out
        go_wp2_with fail
        refine hcall.out.mono ?_
        rintro e w8 ⟨rfl, hb8⟩
        have hO8 : OwnB w8 X.heap.size (.slice A1 k cap1) (betB k a b) := ownsRow_kept hO.out fun j hj => hb8.block j (hO.out.lt j hj).2
        have hcall2 := hide (unpack_any t _ _ w8 (hO8.rep hokr))
        have hb9 := hide (hwr.trans (hb8.mono hwr.size))
        clear hb8 hO8 hokr hbel hwr
        go_wp2_with fail
        refine hcall2.out.mono ?_
        rintro e w9 ⟨rfl, hb10⟩
        have hb11 := hide (hb9.out.trans (hb10.mono hb9.out.size))
        clear hb10
        have hlast := hide (value_any (unpackS t a) (unpackS t (betB k a b)) w9)
        rw [hgood.out] at hlast
        go_wp2_with fail
        refine hlast.out.mono ?_
        rintro e w10 ⟨rfl, hb12⟩
        replace hb12 := hide hb12
        go_wp2
        go_ret
        exact ⟨rfl, hb11.out.trans (hb12.out.mono hb11.out.size)⟩
end Go.Proofs.Ytgkgmeofilkopaa
