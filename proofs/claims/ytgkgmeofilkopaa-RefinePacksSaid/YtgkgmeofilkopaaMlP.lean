/- lathelaw09.MemPacks, walked. No condition but numbers within their kinds. -/
import Derived.Test.YtgkgmeofilkopaaMwL
import Derived.Test.YtgkgmeofilkopaaMwM
import Derived.Test.YtgkgmeofilkopaaMwN
import Derived.Test.YtgkgmeofilkopaaMwO
import Derived.Test.YtgkgmeofilkopaaMmO
namespace Go.Proofs.Ytgkgmeofilkopaa
open Go.RowKit
set_option linter.unusedSimpArgs false
set_option linter.unusedVariables false

theorem row_rep {w : World} {q n : Nat} {l : List Byt} (h : Row w q l) (ok : OkB l) (hn : l.length = n) (h8 : n ≤ 4096) : (Rp.slice 5 RByu).rep w w.heap.size [.slice (some ⟨q, 0, none⟩) n n] l := by
  have hr := h.rep (B := w.heap.size) (o := 0) (n := n) (c := n) ok h.lt (by omega) (Nat.le_refl _) (by unfold maxLen; omega)
  rw [List.drop_zero, List.take_of_length_le (by omega)] at hr
  exact hr
/-- two slices of the same bytes are alike -/
theorem same_true {l : List Byt} {c d : Value} (w : World) (ha : (Rp.slice 5 RByu).rep w w.heap.size [c] l) (hb : (Rp.slice 5 RByu).rep w w.heap.size [d] l) :
    Calls Try.prog 33 #[c, d] w fun e w' => e = .returned (.bool true) ∧ Below w.heap.size w w' := by
  have := same_any l l c d w ha hb
  rw [decide_eq_true rfl] at this
  exact this
theorem Upd.setCell {F : Nat → Prop} {a w : World} {q o : Nat} {v : Value} (h : Upd F a w) (hq : F q) : Upd F a (w.setCell ⟨q, o, none⟩ v) :=
  ⟨h.os, h.tape, h.output, by have := h.size; simp only [World.setCell, Array.size_modify]; exact this, fun k hk hn => (Below.heap_setCell w ⟨q, o, none⟩ v k (fun e => hn (e ▸ hq))).trans (h.block k hk hn)⟩
theorem Upd.refl (F : Nat → Prop) (w : World) : Upd F w w := ⟨rfl, rfl, rfl, Nat.le_refl _, fun _ _ _ => rfl⟩
set_option maxRecDepth 100000 in
set_option maxHeartbeats 6400000 in
theorem law_packs (t : Int) (v : Val) (l : List Byt) (c0 : Value) (w : World) (hv : 0 ≤ v.bits ∧ v.bits ≤ 18446744073709551615) (hr : (Rp.slice 5 RByu).rep w w.heap.size [c0] l) :
    Calls Try.prog 5 #[.int .i64 t, vv v, c0] w fun e w' => e = .returned (.bool true) ∧ Below w.heap.size w w' := by
  obtain ⟨x, hx⟩ : ∃ x, Hid (normS t v = x) := ⟨_, hide rfl⟩
  have cN : Hid (∀ W, Calls Try.prog 36 #[.int .i64 t, vv v] W fun e w' => e = .returned (vv x) ∧ Below W.heap.size W w') := hide (fun W => by rw [← hx.out]; exact norm_any t v W hv)
  have cR : Hid (∀ W, Calls Try.prog 37 #[.int .i64 t, vv v] W fun e w' => e = .returned (vv x) ∧ Below W.heap.size W w') := hide (fun W => by rw [← hx.out]; exact rnorm_any t v W hv)
  obtain ⟨n, hn⟩ : ∃ n : Nat, Hid ((countS t).toNat = n) := ⟨_, hide rfl⟩
  have hn8 : n ≤ 8 := by have := countS_le t; have := hn.out; omega
  obtain ⟨u, hu⟩ : ∃ u, Hid (unpackS t l = u) := ⟨_, hide rfl⟩
  have cU : Hid (∀ W', Below w.heap.size w W' → Calls Try.prog 34 #[.int .i64 t, c0] W' fun e w' => e = .returned (vv u) ∧ Below W'.heap.size W' w') := hide (fun W' h => by rw [← hu.out]; exact unpack_any t l c0 W' (Rp.later (R := Rp.slice 5 RByu) hr h h.size))
  have cV : Hid (∀ W', Below w.heap.size w W' → Calls Try.prog 35 #[.int .i64 t, c0] W' fun e w' => e = .returned (vv u) ∧ Below W'.heap.size W' w') := hide (fun W' h => by rw [← hu.out]; exact runpack_any t l c0 W' (Rp.later (R := Rp.slice 5 RByu) hr h h.size))
  have cP : Hid (∀ W, Calls Try.prog 31 #[.int .i64 t, vv v] W (PackPost t v W)) := hide (fun W => pack_any t v W hv)
  have cQ : Hid (∀ W, Calls Try.prog 32 #[.int .i64 t, vv v] W (RPackPost t v W)) := hide (fun W => rpack_any t v W hv)
  obtain ⟨A, cap, hc0, hl9, -⟩ := Rp.slice_open hr
  cases hc0
  clear hr
  obtain ⟨m, hm⟩ : ∃ m, Hid (m = l.length) := ⟨_, hide rfl⟩
  rw [← hm.out] at hl9 cU cV ⊢
  obtain ⟨W, hW, hwW, hWs, q1⟩ := boxes1 w #[.int .i64 v.kind, .int .u64 v.bits, .int .i64 v.block, .int .i64 v.off] 47
  have v0 := q1 0 _ rfl
  have v1 := q1 1 _ rfl
  have v2 := q1 2 _ rfl
  have v3 := q1 3 _ rfl
  clear q1
  have hws : w.heap.size ≤ W.heap.size := by omega
  replace hWs := hide hWs
  replace hwW := hide hwW
  replace hW := hide hW
  by_cases hbig : 10000 < (m : Int)
  · go_enter Try.func5, Try.ntmps5
    go_wp2_with fail
    rw [hW.out]
    refine (lives_mem W).mono ?_
    rintro e w1 ⟨rfl, hb1⟩
    replace hb1 := hide hb1
    go_wp2
    go_ret
    exact ⟨rfl, hwW.out.trans (hb1.out.mono hws)⟩
  · go_enter Try.func5, Try.ntmps5
    go_wp2_with fail
    rw [hW.out]
    clear hW
    refine (lives_mem W).mono ?_
    rintro e U ⟨rfl, hb1⟩
    have hsz := hb1.size
    have y0 : ∀ w', Below U.heap.size U w' → w'.cell? ⟨w.heap.size, 0, none⟩ = some (.int .i64 v.kind) := fun w' h => v0 w' (hb1.trans (h.mono hsz))
    have y1 : ∀ w', Below U.heap.size U w' → w'.cell? ⟨w.heap.size, 1, none⟩ = some (.int .u64 v.bits) := fun w' h => v1 w' (hb1.trans (h.mono hsz))
    have y2 : ∀ w', Below U.heap.size U w' → w'.cell? ⟨w.heap.size, 2, none⟩ = some (.int .i64 v.block) := fun w' h => v2 w' (hb1.trans (h.mono hsz))
    have y3 : ∀ w', Below U.heap.size U w' → w'.cell? ⟨w.heap.size, 3, none⟩ = some (.int .i64 v.off) := fun w' h => v3 w' (hb1.trans (h.mono hsz))
    clear v0 v1 v2 v3
    have hwU := hide (hwW.out.trans (hb1.mono hws))
    have hsU : Hid (w.heap.size ≤ U.heap.size) := hide (Nat.le_trans hws hsz)
    clear hb1 hwW
    have hself : Below U.heap.size U U := Below.refl _ _
    have hww : U.heap.size ≤ U.heap.size := Nat.le_refl _
    go_upto_region 5 with (fail)
    go_region_held3 (fun w' => Below U.heap.size U w') (first | (with_reducible assumption) | exact hself.drew)
      (first
        | (go_at_call 31; have hh := hr1; clear hh; refine (cP.out _).mono ?_; rintro e w4 ⟨q2, rfl, hrow2, hq2, hb4⟩; rw [hn.out]; have hr2 := hide hrow2; have hr1b := hide (Row.below hr1.out hb4 hr1.out.lt); have hqq := hide (Nat.lt_of_lt_of_le hr1.out.lt hq2); have hk4 : Below U.heap.size U w4 := below_next (by with_reducible assumption) hww hb4; clear hrow2 hq2 hb4)
        | (go_at_call 31; refine (cP.out _).mono ?_; rintro e w3 ⟨q1, rfl, hrow, hq, hb3⟩; rw [hn.out]; have hr1 := hide hrow; have hq1 := hide hq; have hk3 : Below U.heap.size U w3 := below_next (by first | with_reducible assumption | exact hself.drew) hww hb3; clear hrow hq hb3))
    go_wp2_with fail
    refine (cQ.out _).mono ?_
    rintro e X ⟨c, rfl, hown, hb5⟩
    have hkX := hk4.trans (hb5.mono (by first | exact hk4.size | exact Nat.le_refl _))
    have hrX1 := hide (Row.below hr1b.out hb5 hr1b.out.lt)
    have hrX2 := hide (Row.below hr2.out hb5 hr2.out.lt)
    have hok := okB_pack t v
    have hln := packS_len t v
    rw [hn.out] at hln
    have hwX := hide (hwU.out.trans (hkX.mono hsU.out))
    have hqX : Hid (w.heap.size ≤ q1) := hide (Nat.le_trans hsU.out hq1.out)
    have hownX := hide hown
    have hq4 := hide hr2.out.lt
    have hsX := hkX.size
    have z0 : ∀ w', Below X.heap.size X w' → w'.cell? ⟨w.heap.size, 0, none⟩ = some (.int .i64 v.kind) := fun w' h => y0 w' (hkX.trans (h.mono hsX))
    have z1 : ∀ w', Below X.heap.size X w' → w'.cell? ⟨w.heap.size, 1, none⟩ = some (.int .u64 v.bits) := fun w' h => y1 w' (hkX.trans (h.mono hsX))
    have z2 : ∀ w', Below X.heap.size X w' → w'.cell? ⟨w.heap.size, 2, none⟩ = some (.int .i64 v.block) := fun w' h => y2 w' (hkX.trans (h.mono hsX))
    have z3 : ∀ w', Below X.heap.size X w' → w'.cell? ⟨w.heap.size, 3, none⟩ = some (.int .i64 v.off) := fun w' h => y3 w' (hkX.trans (h.mono hsX))
    clear y0 y1 y2 y3 hb5 hkX
    have cS : Hid (∀ W', Below X.heap.size X W' → Calls Try.prog 33 #[.slice (some ⟨q1, 0, none⟩) n n, c] W' fun e w' => e = .returned (.bool true) ∧ Below W'.heap.size W' w') := hide (fun W' h =>
      same_true W' (row_rep (Row.below hrX1.out h hrX1.out.lt) hok hln (by omega)) (Rp.later (R := Rp.slice 5 RByu) (hown.rep (Nat.zero_le _)) h h.size))
    have cUX : Hid (∀ W', Below X.heap.size X W' → Calls Try.prog 34 #[.int .i64 t, .slice A m cap] W' fun e w' => e = .returned (vv u) ∧ Below W'.heap.size W' w') := hide (fun W' h => cU.out W' (hwX.out.trans (h.mono hwX.out.size)))
    have cVX : Hid (∀ W', Below X.heap.size X W' → Calls Try.prog 35 #[.int .i64 t, .slice A m cap] W' fun e w' => e = .returned (vv u) ∧ Below W'.heap.size W' w') := hide (fun W' h => cV.out W' (hwX.out.trans (h.mono hwX.out.size)))
    clear cU cV cP cQ hown
    replace hok := hide hok
    replace hln := hide hln
    have hselfX : Below X.heap.size X X := Below.refl _ _
    have hwwX : X.heap.size ≤ X.heap.size := Nat.le_refl _
    clear hself hww hk3 hk4 hr1 hr1b hr2 hq1
    go_upto_region 7 with (fail)
    go_region_held3 (fun w' => Below X.heap.size X w') (first | (with_reducible assumption) | exact hselfX.drew)
      (first
        | (go_at_call 33; refine (cS.out _ hselfX.drew).mono ?_; rintro e w5 ⟨rfl, hb5⟩; have hk5 : Below X.heap.size X w5 := below_next (hselfX.drew) hwwX hb5; clear hb5)
        | (go_at_call 34; refine (cUX.out _ (by with_reducible assumption)).mono ?_; rintro e w6 ⟨rfl, hb6⟩; have hk6 : Below X.heap.size X w6 := below_next (by with_reducible assumption) hwwX hb6; clear hb6)
        | (go_at_call 35; refine (cVX.out _ (by with_reducible assumption)).mono ?_; rintro e w7 ⟨rfl, hb7⟩; have hk7 : Below X.heap.size X w7 := below_next (by with_reducible assumption) hwwX hb7; clear hb7)
        | (go_at_call 36; refine (cN.out _).mono ?_; rintro e w8 ⟨rfl, hb8⟩; have hk8 : Below X.heap.size X w8 := below_next (by with_reducible assumption) hwwX hb8; clear hb8)
        | (go_at_call 37; refine (cR.out _).mono ?_; rintro e w9 ⟨rfl, hb9⟩; have hk9 : Below X.heap.size X w9 := below_next (by with_reducible assumption) hwwX hb9; clear hb9))
    have hrY1 := Row.below hrX1.out hk9 hrX1.out.lt
    have hrY2 := hide (Row.below hrX2.out hk9 hrX2.out.lt)
    have hownY := hide (hownX.out.later hk9 (Nat.zero_le _))
    have hwY := hide (hwX.out.trans (hk9.mono hwX.out.size))
    clear hk5 hk6 hk7 hk8 hk9 z0 z1 z2 z3 hselfX hwwX cS cUX cVX hrX1 hrX2 hownX hwX
    have hinit : Hid (∃ l', l'.length = n ∧ Row w9 q1 l') := hide ⟨_, hln.out, hrY1⟩
    have hupd : Hid (Upd (fun i => i = q1) w9 w9) := hide (Upd.of_below (Below.refl _ _))
    clear hrY1
    go_wp2_with fail
    go_loopw [49] (fun s wr => ∃ k : Nat, k ≤ n ∧ s = .int .i64 k ∧ Hid (∃ l', l'.length = n ∧ Row wr q1 l') ∧ Hid (Upd (fun i => i = q1) w9 wr)) (fun s _ => n - (intOf s).toNat)
    case atStart => exact ⟨0, Nat.zero_le _, rfl, hinit, hupd⟩
    case round =>
      obtain ⟨k, hk, rfl, hrow, hup⟩ := hrel
      clear hinit hupd
      by_cases hlt : k < n
      · obtain ⟨l', hl', hrow⟩ := hrow.out
        obtain ⟨b', hb'⟩ := get_ex (l := l') (k := k) (by omega)
        obtain ⟨z0, z1, z2, z3, z4⟩ := Row.cells hrow hb'.out
        have f0 := one_free (j := k * 5) hrow
        have f1 := one_free (j := k * 5 + 1) hrow
        have f2 := one_free (j := k * 5 + 2) hrow
        have f3 := one_free (j := k * 5 + 3) hrow
        have f4 := one_free (j := k * 5 + 4) hrow
        have hput := hide (hrow.put (show k < l'.length by omega) ⟨9, 0, 0, 0, 0⟩)
        have hl2 : Hid ((l'.set k ⟨9, 0, 0, 0, 0⟩).length = n) := hide (by rw [List.length_set]; exact hl')
        replace hrow := hide hrow
        replace hl' := hide hl'
        go_wp2
        go_roundw
        case rel => exact ⟨k + 1, by omega, by go_num, hide ⟨_, hl2.out, hput.out⟩, hide (((((hup.out.setCell rfl).setCell rfl).setCell rfl).setCell rfl).setCell rfl)⟩
        case measure => simp [intOf]; omega
      · have hne : ∀ i, i < w9.heap.size → i ≠ q1 → wr.heap[i]? = w9.heap[i]? := fun i hi hn => hup.out.block i hi hn
        have hr2 : Row wr q2 (packS t v) := (hne q2 hrY2.out.lt (by have := hqq.out; omega)).trans hrY2.out
        have hown := hownY.out.kept (w' := wr) (row := some q1) ⟨hup.out.os, hup.out.tape, hup.out.output, hup.out.size, fun i hi hn => hne i hi (fun e => hn (by rw [e]))⟩ (by
          obtain ⟨xs, hxs⟩ := hownY.out.row
          cases hv : c.ownBlock with
          | none => exact .inl rfl
          | some i => exact .inr (fun e => by have h1 := (hxs.lt i hv).1; have h2 := hqq.out; have h3 := hq4.out; cases e; omega)) (Nat.zero_le _) (fun i hi => Nat.zero_le _)
        have cS := hide (same_true wr (row_rep hr2 hok.out hln.out (by omega)) (hown.rep (Nat.zero_le _)))
        have hbw := hide (hwY.out.trans (hup.out.below hwY.out.size (fun i hi => by rw [hi]; exact hqX.out)))
        clear hne hr2 hown
        go_wp2_with fail
        refine cS.out.mono ?_
        rintro e w10 ⟨rfl, hb10⟩
        replace hb10 := hide hb10
        go_wp2
        go_ret
        exact ⟨rfl, hbw.out.trans (hb10.out.mono hbw.out.size)⟩
end Go.Proofs.Ytgkgmeofilkopaa
