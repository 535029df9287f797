/- lathelaw09.alike and one, walked: a memory and the reference's that are alike stay so. No condition but numbers within their kinds. -/
import Derived.Test.YtgkgmeofilkopaaRwH
import Derived.Test.YtgkgmeofilkopaaMwN
import Derived.Test.YtgkgmeofilkopaaMwQ
import Derived.Test.YtgkgmeofilkopaaMwI
namespace Go.Proofs.Ytgkgmeofilkopaa
open Go.RowKit
set_option linter.unusedSimpArgs false
set_option linter.unusedVariables false

theorem same_true3 {l : List Byt} {c d : Value} (w : World) (ha : (Rp.slice 5 RByu).rep w w.heap.size [c] l) (hb : (Rp.slice 5 RByu).rep w w.heap.size [d] l) :
    Calls Try.prog 33 #[c, d] w fun e w' => e = .returned (.bool true) ∧ Below w.heap.size w w' := by
  have := same_any l l c d w ha hb
  rw [decide_eq_true rfl] at this
  exact this
set_option maxRecDepth 100000 in
set_option maxHeartbeats 6400000 in
theorem alike_any (g : Nat) (F : Nat → Prop) (B E : Nat) (c : Value) (bs : MemS) (w : World) (hM : MemIs w g F bs) (hR : RefM w B E c bs) (hs : bs.length ≤ 100000) :
    Calls Try.prog 60 #[.pointer (some ⟨g, 0, none⟩), c] w fun e w' => e = .returned (.bool true) ∧ Below w.heap.size w w' := by
  have cS : Hid (∀ W z, Below w.heap.size w W → Calls Try.prog 51 #[.pointer (some ⟨g, 0, none⟩), .int .i64 z] W fun e w' => e = .returned (.int .i64 (sizeS bs z)) ∧ W = w') := hide (fun W z hW => size_any _ F bs z W (hM.later hW))
  have cR : Hid (∀ W z, Below w.heap.size w W → Calls Try.prog 97 #[c, .int .i64 z] W fun e w' => e = .returned (.int .i64 (sizeS bs z)) ∧ W = w') := hide (fun W z hW => rsize_any B E c bs z W (hR.later hW))
  have cB : Hid (∀ W z, Below w.heap.size w W → Calls Try.prog 50 #[.pointer (some ⟨g, 0, none⟩), .int .i64 z] W (BytesPost (bytesS bs z) W)) := hide (fun W z hW => bytes_any _ F bs z W (hM.later hW))
  have cQ : Hid (∀ W z, Below w.heap.size w W → Calls Try.prog 98 #[c, .int .i64 z] W (BytesPost (bytesS bs z) W)) := hide (fun W z hW => rbytes_any B E c bs z W (hR.later hW))
  have hokA := hide (fun z => (hM.okb z).1)
  obtain ⟨A, C, hc⟩ := hR.form
  obtain ⟨N, hN⟩ : ∃ N, Hid (N = bs.length) := ⟨_, hide rfl⟩
  rw [← hN.out] at hs hc
  subst hc
  clear hM hR
  have hself := Below.refl w.heap.size w
  go_enter Try.func60, Try.ntmps60
  go_wp2_with fail
  go_loopw [5] (fun u5 wr => ∃ z : Int, -1 ≤ z ∧ z ≤ (N : Int) + 1 ∧ u5 = .int .i64 z ∧ Below w.heap.size w wr) (fun u5 _ => ((N : Int) + 1 - intOf u5).toNat)
  case atStart => exact ⟨-1, Int.le_refl _, by omega, rfl, hself⟩
  case round =>
    clear hself
    obtain ⟨z, hz1, hz2, rfl, hbel⟩ := hrel
    by_cases hlt : z ≤ (N : Int)
    · obtain ⟨sz, hsz⟩ : ∃ sz, Hid (sizeS bs z = sz) := ⟨_, hide rfl⟩
      obtain ⟨l, hl⟩ : ∃ l, Hid (bytesS bs z = l) := ⟨_, hide rfl⟩
      have hokl := hokA.out z
      rw [hl.out] at hokl
      replace hokl := hide hokl
      have hnn : (sz != sz) = false := by simp
      go_upto_region 3 with (first
        | (go_at_call 51; refine (cS.out _ _ hbel).mono ?_; rintro e w5 ⟨rfl, rfl⟩; rw [hsz.out])
        | (go_at_call 97; refine (cR.out _ _ hbel).mono ?_; rintro e w5 ⟨rfl, rfl⟩; rw [hsz.out])
        | (go_at_call 50; refine (cB.out _ _ hbel).mono ?_; rw [hl.out]; rintro e w5 ⟨A5, c5, rfl, hO5, hb4⟩; have hb5 := hbel.trans (hb4.mono hbel.size); replace hO5 := hide hO5; clear hb4)
        | (go_at_call 98; refine (cQ.out _ _ hb5).mono ?_; rw [hl.out]; rintro e w6 ⟨A6, c6, rfl, hO6, hb6⟩; have hO5b := hide (hO5.out.later hb6); have hb7 := hb5.trans (hb6.mono hb5.size); replace hO6 := hide hO6; clear hb6)
        | (go_at_call 33; refine (same_true3 w6 (hO5b.out.rep hokl.out) (hO6.out.rep hokl.out)).mono ?_; rintro e w7 ⟨rfl, hb8⟩; have hb9 := hb7.trans (hb8.mono hb7.size); clear hb8))
      go_wp2
      go_roundw
      case rel => exact ⟨z + 1, by omega, by omega, by go_num, hb9⟩
      case measure => simp [intOf]; omega
    · replace hbel := hide hbel
      go_wp2
      go_ret
      exact ⟨rfl, hbel.out⟩
/-- both memories behind a step: alike, and apart -/
def OnePost (g : Nat) (F : Nat → Prop) (bs : MemS) (s : Stp) (w : World) (e : Ending) (w' : World) : Prop :=
  ∃ (c : Value) (F' : Nat → Prop) (B' E' : Nat), e = .returned (.tuple #[c, .bool true]) ∧ MemIs w' g F' (stepK bs s) ∧ RefM w' B' E' c (stepK bs s) ∧ (∀ k, F' k → k < B' ∨ E' ≤ k) ∧ (∀ k, F' k → F k ∨ w.heap.size ≤ k) ∧ Upd F w w'
theorem Upd.pre2 {F : Nat → Prop} {a b c : World} (h : Below a.heap.size a b) (k : Upd F b c) : Upd F a c := (Upd.of_below h).trans k (fun _ h _ => h)
theorem Upd.post {F : Nat → Prop} {a b c : World} (k : Upd F a b) (h : Below b.heap.size b c) : Upd F a c := k.trans (Upd.of_below (F := F) h) (fun _ h _ => h)
set_option maxRecDepth 100000 in
set_option maxHeartbeats 12000000 in
theorem one_any (g : Nat) (F : Nat → Prop) (B E : Nat) (c : Value) (bs : MemS) (s : Stp) (w : World) (hM : MemIs w g F bs) (hR : RefM w B E c bs) (hd : ∀ k, F k → k < B ∨ E ≤ k) (hok : SOk s) (hs : bs.length ≤ 100000) :
    Calls Try.prog 59 #[.pointer (some ⟨g, 0, none⟩), c, .agg #[.int .i64 s.kind, .int .i64 s.a, .int .i64 s.b, .int .i64 s.t, .int .i64 s.v.kind, .int .u64 s.v.bits, .int .i64 s.v.block, .int .i64 s.v.off, .int .i64 s.at_.kind, .int .u64 s.at_.bits, .int .i64 s.at_.block, .int .i64 s.at_.off, .int .u8 s.byte]] w (OnePost g F bs s w) := by
  obtain ⟨X, hX, hwX, hXs, qq⟩ := boxes1 w #[.int .i64 s.kind, .int .i64 s.a, .int .i64 s.b, .int .i64 s.t, .int .i64 s.v.kind, .int .u64 s.v.bits, .int .i64 s.v.block, .int .i64 s.v.off, .int .i64 s.at_.kind, .int .u64 s.at_.bits, .int .i64 s.at_.block, .int .i64 s.at_.off, .int .u8 s.byte] 78
  have hself := Below.refl X.heap.size X
  have x0 := qq 0 _ rfl
  have x1 := qq 1 _ rfl
  have x2 := qq 2 _ rfl
  have x3 := qq 3 _ rfl
  have x4 := qq 4 _ rfl
  have x5 := qq 5 _ rfl
  have x6 := qq 6 _ rfl
  have x7 := qq 7 _ rfl
  have x8 := qq 8 _ rfl
  have x9 := qq 9 _ rfl
  have x10 := qq 10 _ rfl
  have x11 := qq 11 _ rfl
  have x12 := qq 12 _ rfl
  clear qq
  have hMX := hM.later hwX
  have hRX := hR.later hwX
  have hF := hM.lt
  have hFX : ∀ k, F k → k ≠ w.heap.size := fun k hk => by have := hF k hk; omega
  obtain ⟨A, C, hc⟩ := hR.form
  obtain ⟨L, hL⟩ : ∃ L, Hid (L = bs.length) := ⟨_, hide rfl⟩
  rw [← hL.out] at hc
  have hxs : w.heap.size < X.heap.size := by omega
  subst hc
  replace hXs := hide hXs
  replace hwX := hide hwX
  replace hX := hide hX
  replace hM := hide hM
  replace hd := hide hd
  replace hF := hide hF
  replace hFX := hide hFX
  replace hMX := hide hMX
  replace hRX := hide hRX
  clear hR
  by_cases k1 : s.kind = 1
  · have g1 : (s.kind == 1) = true := beq_iff_eq.2 k1
    have hst : Hid (stepK bs s = allocS bs s.a) := hide (by unfold stepK; rw [if_pos k1])
    replace k1 := hide k1
    go_enter Try.func59, Try.ntmps59
    go_upto_region 1 with (fail)
    rw [hX.out]
    clear hX
    have u1 : ∀ w', Upd F X w' → w'.cell? ⟨w.heap.size, 1, none⟩ = some (.int .i64 s.a) := fun w' h' => (cell_of_heap (h'.block _ hxs (fun hf => hFX.out _ hf rfl))).trans (x1 X hself)
    have hselfU : Upd F X X := Upd.of_below hself
    have cRA : Hid (∀ W', Upd F X W' → Calls Try.prog 92 #[.slice A L C, .int .i64 s.a] W' (RNewPost (allocS bs s.a) W')) := hide (fun W' h' => ralloc_any B E _ bs s.a W' (hRX.out.upd h' hd.out) hs)
    go_upto_region 3 with (fail)
    clear x0 x1 x2 x3 x4 x5 x6 x7 x8 x9 x10 x11 x12
    have hLL : ((L : Int) == (L : Int)) = true := by simp
    go_region_held3 (fun w' => Upd F X w') (first | (with_reducible assumption) | exact upd_drew (hide hselfU) | exact upd_drew (hide hu5) | exact upd_drew (hide hu6))
      (first
        | (go_at_call 92
           refine (cRA.out _ (by first | (with_reducible assumption) | exact upd_drew (hide hselfU))).mono ?_
           rintro e w5 ⟨c5, rfl, hR5, hb5⟩
           have hM5 := hide ((hMX.out.later (hself.drew)).later hb5)
           have hu5 : Upd F X w5 := Upd.pre2 (hself.drew) (Upd.of_below hb5)
           have hs5 := hide (show X.heap.size ≤ w5.heap.size from hb5.size)
           have hR5' : Hid (RefM w5 X.heap.size w5.heap.size c5 (allocS bs s.a)) := hide hR5
           clear hR5 hb5)
        | (go_at_call 48
           refine (alloc_any g F bs s.a w5 hM5.out (by omega)).mono ?_
           rintro e w6 ⟨rfl, hM6, hu6'⟩
           rw [← hL.out]
           have hu6 : Upd F X w6 := hu5.trans hu6' (fun _ h _ => h)
           have hR6 := hide (hR5'.out.upd hu6' (fun k hk => by have := hMX.out.lt k hk; omega))
           replace hM6 := hide hM6
           clear hu6'))
    have hu6h := hide hu6
    clear hu5 hselfU
    go_wp2
    go_ret2
    refine ⟨c5, _, X.heap.size, w5.heap.size, rfl, by rw [hst.out]; exact hM6.out, by rw [hst.out]; exact hR6.out, fun k hk => ?_, fun k hk => ?_, Upd.pre2 hwX.out hu6h.out⟩
    · rcases hk with hk | hk
      · have := hMX.out.lt k hk; omega
      · omega
    · rcases hk with hk | hk
      · exact .inl hk
      · have := hs5.out; right; omega
  · by_cases k2 : s.kind = 2
    · have g1 : (s.kind == 1) = false := beq_eq_false_iff_ne.2 k1
      have g2 : (s.kind == 2) = true := beq_iff_eq.2 k2
      have hst : Hid (stepK bs s = freeS bs s.a) := hide (by unfold stepK; rw [if_neg k1, if_pos k2])
      replace k1 := hide k1
      replace k2 := hide k2
      go_enter Try.func59, Try.ntmps59
      go_upto_region 1 with (fail)
      rw [hX.out]
      clear hX
      go_upto_region 6 with (go_at_call 52; refine (free_any g F bs s.a X hMX.out).mono ?_; rintro e w5 ⟨rfl, hM5, hU5⟩; replace hM5 := hide hM5; replace hU5 := hide hU5)
      have hR5 := hide (hRX.out.upd hU5.out hd.out)
      have u1 : w5.cell? ⟨w.heap.size, 1, none⟩ = some (.int .i64 s.a) := (cell_of_heap (hU5.out.block _ hxs (fun hf => hFX.out _ hf rfl))).trans (x1 X hself)
      clear x0 x1 x2 x3 x4 x5 x6 x7 x8 x9 x10 x11 x12
      go_wp2_with (go_at_call 93; refine (rfree_any B E _ bs s.a w5 hR5.out hs).mono ?_; rintro e w6 ⟨c6, rfl, hR6, hb6⟩; replace hR6 := hide hR6; replace hb6 := hide hb6)
      go_ret2
      exact ⟨c6, F, w5.heap.size, w6.heap.size, rfl, by rw [hst.out]; exact hM5.out.later hb6.out, by rw [hst.out]; exact hR6.out, fun k hk => .inl (hM5.out.lt k hk), fun k hk => .inl hk, Upd.pre2 hwX.out (hU5.out.post hb6.out)⟩
    · by_cases k3 : s.kind = 3
      · have g1 : (s.kind == 1) = false := beq_eq_false_iff_ne.2 k1
        have g2 : (s.kind == 2) = false := beq_eq_false_iff_ne.2 k2
        have g3 : (s.kind == 3) = true := beq_iff_eq.2 k3
        have hst : Hid (stepK bs s = bs) := hide (by unfold stepK; rw [if_neg k1, if_neg k2, if_neg (by omega), if_neg (by omega)])
        replace k1 := hide k1
        replace k2 := hide k2
        replace k3 := hide k3
        go_enter Try.func59, Try.ntmps59
        go_upto_region 1 with (fail)
        rw [hX.out]
        clear hX
        obtain ⟨x, hx⟩ : ∃ x, Hid (loadS bs s.t s.at_ = x) := ⟨_, hide rfl⟩
        obtain ⟨xv, xb⟩ := x
        have cL := hide (load_any g F bs s.t s.at_ X hMX.out)
        rw [hx.out] at cL
        have hbo : (xb == xb) = true := by simp
        go_upto_region 9 with (go_at_call 53; refine cL.out.mono ?_; rintro e w7 ⟨rfl, hb7⟩)
        have hY := hb7.alloc hb7.size (.cells #[.int .i64 xv.kind, .int .u64 xv.bits, .int .i64 xv.block, .int .i64 xv.off] 47)
        have hB1 := box_top w7 (.cells #[.int .i64 xv.kind, .int .u64 xv.bits, .int .i64 xv.block, .int .i64 xv.off] 47)
        obtain ⟨Y, hYe⟩ : ∃ Y, Y = w7.alloc (.cells #[.int .i64 xv.kind, .int .u64 xv.bits, .int .i64 xv.block, .int .i64 xv.off] 47) := ⟨_, rfl⟩
        have hs7 : w7.heap.size < Y.heap.size := by rw [hYe]; simp
        rw [← hYe] at hY hB1 ⊢
        clear hYe hb7
        obtain ⟨N1, hN1⟩ : ∃ N1, N1 = w7.heap.size := ⟨_, rfl⟩
        rw [← hN1] at hB1 hs7 ⊢
        clear hN1
        have cL2 := hide (rload_any B E _ bs s.t s.at_ Y (hRX.out.later hY))
        rw [hx.out] at cL2
        go_upto_region 10 with (go_at_call 94; refine cL2.out.mono ?_; rintro e w8 ⟨rfl, hb8⟩)
        have hZ := (hY.trans (hb8.mono hY.size)).alloc (Nat.le_trans hY.size hb8.size) (.cells #[.int .i64 xv.kind, .int .u64 xv.bits, .int .i64 xv.block, .int .i64 xv.off] 47)
        have hB2 := box_top w8 (.cells #[.int .i64 xv.kind, .int .u64 xv.bits, .int .i64 xv.block, .int .i64 xv.off] 47)
        have hB3 := one_alloc ((hb8.block N1 hs7).trans hB1) (.cells #[.int .i64 xv.kind, .int .u64 xv.bits, .int .i64 xv.block, .int .i64 xv.off] 47)
        obtain ⟨Z, hZe⟩ : ∃ Z, Z = w8.alloc (.cells #[.int .i64 xv.kind, .int .u64 xv.bits, .int .i64 xv.block, .int .i64 xv.off] 47) := ⟨_, rfl⟩
        rw [← hZe] at hZ hB2 hB3 ⊢
        clear hZe hb8 hB1 hY cL2 cL hs7 x0 x1 x2 x3 x4 x5 x6 x7 x8 x9 x10 x11 x12
        obtain ⟨r0, r1, r2, r3⟩ := four_cells hB2
        obtain ⟨p0, p1, p2, p3⟩ := four_cells hB3
        replace hB2 := hide hB2
        replace hB3 := hide hB3
        replace hZ := hide hZ
        go_wp2
        go_ret2
        exact ⟨_, F, B, E, rfl, by rw [hst.out]; exact hMX.out.later hZ.out, by rw [hst.out]; exact hRX.out.later hZ.out, hd.out, fun k hk => .inl hk, Upd.pre2 hwX.out (Upd.of_below hZ.out)⟩
      · by_cases k4 : s.kind = 4
        · have g1 : (s.kind == 1) = false := beq_eq_false_iff_ne.2 k1
          have g2 : (s.kind == 2) = false := beq_eq_false_iff_ne.2 k2
          have g3 : (s.kind == 3) = false := beq_eq_false_iff_ne.2 k3
          have g4 : (s.kind == 4) = true := beq_iff_eq.2 k4
          have hst : Hid (stepK bs s = (storeS bs s.t s.v s.at_).1) := hide (by unfold stepK; rw [if_neg k1, if_neg k2, if_pos k4])
          replace k1 := hide k1
          replace k2 := hide k2
          replace k3 := hide k3
          replace k4 := hide k4
          go_enter Try.func59, Try.ntmps59
          go_upto_region 1 with (fail)
          rw [hX.out]
          clear hX
          obtain ⟨ok, hok2⟩ : ∃ ok, Hid ((storeS bs s.t s.v s.at_).2 = ok) := ⟨_, hide rfl⟩
          have cR := hide (rstore_any B E _ bs s.t s.v s.at_ X hRX.out hs hok.v)
          unfold RStorePost at cR
          rw [hok2.out] at cR
          have hbo : (ok == ok) = true := by simp
          go_upto_region 13 with (go_at_call 95; refine cR.out.mono ?_; rintro e w5 ⟨c5, rfl, hR5, hb5⟩)
          have hM5 := hMX.out.later hb5
          have hs5 := hide hb5.size
          have hR5' := hide hR5
          clear hR5
          have cM := hide (store_any g F bs s.t s.v s.at_ w5 hM5 hok.v)
          unfold StorePost at cM
          rw [hok2.out] at cM
          clear cR hM5
          go_wp2_with (go_at_call 49; refine cM.out.mono ?_; rintro e w6 ⟨rfl, hM6, hU6⟩; replace hM6 := hide hM6; replace hU6 := hide hU6)
          replace hb5 := hide hb5
          go_ret2
          exact ⟨c5, F, X.heap.size, w5.heap.size, rfl, by rw [hst.out]; exact hM6.out, by rw [hst.out]; exact hR5'.out.upd hU6.out (fun k hk => .inl (hMX.out.lt k hk)), fun k hk => .inl (hMX.out.lt k hk), fun k hk => .inl hk, Upd.pre2 hwX.out (Upd.pre2 hb5.out hU6.out)⟩
        · by_cases k5 : s.kind = 5
          · have g1 : (s.kind == 1) = false := beq_eq_false_iff_ne.2 k1
            have g2 : (s.kind == 2) = false := beq_eq_false_iff_ne.2 k2
            have g3 : (s.kind == 3) = false := beq_eq_false_iff_ne.2 k3
            have g4 : (s.kind == 4) = false := beq_eq_false_iff_ne.2 k4
            have g5 : (s.kind == 5) = true := beq_iff_eq.2 k5
            have hst : Hid (stepK bs s = (setS bs s.a s.b s.byte).1) := hide (by unfold stepK; rw [if_neg k1, if_neg k2, if_neg k4, if_pos k5])
            replace k1 := hide k1
            replace k2 := hide k2
            replace k3 := hide k3
            replace k4 := hide k4
            replace k5 := hide k5
            go_enter Try.func59, Try.ntmps59
            go_upto_region 1 with (fail)
            rw [hX.out]
            clear hX
            obtain ⟨ok, hok2⟩ : ∃ ok, Hid ((setS bs s.a s.b s.byte).2 = ok) := ⟨_, hide rfl⟩
            have cR := hide (rset_any B E _ bs s.a s.b s.byte X hRX.out hs hok.byte)
            unfold RSetPost at cR
            rw [hok2.out] at cR
            have hbo : (ok == ok) = true := by simp
            go_upto_region 16 with (go_at_call 96; refine cR.out.mono ?_; rintro e w5 ⟨c5, rfl, hR5, hb5⟩)
            have hM5 := hMX.out.later hb5
            have hs5 := hide hb5.size
            have hR5' := hide hR5
            clear hR5
            have cM := hide (set_any g F bs s.a s.b s.byte w5 hM5 hok.byte)
            unfold SetPost at cM
            rw [hok2.out] at cM
            clear cR hM5
            go_wp2_with (go_at_call 54; refine cM.out.mono ?_; rintro e w6 ⟨rfl, hM6, hU6⟩; replace hM6 := hide hM6; replace hU6 := hide hU6)
            replace hb5 := hide hb5
            go_ret2
            exact ⟨c5, F, X.heap.size, w5.heap.size, rfl, by rw [hst.out]; exact hM6.out, by rw [hst.out]; exact hR5'.out.upd hU6.out (fun k hk => .inl (hMX.out.lt k hk)), fun k hk => .inl (hMX.out.lt k hk), fun k hk => .inl hk, Upd.pre2 hwX.out (Upd.pre2 hb5.out hU6.out)⟩
          · have g1 : (s.kind == 1) = false := beq_eq_false_iff_ne.2 k1
            have g2 : (s.kind == 2) = false := beq_eq_false_iff_ne.2 k2
            have g3 : (s.kind == 3) = false := beq_eq_false_iff_ne.2 k3
            have g4 : (s.kind == 4) = false := beq_eq_false_iff_ne.2 k4
            have g5 : (s.kind == 5) = false := beq_eq_false_iff_ne.2 k5
            have hst : Hid (stepK bs s = bs) := hide (by unfold stepK; rw [if_neg k1, if_neg k2, if_neg k4, if_neg k5])
            replace k1 := hide k1
            replace k2 := hide k2
            replace k3 := hide k3
            replace k4 := hide k4
            replace k5 := hide k5
            go_enter Try.func59, Try.ntmps59
            go_upto_region 1 with (fail)
            rw [hX.out]
            clear hX
            obtain ⟨z, hz⟩ : ∃ z, Hid (sizeS bs s.a = z) := ⟨_, hide rfl⟩
            have cS1 : Hid (∀ W, Below X.heap.size X W → Calls Try.prog 51 #[.pointer (some ⟨g, 0, none⟩), .int .i64 s.a] W fun e w' => e = .returned (.int .i64 z) ∧ W = w') := hide (fun W hW => by rw [← hz.out]; exact size_any _ F bs s.a W (hMX.out.later hW))
            have cS2 : Hid (∀ W, Below X.heap.size X W → Calls Try.prog 97 #[.slice A L C, .int .i64 s.a] W fun e w' => e = .returned (.int .i64 z) ∧ W = w') := hide (fun W hW => by rw [← hz.out]; exact rsize_any B E _ bs s.a W (hRX.out.later hW))
            have hzz : (z == z) = true := by simp
            go_upto_region 17 with (fail)
            go_region_held3 (fun w' => Below X.heap.size X w') (first | (with_reducible assumption) | exact hself.drew)
              (first
                | (go_at_call 51; refine (cS1.out _ (by first | (with_reducible assumption) | exact hself.drew)).mono ?_; rintro e w5 ⟨rfl, rfl⟩)
                | (go_at_call 97; refine (cS2.out _ (by first | (with_reducible assumption) | exact hself.drew)).mono ?_; rintro e w6 ⟨rfl, rfl⟩))
            go_wp2
            go_ret2
            exact ⟨_, F, B, E, rfl, by rw [hst.out]; exact hMX.out.later hself.drew, by rw [hst.out]; exact hRX.out.later hself.drew, hd.out, fun k hk => .inl hk, Upd.pre2 hwX.out (Upd.of_below hself.drew)⟩
end Go.Proofs.Ytgkgmeofilkopaa
